/-
  What all walks of this seat lean on: which blocks a call may write ('Upd'), rows of cells known whole ('Row'), and rows of structs laid flat.
  What the chip computes, as plain functions on plain data: no memory, no Go. Amounts that Go counts round at 64 bits are counted round here.
  What layers 1, 2, 4 and 6 compute: numbers as bytes, checks, tags: plain functions on plain data.
  What layers 8, 11 and 14 compute: drives, pools, streams: plain functions on plain data.
  How a chip, and a drive, lie in memory: which blocks hold them, cell by cell.
  A region that draws its order: its head only reads (its callees make new memory alone), its tail is forced behind all of it. The head is walked once, in the order of the text; the tail behind it, as it stands.
  What 'make' makes, as lists of cells.
-/
import Derived.WalkKit
import Derived.WalkLawsBesides
import Derived.WalkSpells
import Derived.BigQuiet
import Derived.Deep.QuietTactic
import Derived.StillTail
import Derived.Test.YtljphijjcagciaaChecked
namespace Go.Proofs.Ytljphijjcagciaa
open Go.RowKit

/-- From w to w' only blocks of S, and new ones, were written. -/
structure Upd (S : Nat → Prop) (w w' : World) : Prop where
  os : w'.os = w.os
  tape : w'.tape = w.tape
  output : w'.output = w.output
  size : w.heap.size ≤ w'.heap.size
  block : ∀ k, k < w.heap.size → ¬ S k → w'.heap[k]? = w.heap[k]?

def noBlk : Nat → Prop := fun _ => False

theorem Upd.refl (S : Nat → Prop) (w : World) : Upd S w w := ⟨rfl, rfl, rfl, Nat.le_refl _, fun _ _ _ => rfl⟩
theorem Upd.mono {S T : Nat → Prop} {w w' : World} (h : Upd S w w') (hs : ∀ k, k < w.heap.size → S k → T k) : Upd T w w' :=
  ⟨h.os, h.tape, h.output, h.size, fun k hk hn => h.block k hk fun hs' => hn (hs k hk hs')⟩
theorem Upd.trans {S T : Nat → Prop} {a b c : World} (h : Upd S a b) (k : Upd T b c) (hs : ∀ i, i < a.heap.size → T i → S i) : Upd S a c :=
  ⟨k.os.trans h.os, k.tape.trans h.tape, k.output.trans h.output, Nat.le_trans h.size k.size,
    fun i hi hn => (k.block i (Nat.lt_of_lt_of_le hi h.size) fun ht => hn (hs i hi ht)).trans (h.block i hi hn)⟩
theorem Upd.trans' {S : Nat → Prop} {a b c : World} (h : Upd S a b) (k : Upd S b c) : Upd S a c := h.trans k fun _ _ h => h
theorem Upd.alloc {S : Nat → Prop} {a w : World} (h : Upd S a w) (o : Obj) : Upd S a (w.alloc o) :=
  ⟨h.os, h.tape, h.output, by have := h.size; simp; omega, fun k hk hn => (heap_alloc_old w o (Nat.lt_of_lt_of_le hk h.size)).trans (h.block k hk hn)⟩
theorem Upd.drew {S : Nat → Prop} {a w : World} (h : Upd S a w) : Upd S a w.drew := ⟨h.os, h.tape, h.output, h.size, h.block⟩
theorem Upd.drewN {S : Nat → Prop} {a w : World} (h : Upd S a w) (n : Nat) : Upd S a (w.drewN n) := ⟨h.os, h.tape, h.output, h.size, h.block⟩
theorem Upd.setCell {S : Nat → Prop} {a w : World} (h : Upd S a w) {p : Addr} (hp : S p.block ∨ a.heap.size ≤ p.block) (u : Value) : Upd S a (w.setCell p u) :=
  ⟨h.os, h.tape, h.output, by have := h.size; simpa using this, fun k hk hn => by
    rw [Below.heap_setCell w p u k (fun e => by subst e; rcases hp with hp | hp; · exact hn hp
                                                · omega)]
    exact h.block k hk hn⟩
theorem Upd.of_below {w w' : World} (h : Below w.heap.size w w') (S : Nat → Prop) : Upd S w w' := ⟨h.os, h.tape, h.output, h.size, fun k hk _ => h.block k hk⟩
theorem Upd.below {w w' : World} {S : Nat → Prop} (h : Upd S w w') (hs : ∀ k, k < w.heap.size → ¬ S k) : Below w.heap.size w w' := ⟨h.os, h.tape, h.output, h.size, fun k hk => h.block k hk (hs k hk)⟩

/-- The whole block b: these cells, of element type t, none frozen. -/
def Row (w : World) (b : Nat) (t : TypeId) (cs : List Value) : Prop := w.heap[b]? = some (.cells cs.toArray t (0, 0))

theorem Row.lt {w : World} {b : Nat} {t : TypeId} {cs : List Value} (h : Row w b t cs) : b < w.heap.size := (Array.getElem?_eq_some_iff.1 h).1
theorem Row.cell {w : World} {b : Nat} {t : TypeId} {cs : List Value} (h : Row w b t cs) (i : Nat) : w.cell? ⟨b, i, none⟩ = cs[i]? := by
  have := cell_of_row w b i cs.toArray t (0, 0) h; simpa using this
theorem Row.get {w : World} {b : Nat} {t : TypeId} {cs : List Value} (h : Row w b t cs) {i : Nat} {v : Value} (hv : cs[i]? = some v) : w.cell? ⟨b, i, none⟩ = some v := (h.cell i).trans hv
theorem Row.frozen {w : World} {b : Nat} {t : TypeId} {cs : List Value} (h : Row w b t cs) (i : Nat) : w.frozen? ⟨b, i, none⟩ = false := by
  simp [World.frozen?, Row] at h ⊢; rw [h]; simp
theorem Row.set {w : World} {b : Nat} {t : TypeId} {cs : List Value} (h : Row w b t cs) (i : Nat) (u : Value) : Row (w.setCell ⟨b, i, none⟩ u) b t (cs.set i u) := by
  unfold Row at *
  simp [World.setCell, Array.getElem?_modify, h]
theorem Row.put {w : World} {b : Nat} {t : TypeId} {cs cs' : List Value} (h : Row w b t cs) (i : Nat) (u : Value) (e : cs.set i u = cs') : Row (w.setCell ⟨b, i, none⟩ u) b t cs' := e ▸ h.set i u
theorem Row.far {w : World} {b : Nat} {t : TypeId} {cs : List Value} (h : Row w b t cs) {p : Addr} (hp : b ≠ p.block) (u : Value) : Row (w.setCell p u) b t cs := by
  unfold Row at *; rw [Below.heap_setCell w p u b hp]; exact h
theorem Row.alloc {w : World} {b : Nat} {t : TypeId} {cs : List Value} (h : Row w b t cs) (o : Obj) : Row (w.alloc o) b t cs := (heap_alloc_old w o h.lt).trans h
theorem Row.drew {w : World} {b : Nat} {t : TypeId} {cs : List Value} (h : Row w b t cs) : Row w.drew b t cs := h
theorem Row.drewN {w : World} {b : Nat} {t : TypeId} {cs : List Value} (h : Row w b t cs) (n : Nat) : Row (w.drewN n) b t cs := h
theorem Row.upd {w w' : World} {S : Nat → Prop} {b : Nat} {t : TypeId} {cs : List Value} (h : Row w b t cs) (hu : Upd S w w') (hn : ¬ S b) : Row w' b t cs := (hu.block b h.lt hn).trans h
theorem Row.new (w : World) (cs : List Value) (t : TypeId) : Row (w.alloc (.cells cs.toArray t)) w.heap.size t cs := heap_alloc_new w _
theorem Row.ne {w : World} {b b' : Nat} {t t' : TypeId} {cs cs' : List Value} (h : Row w b t cs) (h' : Row w b' t' cs') (ht : t ≠ t') : b ≠ b' := by
  rintro rfl; unfold Row at h h'; rw [h] at h'; simp at h'; exact ht h'.2
theorem Row.inj {w : World} {b : Nat} {t t' : TypeId} {cs cs' : List Value} (h : Row w b t cs) (h' : Row w b t' cs') : cs = cs' := by
  unfold Row at h h'; rw [h] at h'; simp at h'; exact h'.1

/-- Structs laid flat, the p-th onward. -/
def flat {α : Type} (f : Nat → α → List Value) : Nat → List α → List Value
  | _, [] => []
  | p, x :: r => f p x ++ flat f (p + 1) r

theorem flat_length {α : Type} {f : Nat → α → List Value} {n : Nat} (hf : ∀ p x, (f p x).length = n) : ∀ (p : Nat) (xs : List α), (flat f p xs).length = xs.length * n
  | _, [] => by simp [flat]
  | p, x :: r => by simp [flat, hf, flat_length hf, Nat.succ_mul]; omega
theorem flat_get {α : Type} {f : Nat → α → List Value} {n : Nat} (hf : ∀ p x, (f p x).length = n) : ∀ (p : Nat) (xs : List α) (k j : Nat) (x : α), xs[k]? = some x → j < n → (flat f p xs)[k * n + j]? = (f (p + k) x)[j]?
  | _, [], k, _, _, h, _ => by simp at h
  | p, y :: r, 0, j, x, h, hj => by
    simp at h; subst h
    simp [flat, List.getElem?_append_left (show j < (f p y).length by rw [hf]; exact hj)]
  | p, y :: r, k + 1, j, x, h, hj => by
    have ih := flat_get hf (p + 1) r k j x (by simpa using h) hj
    have e : (k + 1) * n + j = n + (k * n + j) := by rw [Nat.succ_mul]; omega
    rw [e, flat, List.getElem?_append_right (by rw [hf]; omega), hf, Nat.add_sub_cancel_left, ih]
    congr 2; omega
theorem flat_set {α : Type} {f : Nat → α → List Value} {n : Nat} (hf : ∀ p x, (f p x).length = n) : ∀ (p : Nat) (xs : List α) (k j : Nat) (x x' : α) (u : Value), xs[k]? = some x → j < n → (f (p + k) x).set j u = f (p + k) x' → (flat f p xs).set (k * n + j) u = flat f p (xs.set k x')
  | _, [], k, _, _, _, _, h, _, _ => by simp at h
  | p, y :: r, 0, j, x, x', u, h, hj, e => by
    simp at h; subst h
    simp only [Nat.add_zero] at e
    simp only [Nat.zero_mul, Nat.zero_add, flat, List.set_cons_zero]
    rw [List.set_append_left _ _ (by rw [hf]; exact hj), e]
  | p, y :: r, k + 1, j, x, x', u, h, hj, e => by
    have ih := flat_set hf (p + 1) r k j x x' u (by simpa using h) hj (by rw [show p + 1 + k = p + (k + 1) by omega]; exact e)
    have e2 : (k + 1) * n + j = n + (k * n + j) := by rw [Nat.succ_mul]; omega
    rw [e2]
    simp only [flat, List.set_cons_succ]
    rw [List.set_append_right _ _ (by rw [hf]; omega), hf, Nat.add_sub_cancel_left, ih]

/-- The worlds in which nothing that w has was written. -/
def UW (w : World) : Type := { w' : World // Upd noBlk w w' }
def UW.w {w0 : World} (x : UW w0) : World := x.1
theorem UW.upd {w0 : World} (x : UW w0) : Upd noBlk w0 x.w := x.2
theorem UW.cell {w0 : World} (x : UW w0) {a : Addr} {v : Value} (h : w0.cell? a = some v) : x.w.cell? a = some v :=
  (World.cell?_of_block (x.2.block a.block (World.block_lt_of_cell? w0 a h) id)).trans h
theorem UW.call {P : Program} {f : FuncId} {args : Array Value} {w0 : World} {n : UW w0} {v : Value} (h : Calls P f args n.w fun e w' => e = .returned v ∧ Upd noBlk n.w w') :
    Calls P f args n.w fun e w' => e = .returned v ∧ ∃ m : UW w0, w' = m.w :=
  h.mono fun _ w' ⟨he, hu⟩ => ⟨he, ⟨w', n.2.trans' hu⟩, rfl⟩
theorem UW.call_same {P : Program} {f : FuncId} {args : Array Value} {w0 : World} {n : UW w0} {v : Value} (h : Calls P f args n.w fun e w' => e = .returned v ∧ n.w = w') :
    Calls P f args n.w fun e w' => e = .returned v ∧ ∃ m : UW w0, w' = m.w :=
  h.mono fun _ w' ⟨he, hu⟩ => ⟨he, ⟨w', by rw [← hu]; exact n.2⟩, rfl⟩
/-- A region that draws its order, whose operations only read and whose callees make new memory alone: walked once, in the order of the text. -/
theorem wp_region_upd {P : Program} {id : Nat} {Q : Exit → Act → World → Prop} {a : Act} {w : World} {l : List Oper} (hm : P.follows .mixedOrders = true) (hB : Region.lexB .any l.toArray = true)
    (h : wpQuiet P l.toArray (fun w' => ∃ n : UW w, w' = n.w) (fun a' => ∀ w', (∃ n : UW w, w' = n.w) → Q .normal a' w') l a) : (Code.region id l.toArray true).wp P Q a w :=
  wp_region_quiet (C := fun w' => ∃ n : UW w, w' = n.w) hm hB ⟨⟨{ w with drawn := w.drawn + 1 }, ⟨rfl, rfl, rfl, Nat.le_refl _, fun _ _ _ => rfl⟩⟩, rfl⟩ (by simpa using h)

theorem Row.uw {W : World} {b : Nat} {t : TypeId} {cs : List Value} (h : Row W b t cs) {i : Nat} {v : Value} (hv : cs[i]? = some v) (n : UW W) : n.w.cell? ⟨b, i, none⟩ = some v := n.cell (h.get hv)
/-- What is new since w is written alone. -/
theorem Upd.fresh {S : Nat → Prop} {w w1 w2 : World} (h : Upd noBlk w w1) (h2 : Upd S w1 w2) (hS : ∀ k, S k → w.heap.size ≤ k) : Upd noBlk w w2 := h.trans h2 fun i hi hs => absurd (hS i hs) (by omega)

/-- A fact put where the walk does not take it for a rule. -/
theorem hid {p : Prop} (h : p) : Hid p := h

end Go.Proofs.Ytljphijjcagciaa

namespace Go.Proofs.Ytljphijjcagciaa
open Go.RowKit

def inc (n : Int) : Int := wrap64 (n + 1)
def mkS (l : List UInt8) : ByteArray := ⟨l.toArray⟩
def bs (s : ByteArray) : List UInt8 := s.data.toList
def repL (l : List UInt8) : Nat → List UInt8
  | 0 => []
  | c + 1 => l ++ repL l c
def repS (s : ByteArray) (n : Nat) : ByteArray := mkS (repL (bs s) n)

/-! nand -/
structure Blk where
  pages : List ByteArray
  next : Int
  erases : Int
  weak : Bool
  mill : Bool
  failed : Bool
  deriving Inhabited
structure Chip where
  nb : Int
  np : Int
  sz : Int
  bl : List Blk
  fuse : Int
  torn : ByteArray
  off : Bool
  progs : Int
  ers : Int
  sins : Int
  deriving Inhabited

def shapeRight (b p s : Int) : Bool := decide (4 ≤ b) && decide (b ≤ 256) && decide (2 ≤ p) && decide (p ≤ 64) && decide (32 ≤ s) && decide (s ≤ 1024)
def Chip.has (c : Chip) (k : Int) : Bool := decide (0 ≤ k) && decide (k < c.bl.length)
def Chip.at (c : Chip) (k : Int) : Blk := c.bl.getD k.toNat default
def Chip.put (c : Chip) (k : Int) (b : Blk) : Chip := { c with bl := c.bl.set k.toNat b }
def Chip.whole (c : Chip) : Nat := c.sz.toNat + 32
def Chip.ready (c : Chip) (block page : Int) : Int :=
  if c.off then 9 else if !c.has block || decide (page < 0) || decide (c.np ≤ page) then 3 else 0
def Chip.ff (c : Chip) : ByteArray := repS (mkS [255]) c.whole
def Chip.read (c : Chip) (block page : Int) : ByteArray × ByteArray × Int :=
  if c.ready block page ≠ 0 then (mkS [], mkS [], c.ready block page) else
  let s := (c.at block).pages.getD page.toNat (mkS [])
  let s := if s.size = 0 then c.ff else s
  (s.extract 0 c.sz.toNat, s.extract c.sz.toNat s.size, 0)
def Chip.sin (c : Chip) : Chip := { c with sins := inc c.sins }
/-- A program (false) or an erase (true) is done: is it cut? -/
def Chip.burn (c : Chip) (er : Bool) : Bool × Chip :=
  let c := if er then { c with ers := inc c.ers } else { c with progs := inc c.progs }
  if c.fuse = 0 then (false, c) else (decide (c.fuse = 1), { c with fuse := c.fuse - 1, off := decide (c.fuse = 1) })
def Chip.kept (c : Chip) (s : ByteArray) : ByteArray := if s = c.ff then mkS [] else s
def Chip.tear (c : Chip) : ByteArray :=
  if c.torn.size = 0 then mkS [] else c.kept ((repS c.torn (c.whole / c.torn.size + 1)).extract 0 c.whole)
def Chip.program (c : Chip) (block page : Int) (data beside : ByteArray) : Int × Chip :=
  if c.ready block page ≠ 0 then (c.ready block page, c) else
  let b := c.at block
  if (data.size : Int) ≠ c.sz || beside.size ≠ 32 then (2, c) else
  if b.failed then (12, c.sin) else
  if page ≠ b.next then (11, c.sin) else
  let b := { b with next := inc b.next }
  let c := c.put block b
  let (cut, c) := c.burn false
  if cut then (9, c.put block { b with pages := b.pages.set page.toNat c.tear }) else
  if b.weak then (10, c.put block { b with failed := true, pages := b.pages.set page.toNat (repS (mkS [0]) c.whole) }) else
  (0, c.put block { b with pages := b.pages.set page.toNat (c.kept (data ++ beside)) })
/-- Of a block's first k pages those that are told so are erased; the next one is behind the last that isn't. -/
def Blk.clearN (b : Blk) (which : Nat → Bool) : Nat → Blk
  | 0 => { b with next := 0 }
  | k + 1 =>
    let c := b.clearN which k
    let p := if which k then mkS [] else c.pages.getD k (mkS [])
    { c with pages := c.pages.set k p, next := if p.size = 0 then c.next else (k : Int) + 1 }
def allPg (_ : Nat) : Bool := true
def Blk.clear (b : Blk) (which : Nat → Bool) : Blk := b.clearN which b.pages.length
def Chip.tornBit (c : Chip) (page : Nat) : Bool := c.torn.size == 0 || (bits .and .u8 (((bs c.torn).getD (page % c.torn.size) 0).toNat : Int) 1 == 1)
def Chip.erase (c : Chip) (block : Int) : Int × Chip :=
  if c.ready block 0 ≠ 0 then (c.ready block 0, c) else
  let b := c.at block
  if b.failed then (12, c.sin) else
  let (cut, c) := c.burn true
  if cut then (9, c.put block (b.clear c.tornBit)) else
  if b.weak then (10, c.put block { b with failed := true }) else
  (0, c.put block { b.clear allPg with erases := inc b.erases })
def Chip.fuse' (c : Chip) (n : Int) (torn : ByteArray) : Chip := { c with fuse := max n 0, torn := torn }
def Chip.on (c : Chip) : Chip := { c with off := false, fuse := 0, bl := c.bl.map fun b => { b with failed := b.mill } }
def Chip.wreck (c : Chip) (k : Int) : Chip := if c.has k then c.put k { c.at k with weak := true } else c
def freshBlk (np : Int) : Blk := ⟨List.replicate np.toNat (mkS []), 0, 0, false, false, false⟩
def badPage (sz : Int) : ByteArray := repS (mkS [255]) sz.toNat ++ mkS [0] ++ repS (mkS [255]) 31
def Chip.mark (c : Chip) (k : Int) : Chip :=
  if c.has k then c.put k { c.at k with weak := true, mill := true, failed := true, pages := (c.at k).pages.set 0 (badPage c.sz) } else c
def Chip.fresh (nb np sz : Int) : Chip := ⟨nb, np, sz, List.replicate nb.toNat (freshBlk np), 0, mkS [], false, 0, 0, 0⟩
def Chip.new (nb np sz : Int) (bad : List Int) : Chip := bad.foldl Chip.mark (Chip.fresh nb np sz)

end Go.Proofs.Ytljphijjcagciaa

namespace Go.Proofs.Ytljphijjcagciaa
open Go.RowKit

/-! be -/
def putB (n w : Nat) : List UInt8 := (List.range w).map fun i => UInt8.ofNat (n / 256 ^ (w - 1 - i))
def getB (l : List UInt8) : Nat := l.foldl (fun n b => (n * 256 + b.toNat) % 18446744073709551616) 0
def mayB (w : Int) : Bool := decide (1 ≤ w) && decide (w ≤ 8)

/-! poly -/
def stepBit (y : Int) : Int := if bits .and .u32 y 2147483648 != 0 then bits .xor .u32 (y * 2 % 4294967296) 79764919 else y * 2 % 4294967296
def stepN : Nat → Int → Int
  | 0, y => y
  | k + 1, y => stepBit (stepN k y)
@[irreducible] def polyTab : List Int := (List.range 256).map fun (b : Nat) => stepN 8 ((b : Int) * 16777216)
def crcByte (state : Int) (b : UInt8) : Int := bits .xor .u32 (state * 256 % 4294967296) (polyTab.getD (bits .xor .u8 (state / 16777216) (b.toNat : Int)).toNat 0)
def crcMore (state : Int) (l : List UInt8) : Int := l.foldl crcByte state
def crcLast (state : Int) : Int := bits .xor .u32 4294967295 state
def crcOf (data beside : ByteArray) : Int := crcLast (crcMore (crcMore 4294967295 (bs data)) (bs beside))

/-! tag -/
structure Tag where
  kind : Int
  logical : Int
  seq : Int
  pos : Int
  len : Int
  deriving DecidableEq, Inhabited
def Tag.none : Tag := ⟨0, 0, 0, 0, 0⟩
def Tag.right (t : Tag) : Bool :=
  decide (1 ≤ t.kind) && decide (t.kind ≤ 3) && decide (0 ≤ t.logical) && decide (t.logical ≤ 65535) && decide (1 ≤ t.len) && decide (t.len ≤ 255) && decide (0 ≤ t.pos) && decide (t.pos < t.len)
def Tag.bytes (t : Tag) : List UInt8 :=
  255 :: (putB t.kind.toNat 1 ++ putB t.logical.toNat 2 ++ putB t.seq.toNat 8 ++ putB t.pos.toNat 1 ++ putB t.len.toNat 1 ++ List.replicate 14 0)
def sumB (data beside : ByteArray) : List UInt8 := putB (crcOf data beside).toNat 4
/-- The bytes beside a page, of a tag that may be. -/
def Tag.beside (t : Tag) (data : ByteArray) : ByteArray := mkS (t.bytes ++ sumB data (mkS t.bytes))
def Tag.read (l : List UInt8) : Tag :=
  ⟨getB ((l.drop 1).take 1), getB ((l.drop 2).take 2), getB ((l.drop 4).take 8), getB ((l.drop 12).take 1), getB ((l.drop 13).take 1)⟩
/-- The tag beside a page, and 0, 4 (no form) or 5 (the sum). -/
def Tag.parse (data beside : ByteArray) : Tag × Int :=
  let t := Tag.read (bs beside)
  if !t.right || decide (t.bytes ≠ (bs beside).take 28) then (Tag.none, 4)
  else if sumB data (mkS ((bs beside).take 28)) ≠ (bs beside).drop 28 then (Tag.none, 5)
  else (t, 0)
def allFF (s : ByteArray) : Bool := decide (s = repS (mkS [255]) s.size)
def factoryB (beside : ByteArray) : Bool := !decide ((bs beside).take 1 = [255])

end Go.Proofs.Ytljphijjcagciaa

namespace Go.Proofs.Ytljphijjcagciaa
open Go.RowKit

/-! drive -/
structure Drive where
  chip : Chip
  bad : List Bool
  next : List Int
  deriving Inhabited
structure Page where
  state : Int
  tag : Tag
  data : ByteArray
  deriving Inhabited
def Page.none : Page := ⟨0, Tag.none, mkS []⟩
def Drive.new (c : Chip) : Drive := ⟨c, List.replicate c.bl.length false, List.replicate c.bl.length (-1)⟩
def Drive.forget (d : Drive) : Drive := { d with next := List.replicate d.next.length (-1) }
def Drive.is (d : Drive) (k : Int) : Bool := decide (0 ≤ k) && decide (k < d.bad.length)
def Drive.mark (d : Drive) (k : Int) : Drive := if d.is k then { d with bad := d.bad.set k.toNat true, next := d.next.set k.toNat (-1) } else d
def Drive.isBad (d : Drive) (k : Int) : Bool := d.is k && d.bad.getD k.toNat false
def Drive.nextOf (d : Drive) (k : Int) : Int := if d.is k then d.next.getD k.toNat 0 else -1
def pageState (page : Int) (data beside : ByteArray) : Int × Tag :=
  let (t, e) := Tag.parse data beside
  if e = 0 then (4, t) else if page = 0 && factoryB beside then (3, Tag.none) else (2, Tag.none)
def Drive.read (d : Drive) (block page : Int) : Page × Int :=
  let (data, beside, e) := d.chip.read block page
  if e ≠ 0 then (Page.none, e) else
  if allFF (data ++ beside) then (⟨1, Tag.none, data⟩, 0) else
  let (s, t) := pageState page data beside
  (⟨s, t, data⟩, 0)
def Drive.ready (d : Drive) (block : Int) : Int := if !d.is block then 3 else if d.bad.getD block.toNat false then 12 else 0
def Drive.learn (d : Drive) (block e : Int) : Drive := if e = 10 then d.mark block else if e = 9 then d.forget else d
def Drive.program (d : Drive) (block : Int) (t : Tag) (data : ByteArray) : Int × Int × Drive :=
  if d.ready block ≠ 0 then (0, d.ready block, d) else
  let page := d.next.getD block.toNat 0
  if !t.right || decide ((data.size : Int) ≠ d.chip.sz) then (0, 2, d) else
  if page = -1 || decide (d.chip.np ≤ page) then (0, 11, d) else
  let (e, c) := d.chip.program block page data (t.beside data)
  let d := ({ d with chip := c }).learn block e
  if e ≠ 0 then (0, e, d) else (page, 0, { d with next := d.next.set block.toNat (inc page) })
def Drive.erase (d : Drive) (block : Int) : Int × Drive :=
  if d.ready block ≠ 0 then (d.ready block, d) else
  let (e, c) := d.chip.erase block
  let d := ({ d with chip := c }).learn block e
  if e = 0 then (0, { d with next := d.next.set block.toNat 0 }) else (e, d)

/-! pool -/
structure PBlk where
  st : Int
  wear : Int
  deriving Inhabited
structure Pool where
  bl : List PBlk
  deriving Inhabited
def Pool.new (n : Int) : Pool := ⟨List.replicate n.toNat ⟨1, 0⟩⟩
def Pool.has (p : Pool) (k : Int) : Bool := decide (0 ≤ k) && decide (k < p.bl.length)
def Pool.at (p : Pool) (k : Int) : PBlk := p.bl.getD k.toNat default
def Pool.state (p : Pool) (k : Int) : Int := if p.has k then (p.at k).st else 0
def Pool.wear (p : Pool) (k : Int) : Int := if p.has k then (p.at k).wear else 0
def Pool.set (p : Pool) (k s : Int) : Int × Pool :=
  if !p.has k then (3, p) else if decide (s < 1) || decide (3 < s) then (2, p) else if (p.at k).st = 3 then (12, p) else
  (0, ⟨p.bl.set k.toNat { p.at k with st := s }⟩)
def Pool.worn (p : Pool) (k n : Int) : Int × Pool :=
  if !p.has k then (3, p) else if n < 0 then (2, p) else (0, ⟨p.bl.set k.toNat { p.at k with wear := n }⟩)
/-- The first free block that comes ahead of all others ('lt' of the wears). -/
def bestP (lt : Int → Int → Bool) : List PBlk → Nat → Option (Nat × Int) → Option (Nat × Int)
  | [], _, b => b
  | x :: r, k, b => bestP lt r (k + 1) (if x.st = 1 && (match b with | none => true | some (_, w) => lt x.wear w) then some (k, x.wear) else b)
def Pool.choose (p : Pool) (lt : Int → Int → Bool) : Int × Int × Pool :=
  match bestP lt p.bl 0 none with
  | none => (0, 13, p)
  | some (k, _) => (k, 0, ⟨p.bl.set k { p.at k with st := 2 }⟩)
def Pool.take (p : Pool) : Int × Int × Pool := p.choose (fun a b => decide (a < b))
def Pool.count (p : Pool) (s : Int) : Int := (p.bl.filter fun b => decide (b.st = s)).length

/-! batch -/
structure Stream where
  dr : Drive
  pl : Pool
  opn : Int
  failed : List Int
  deriving Inhabited
def Stream.room (s : Stream) : Int := if s.opn = -1 then 0 else max 0 (s.dr.chip.np - max 0 (s.dr.nextOf s.opn))
def Stream.fail (s : Stream) (k : Int) : Stream := { s with pl := (s.pl.set k 3).2, failed := s.failed ++ [k], opn := -1 }
def Stream.head (s : Stream) (k : Int) : Int × Stream :=
  let (e, d) := s.dr.erase k
  let s := { s with dr := d }
  if e ≠ 0 then (e, s) else
  let wear := inc (s.pl.wear k)
  let s := { s with pl := (s.pl.worn k wear).2 }
  let (_, e, d) := s.dr.program k ⟨2, 0, wear % 18446744073709551616, 0, 1⟩ (repS (mkS [0]) s.dr.chip.sz.toNat)
  (e, { s with dr := d })
def Stream.readyN : Nat → Stream → Int × Stream
  | 0, s => (0, s)
  | n + 1, s =>
    if s.room ≠ 0 then (0, s) else
    let (k, e, p) := s.pl.take
    let s := { s with pl := p }
    if e ≠ 0 then (e, { s with opn := -1 }) else
    let (e, s) := s.head k
    if e = 0 then readyN n { s with opn := k } else if e = 10 then readyN n (s.fail k) else (e, { s with opn := -1 })
def Stream.ready (s : Stream) : Int × Stream := s.readyN (s.pl.bl.length + 2)
def Stream.putN : Nat → Stream → Tag → ByteArray → Int × Int × Int × Stream
  | 0, s, _, _ => (0, 0, 13, s)
  | n + 1, s, t, data =>
    let (e, s) := s.ready
    if e ≠ 0 then (0, 0, e, s) else
    let (page, e, d) := s.dr.program s.opn t data
    let s := { s with dr := d }
    if e = 0 then (s.opn, page, 0, s) else if e = 10 then putN n (s.fail s.opn) t data else (0, 0, e, { s with opn := -1 })
def Stream.put (s : Stream) (t : Tag) (data : ByteArray) : Int × Int × Int × Stream :=
  if !t.right || decide ((data.size : Int) ≠ s.dr.chip.sz) then (0, 0, 2, s) else s.putN (s.pl.bl.length + 2) t data

end Go.Proofs.Ytljphijjcagciaa

namespace Go.Proofs.Ytljphijjcagciaa
open Go.RowKit

/-- Where a chip lies: its struct, its blocks' row, the first of its pages' rows. -/
structure CL where
  a : Nat
  bb : Nat
  p : Nat
  n : Nat

def CL.foot (L : CL) (k : Nat) : Prop := k = L.a ∨ k = L.bb ∨ (L.p ≤ k ∧ k < L.p + L.n)

def chipCells (L : CL) (c : Chip) : List Value :=
  [.int .i64 c.nb, .int .i64 c.np, .int .i64 c.sz, .slice (some ⟨L.bb, 0, none⟩) L.n L.n, .int .i64 c.fuse, .string c.torn, .bool c.off, .int .i64 c.progs, .int .i64 c.ers, .int .i64 c.sins]
def blkCells (np : Nat) (p : Nat) (b : Blk) : List Value :=
  [.slice (some ⟨p, 0, none⟩) np np, .int .i64 b.next, .int .i64 b.erases, .bool b.weak, .bool b.mill, .bool b.failed]

theorem blkCells_length (np p : Nat) (b : Blk) : (blkCells np p b).length = 6 := rfl

structure Chip.Ok (c : Chip) : Prop where
  nb : c.nb = c.bl.length
  nb4 : 4 ≤ c.bl.length
  nb256 : c.bl.length ≤ 256
  np2 : 2 ≤ c.np
  np64 : c.np ≤ 64
  sz32 : 32 ≤ c.sz
  sz1024 : c.sz ≤ 1024
  fuse : 0 ≤ c.fuse
  torn : c.torn.size ≤ 1000000
  blk : ∀ b ∈ c.bl, b.pages.length = c.np.toNat ∧ ∀ s ∈ b.pages, s.size = 0 ∨ s.size = c.sz.toNat + 32

structure ChipAt (w : World) (L : CL) (c : Chip) : Prop where
  ok : c.Ok
  n : L.n = c.bl.length
  top : Row w L.a 70 (chipCells L c)
  bls : Row w L.bb 73 (flat (blkCells c.np.toNat) L.p c.bl)
  pgs : ∀ (k : Nat) (b : Blk), c.bl[k]? = some b → Row w (L.p + k) 9 (b.pages.map Value.string)
  ne : L.a ≠ L.bb
  nea : L.a < L.p ∨ L.p + L.n ≤ L.a
  neb : L.bb < L.p ∨ L.p + L.n ≤ L.bb

theorem ChipAt.upd {w w' : World} {L : CL} {c : Chip} {S : Nat → Prop} (h : ChipAt w L c) (hu : Upd S w w') (hs : ∀ k, S k → ¬ L.foot k) : ChipAt w' L c :=
  ⟨h.ok, h.n, h.top.upd hu (fun k => hs _ k (Or.inl rfl)), h.bls.upd hu (fun k => hs _ k (Or.inr (Or.inl rfl))),
    fun k b hb => (h.pgs k b hb).upd hu (fun hk => hs _ hk (Or.inr (Or.inr ⟨by omega, by
      have := (List.getElem?_eq_some_iff.1 hb).1; rw [h.n]; omega⟩))), h.ne, h.nea, h.neb⟩
theorem ChipAt.drew {w : World} {L : CL} {c : Chip} (h : ChipAt w L c) : ChipAt w.drew L c := ⟨h.ok, h.n, h.top, h.bls, h.pgs, h.ne, h.nea, h.neb⟩
theorem ChipAt.drewN {w : World} {L : CL} {c : Chip} (h : ChipAt w L c) (n : Nat) : ChipAt (w.drewN n) L c := ⟨h.ok, h.n, h.top, h.bls, h.pgs, h.ne, h.nea, h.neb⟩
theorem ChipAt.alloc {w : World} {L : CL} {c : Chip} (h : ChipAt w L c) (o : Obj) : ChipAt (w.alloc o) L c :=
  ⟨h.ok, h.n, h.top.alloc o, h.bls.alloc o, fun k b hb => (h.pgs k b hb).alloc o, h.ne, h.nea, h.neb⟩

/-- The struct's own cells. -/
theorem ChipAt.cells {w : World} {L : CL} {c : Chip} (h : ChipAt w L c) :
    w.cell? ⟨L.a, 0, none⟩ = some (.int .i64 c.nb) ∧ w.cell? ⟨L.a, 1, none⟩ = some (.int .i64 c.np) ∧ w.cell? ⟨L.a, 2, none⟩ = some (.int .i64 c.sz) ∧
    w.cell? ⟨L.a, 3, none⟩ = some (.slice (some ⟨L.bb, 0, none⟩) L.n L.n) ∧ w.cell? ⟨L.a, 4, none⟩ = some (.int .i64 c.fuse) ∧ w.cell? ⟨L.a, 5, none⟩ = some (.string c.torn) ∧
    w.cell? ⟨L.a, 6, none⟩ = some (.bool c.off) ∧ w.cell? ⟨L.a, 7, none⟩ = some (.int .i64 c.progs) ∧ w.cell? ⟨L.a, 8, none⟩ = some (.int .i64 c.ers) ∧ w.cell? ⟨L.a, 9, none⟩ = some (.int .i64 c.sins) :=
  ⟨h.top.cell 0, h.top.cell 1, h.top.cell 2, h.top.cell 3, h.top.cell 4, h.top.cell 5, h.top.cell 6, h.top.cell 7, h.top.cell 8, h.top.cell 9⟩
theorem ChipAt.fr {w : World} {L : CL} {c : Chip} (h : ChipAt w L c) (i : Nat) : w.frozen? ⟨L.a, i, none⟩ = false := h.top.frozen i
theorem ChipAt.frb {w : World} {L : CL} {c : Chip} (h : ChipAt w L c) (i : Nat) : w.frozen? ⟨L.bb, i, none⟩ = false := h.bls.frozen i

theorem Chip.has_iff {c : Chip} {k : Int} : c.has k = true ↔ 0 ≤ k ∧ k < c.bl.length := by simp [Chip.has]
theorem Chip.at_eq {c : Chip} {k : Int} (hk : c.has k = true) : c.bl[k.toNat]? = some (c.at k) := by
  rw [Chip.has_iff] at hk
  have h2 : k.toNat < c.bl.length := by omega
  simp [Chip.at, List.getD, List.getElem?_eq_getElem h2]

/-- A block's cells. -/
theorem ChipAt.blk {w : World} {L : CL} {c : Chip} (h : ChipAt w L c) {k : Int} (hk : c.has k = true) :
    w.cell? ⟨L.bb, k.toNat * 6, none⟩ = some (.slice (some ⟨L.p + k.toNat, 0, none⟩) c.np.toNat c.np.toNat) ∧ w.cell? ⟨L.bb, k.toNat * 6 + 1, none⟩ = some (.int .i64 (c.at k).next) ∧
    w.cell? ⟨L.bb, k.toNat * 6 + 2, none⟩ = some (.int .i64 (c.at k).erases) ∧ w.cell? ⟨L.bb, k.toNat * 6 + 3, none⟩ = some (.bool (c.at k).weak) ∧
    w.cell? ⟨L.bb, k.toNat * 6 + 4, none⟩ = some (.bool (c.at k).mill) ∧ w.cell? ⟨L.bb, k.toNat * 6 + 5, none⟩ = some (.bool (c.at k).failed) := by
  have g := fun j hj => (h.bls.cell (k.toNat * 6 + j)).trans (flat_get (n := 6) (blkCells_length c.np.toNat) L.p c.bl k.toNat j (c.at k) (Chip.at_eq hk) hj)
  exact ⟨g 0 (by omega), g 1 (by omega), g 2 (by omega), g 3 (by omega), g 4 (by omega), g 5 (by omega)⟩

theorem ChipAt.page {w : World} {L : CL} {c : Chip} (h : ChipAt w L c) {k i : Int} (hk : c.has k = true) (h0 : 0 ≤ i) (h1 : i < c.np) :
    w.cell? ⟨L.p + k.toNat, i.toNat, none⟩ = some (.string ((c.at k).pages.getD i.toNat (mkS []))) := by
  have r := h.pgs k.toNat _ (Chip.at_eq hk)
  have hl := (h.ok.blk (c.at k) (List.mem_of_getElem? (Chip.at_eq hk))).1
  refine r.get ?_
  have h2 : i.toNat < (c.at k).pages.length := by omega
  simp [List.getElem?_eq_getElem h2]
theorem ChipAt.frp {w : World} {L : CL} {c : Chip} (h : ChipAt w L c) {k : Int} (hk : c.has k = true) (i : Nat) : w.frozen? ⟨L.p + k.toNat, i, none⟩ = false :=
  (h.pgs k.toNat _ (Chip.at_eq hk)).frozen i

/-- A field of the struct is written. -/
theorem ChipAt.top_set {w : World} {L : CL} {c c' : Chip} (h : ChipAt w L c) (i : Nat) (u : Value) (hok : c'.Ok) (hb : c'.bl = c.bl) (hp : c'.np = c.np) (he : (chipCells L c).set i u = chipCells L c') : ChipAt (w.setCell ⟨L.a, i, none⟩ u) L c' :=
  ⟨hok, by rw [hb]; exact h.n, h.top.put i u he, by rw [hb, hp]; exact h.bls.far (fun e => h.ne e.symm) u, by
    rw [hb]; intro k b hk
    have := (List.getElem?_eq_some_iff.1 hk).1
    have := h.n; have := h.nea
    exact (h.pgs k b hk).far (by show L.p + k ≠ L.a; omega) u, h.ne, h.nea, h.neb⟩

/-- A cell of a block, but not its pages, is written. -/
theorem ChipAt.blk_set {w : World} {L : CL} {c : Chip} (h : ChipAt w L c) {k : Int} (hk : c.has k = true) (j : Nat) (hj : j < 6) (u : Value) (b' : Blk) (hpg : b'.pages = (c.at k).pages)
    (he : (blkCells c.np.toNat (L.p + k.toNat) (c.at k)).set j u = blkCells c.np.toNat (L.p + k.toNat) b') : ChipAt (w.setCell ⟨L.bb, k.toNat * 6 + j, none⟩ u) L (c.put k b') := by
  have hat := Chip.at_eq hk
  have hlt := (List.getElem?_eq_some_iff.1 hat).1
  refine ⟨?_, by simp [Chip.put, h.n], ?_, ?_, ?_, h.ne, h.nea, h.neb⟩
  · obtain ⟨o1, o2, o3, o4, o5, o6, o7, o8, o9, o10⟩ := h.ok
    refine ⟨by simpa [Chip.put] using o1, by simpa [Chip.put] using o2, by simpa [Chip.put] using o3, o4, o5, o6, o7, o8, o9, fun b hb => ?_⟩
    rcases List.mem_or_eq_of_mem_set hb with hb | rfl
    · exact o10 b hb
    · rw [hpg]; exact o10 _ (List.mem_of_getElem? hat)
  · exact h.top.far h.ne u
  · exact h.bls.put _ _ (flat_set (n := 6) (blkCells_length c.np.toNat) L.p c.bl k.toNat j (c.at k) b' u hat hj he)
  · intro i b hb
    have hi : i < c.bl.length := by have := (List.getElem?_eq_some_iff.1 hb).1; simpa [Chip.put] using this
    have := h.n; have := h.neb
    by_cases e : k.toNat = i
    · subst e
      simp [Chip.put, hlt] at hb; subst hb; rw [hpg]
      exact (h.pgs _ _ hat).far (by show L.p + k.toNat ≠ L.bb; omega) u
    · simp [Chip.put, e] at hb
      exact (h.pgs _ _ (by simp [hb])).far (by show L.p + i ≠ L.bb; omega) u

/-- A page is written. -/
theorem ChipAt.page_set {w : World} {L : CL} {c : Chip} (h : ChipAt w L c) {k i : Int} (hk : c.has k = true) (s : ByteArray) (hs : s.size = 0 ∨ s.size = c.sz.toNat + 32) :
    ChipAt (w.setCell ⟨L.p + k.toNat, i.toNat, none⟩ (.string s)) L (c.put k { c.at k with pages := (c.at k).pages.set i.toNat s }) := by
  have hat := Chip.at_eq hk
  have hlt := (List.getElem?_eq_some_iff.1 hat).1
  have hn := h.n; have hna := h.nea; have hnb := h.neb
  refine ⟨?_, by simp [Chip.put, h.n], ?_, ?_, ?_, h.ne, h.nea, h.neb⟩
  · obtain ⟨o1, o2, o3, o4, o5, o6, o7, o8, o9, o10⟩ := h.ok
    refine ⟨by simpa [Chip.put] using o1, by simpa [Chip.put] using o2, by simpa [Chip.put] using o3, o4, o5, o6, o7, o8, o9, fun b hb => ?_⟩
    rcases List.mem_or_eq_of_mem_set hb with hb | rfl
    · exact o10 b hb
    · have := o10 _ (List.mem_of_getElem? hat)
      refine ⟨by simpa [Chip.put] using this.1, fun x hx => ?_⟩
      rcases List.mem_or_eq_of_mem_set hx with hx | rfl
      · exact this.2 x hx
      · exact hs
  · exact h.top.far (by show L.a ≠ L.p + k.toNat; omega) _
  · have := h.bls.far (p := ⟨L.p + k.toNat, i.toNat, none⟩) (by show L.bb ≠ L.p + k.toNat; omega) (.string s)
    have e : flat (blkCells c.np.toNat) L.p (c.bl.set k.toNat { c.at k with pages := (c.at k).pages.set i.toNat s }) = flat (blkCells c.np.toNat) L.p c.bl := by
      rw [← flat_set (n := 6) (blkCells_length c.np.toNat) L.p c.bl k.toNat 1 (c.at k) _ (.int .i64 (c.at k).next) hat (by omega) (by rfl)]
      refine List.ext_getElem? fun j => ?_
      rw [List.getElem?_set]
      split
      · rename_i ej; subst ej
        rw [if_pos, flat_get (n := 6) (blkCells_length c.np.toNat) L.p c.bl k.toNat 1 (c.at k) hat (by omega)]
        · rfl
        · rw [flat_length (n := 6) (blkCells_length c.np.toNat)]; omega
      · rfl
    show Row _ _ _ (flat (blkCells c.np.toNat) L.p (c.bl.set k.toNat _))
    rw [e]; exact this
  · intro j b hb
    have hi : j < c.bl.length := by have := (List.getElem?_eq_some_iff.1 hb).1; simpa [Chip.put] using this
    by_cases e : k.toNat = j
    · subst e
      simp [Chip.put, hlt] at hb; subst hb
      exact (h.pgs _ _ hat).put _ _ (by simp [List.map_set])
    · simp [Chip.put, e] at hb
      exact (h.pgs _ _ (by simp [hb])).far (by show L.p + j ≠ L.p + k.toNat; omega) _

end Go.Proofs.Ytljphijjcagciaa

namespace Go.Proofs.Ytljphijjcagciaa
open Go.RowKit

section
variable {P : Program} {ops : Array Oper} {md : Region.Mode} {C : World → Prop}

/-- Whatever order the head is taken in, in worlds of the class; then L. -/
def headAny (P : Program) (md : Region.Mode) (ops : Array Oper) (C : World → Prop) (n : Nat) (L : Array Bool → Act → Prop) : Nat → Array Bool → Act → Prop
  | 0, listed, a => L listed a
  | f + 1, listed, a => Region.ready md ops listed ≠ [] ∧ ∀ i ∈ Region.ready md ops listed, i < n ∧ qOp P ops C i (headAny P md ops C n L f (listed.setIfInBounds i true)) a

theorem any_of_head {n g : Nat} {L : Array Bool → Act → Prop} {Q' : Exit → Act → World → Prop} (hL : ∀ listed a w, C w → L listed a → wpAny P md ops Q' g listed a w) :
    ∀ (f : Nat) (listed : Array Bool) (a : Act) (w : World), C w → headAny P md ops C n L f listed a → wpAny P md ops Q' (f + g) listed a w
  | 0, listed, a, w, hw, h => by rw [Nat.zero_add]; exact hL _ _ _ hw h
  | f + 1, listed, a, w, hw, h => by
    rw [show f + 1 + g = (f + g) + 1 by omega]
    exact ⟨fun h0 => absurd h0 h.1, fun i hi => wpOp_of_qOp hw (fun a' w' hw' h' => any_of_head hL f _ a' w' hw' h') (h.2 i hi).2⟩

theorem head_first {n i : Nat} {oi : Oper} {v : Value} {L : Array Bool → Act → Prop} (hi : ops[i]? = some oi) (hsel : ∀ (j : Nat) (o : Oper) cs b, ops[j]? = some o → o.op ≠ .select cs b)
    (hs : Region.sinkB md ops n = true) (hc : Region.chainB md ops n = true) (hn : n < ops.size) (hin : i < n) (hdone : ∀ listed a, L listed a → ∀ j ∈ Region.ready md ops listed, n ≤ j) (f : Nat) :
    ∀ (listed : Array Bool) (a : Act), HeadInv md ops n listed →
      (∀ j oj, ops[j]? = some oj → j ≠ i → listed.getD j true = false → (∀ e ∈ oj.after, Region.binds md e = true → e.on ≠ i) → oi.apart ops oj = true) →
      i ∈ Region.ready md ops listed → YieldsIn P ops C oi v a → headAny P md ops C n L f (listed.setIfInBounds i true) (a.put oi.dst v) → headAny P md ops C n L (f + 1) listed a := by
  induction f with
  | zero =>
    intro listed a inv _ hr hy H
    have hun := (mem_ready.1 hr).1
    refine ⟨fun e => (by rw [e] at hr; cases hr), fun j hj => ?_⟩
    have hjn : j < n := Nat.lt_of_not_le fun hle => tail_waits hs hc hn inv _ i rfl hin hun j hle hj
    by_cases e : j = i
    · rw [e]; exact ⟨hin, hy.qOp hi H⟩
    · exact absurd (hdone _ _ H j (ready_mono hj e)) (by omega)
  | succ f ih =>
    intro listed a inv hfree hr hy H
    have hun := (mem_ready.1 hr).1
    refine ⟨fun e => (by rw [e] at hr; cases hr), fun j hj => ?_⟩
    have hjn : j < n := Nat.lt_of_not_le fun hle => tail_waits hs hc hn inv _ i rfl hin hun j hle hj
    by_cases e : j = i
    · rw [e]; exact ⟨hin, hy.qOp hi H⟩
    · obtain ⟨hjun, oj, hoj, hall⟩ := mem_ready.1 hj
      have hnot : ∀ x ∈ oj.after, Region.binds md x = true → x.on ≠ i := fun x hx hb hxi => by
        have q := hall x hx hb
        rw [hxi, getD_both hun] at q
        cases q
      have h2 := qOp_put hoj (hfree j oj hoj e hjun hnot) (fun cs b => hsel i oi cs b hi) (fun cs b => hsel j oj cs b hoj) hy (H.2 j (ready_mono hj e)).2
      refine ⟨hjn, qOp_mono (fun a' h3 => ih (listed.setIfInBounds j true) a' (inv.set hj hjn) (fun k ok hk hki hku hkn => hfree k ok hk hki ?_ hkn) (ready_mono hr (Ne.symm e)) h3.1 ?_) h2⟩
      · by_cases hjk : j = k
        · rw [← hjk]; exact hjun
        · rwa [getD_set_ne true hjk] at hku
      · rw [Array.setIfInBounds_comm _ _ e]
        exact h3.2

theorem head_lex {n g : Nat} {Lq : Act → Prop} (hsel : Region.noSelect ops = true) (hs : Region.sinkB md ops n = true) (hc : Region.chainB md ops n = true) (hn : n < ops.size) :
    ∀ (l : List Oper) (k : Nat) (listed : Array Bool) (a : Act), (∀ j, j < l.length → l[j]? = ops[k + j]?) → k + l.length = n → HeadInv md ops n listed →
    Region.lexHead md ops g l.length k listed = true → wpQuiet P ops C Lq l a → headAny P md ops C n (fun listed' a' => Region.seqB md ops g n listed' = true ∧ Lq a') l.length listed a
  | [], k, listed, a, _, hk, _, hB, h => by
    have e : k = n := by simpa using hk
    rw [e] at hB
    exact ⟨by simpa [Region.lexHead] using hB, h⟩
  | o :: l, k, listed, a, hl, hk, inv, hB, h => by
    have h0 : ops[k]? = some o := by simpa using (hl 0 (by simp)).symm
    simp only [List.length_cons, Region.lexHead, Bool.and_eq_true] at hB
    have hkn : k < n := by simp only [List.length_cons] at hk; omega
    have hr : k ∈ Region.ready md ops listed := by simpa using hB.1.1
    obtain ⟨v, hy, hK⟩ := yieldsIn_of_qOp (K := wpQuiet P ops C Lq l) h0 (by unfold qOp; simp only [h0]; exact h)
    exact head_first h0 (Region.noSelect_spec hsel) hs hc hn hkn (fun _ _ hL => seqB_ready hL.1) l.length listed a inv (Region.free_spec h0 hB.1.2) hr hy
      (head_lex hsel hs hc hn l (k + 1) _ _ (fun j hj => by have := hl (j + 1) (by simp; omega); simpa [Nat.add_assoc, Nat.add_comm 1 j] using this) (by simp only [List.length_cons] at hk; omega) (inv.set hr hkn) hB.2 hK)

theorem wp_region_class_tail {id : Nat} {Q : Exit → Act → World → Prop} {a : Act} {w : World} {l : List Oper} (n : Nat) (hm : P.follows .mixedOrders = true) (hB : Region.lexTailB .any l.toArray n = true)
    (hC : C { w with drawn := w.drawn + 1 }) (h : wpQuiet P l.toArray C (fun a' => ∀ w', C w' → wpList P l.toArray Q (l.drop n) a' w') (l.take n) a) : (Code.region id l.toArray true).wp P Q a w := by
  simp only [Region.lexTailB, Bool.and_eq_true, decide_eq_true_eq] at hB
  obtain ⟨⟨⟨⟨hsel, hn⟩, hs⟩, hc⟩, hlex⟩ := hB
  have hn' : n < l.length := by simpa using hn
  have htl : (l.take n).length = n := by simp; omega
  have hdl : (l.drop n).length = l.toArray.size - n := by simp
  have inv0 : HeadInv .any l.toArray n (Array.replicate l.toArray.size false) :=
    ⟨by simp, fun j oj _ hl => (by rw [getD_replicate_false] at hl; cases hl), fun t _ ht => getD_in (by simpa using ht) (getD_replicate_false _ _)⟩
  have H := head_lex (P := P) (C := C) (md := .any) (g := l.toArray.size - n) hsel hs hc hn (l.take n) 0 _ a (fun j hj => by
    have hj' : j < n := by rw [htl] at hj; exact hj
    simp [hj']) (by simpa using htl) inv0 (by rw [htl]; exact hlex) h
  refine wp_region_any hm ?_
  have R := any_of_head (Q' := Q) (g := l.toArray.size - n) (fun listed a' w' hw' hL => by
    have q := wpAny_of_seq (P := P) (md := .any) (Q' := Q) (l.drop n) n listed a' w' (fun j => by simp [List.getElem?_drop]) (by rw [hdl]; exact hL.1) (hL.2 w' hw')
    rwa [hdl] at q) _ _ _ _ hC H
  rw [htl, show n + (l.toArray.size - n) = l.toArray.size by omega] at R
  exact R

theorem wp_region_upd_tail {id : Nat} {Q : Exit → Act → World → Prop} {a : Act} {w : World} {l : List Oper} (n : Nat) (hm : P.follows .mixedOrders = true) (hB : Region.lexTailB .any l.toArray n = true)
    (h : wpQuiet P l.toArray (fun w' => ∃ n : UW w, w' = n.w) (fun a' => ∀ w', (∃ n : UW w, w' = n.w) → wpList P l.toArray Q (l.drop n) a' w') (l.take n) a) : (Code.region id l.toArray true).wp P Q a w :=
  wp_region_class_tail n hm hB ⟨⟨{ w with drawn := w.drawn + 1 }, ⟨rfl, rfl, rfl, Nat.le_refl _, fun _ _ _ => rfl⟩⟩, rfl⟩ h
end

end Go.Proofs.Ytljphijjcagciaa

namespace Go.Proofs.Ytljphijjcagciaa
open Go.RowKit

theorem madeCells_flat (z : List Value) (n : Nat) (hz : z ≠ []) : madeCells z.toArray (n * z.length) = (flat (fun _ (_ : Unit) => z) 0 (List.replicate n ())).toArray := by
  have hl : 0 < z.length := List.length_pos_iff.2 hz
  have key : ∀ (n p : Nat), flat (fun _ (_ : Unit) => z) p (List.replicate n ()) = (List.range (n * z.length)).map (fun i => z.toArray[i % z.toArray.size]!) := by
    intro n
    induction n with
    | zero => intro p; simp [flat]
    | succ n ih =>
      intro p
      rw [List.replicate_succ, flat, ih, Nat.succ_mul, Nat.add_comm (n * z.length) z.length, List.range_add, List.map_append, List.map_map]
      congr 1
      · refine List.ext_getElem? fun i => ?_
        simp only [List.getElem?_map]
        rcases Nat.lt_or_ge i z.length with h | h
        · rw [List.getElem?_range h, Option.map_some]
          simp [Nat.mod_eq_of_lt h, List.getElem?_eq_getElem h]
        · rw [List.getElem?_eq_none h, List.getElem?_eq_none (by simpa using h)]; rfl
      · refine List.map_congr_left fun i _ => ?_
        simp
  unfold madeCells
  rw [key n 0, ← Array.toList_inj]
  simp

theorem flat_const {α : Type} (f : Nat → α → List Value) (z : List Value) (x : α) (hf : ∀ p, f p x = z) : ∀ (n p : Nat), flat f p (List.replicate n x) = flat (fun _ (_ : Unit) => z) p (List.replicate n ())
  | 0, _ => by simp [flat]
  | n + 1, p => by rw [List.replicate_succ, List.replicate_succ, flat, flat, hf, flat_const f z x hf n (p + 1)]

theorem madeCells_one (z : Value) (n : Nat) : madeCells #[z] n = (List.replicate n z).toArray := by
  unfold madeCells
  rw [← Array.toList_inj]
  refine List.ext_getElem? fun i => ?_
  simp
  rcases Nat.lt_or_ge i n with h | h
  · simp [h, Nat.mod_one]
  · simp [Nat.not_lt.2 h]

/-- 'make([]T, n)', T's zero being one cell or more. -/
theorem run_make_list {P : Program} (t e : TypeId) (i : TypeInfo) (z : Value) (ht : P.underlying t = some (.slice e)) (hi : P.info? e = some i) (hz : i.zero = some z) (zs : List Value) (hzs : z.cells = zs.toArray) (hs : i.size = zs.length) (hne : zs ≠ [])
    (n : Int) (h0 : 0 ≤ n) (hb : (i.bytes : Int) * n ≤ 281474976710656) (h63 : n ≤ 9223372036854775807) (w : World) :
    (Instr.makeSlice t (.int .i64 n) (.int .i64 n)).run P w = .ok (.slice (some ⟨w.heap.size, 0, none⟩) n.toNat n.toNat) (w.alloc (.cells (flat (fun _ (_ : Unit) => zs) 0 (List.replicate n.toNat ())).toArray e)) := by
  rw [run_make w t e i z ht hi hz .i64 .i64 n n h0 (Int.le_refl _) hb h63, hzs, hs, madeCells_flat zs n.toNat hne]

theorem Try.info_blk : (Try.prog.info? 73).map (fun i => (i.zero, i.size, i.bytes)) = some (some (.agg #[.slice none 0 0, .int .i64 0, .int .i64 0, .bool false, .bool false, .bool false]), 6, 48) := by kernel_rfl
theorem Try.info_str : (Try.prog.info? 9).map (fun i => (i.zero, i.size, i.bytes)) = some (some (.string ⟨#[]⟩), 1, 16) := by kernel_rfl
theorem Try.info_int : (Try.prog.info? 3).map (fun i => (i.zero, i.size, i.bytes)) = some (some (.int .i64 0), 1, 8) := by kernel_rfl
theorem Try.info_bool : (Try.prog.info? 4).map (fun i => (i.zero, i.size, i.bytes)) = some (some (.bool false), 1, 1) := by kernel_rfl

/-- A row of n blocks as they are made. -/
def blk0s (n : Nat) : List Value := flat (fun _ (_ : Unit) => [.slice none 0 0, .int .i64 0, .int .i64 0, .bool false, .bool false, .bool false]) 0 (List.replicate n ())
theorem make_blk (n : Int) (h0 : 0 ≤ n) (h1 : n ≤ 256) (w : World) :
    (Instr.makeSlice 67 (.int .i64 n) (.int .i64 n)).run Try.prog w = .ok (.slice (some ⟨w.heap.size, 0, none⟩) n.toNat n.toNat)
      (w.alloc (.cells (blk0s n.toNat).toArray 73)) := by
  obtain ⟨i, hi, hz0, hz1, hz2⟩ := info_parts Try.info_blk
  exact run_make_list _ _ i _ Try.underlying67 hi hz0 _ rfl hz1 (by simp) n h0 (by rw [hz2]; omega) (by omega) w
theorem make_str (n : Int) (h0 : 0 ≤ n) (h1 : n ≤ 100000) (w : World) :
    (Instr.makeSlice 71 (.int .i64 n) (.int .i64 n)).run Try.prog w = .ok (.slice (some ⟨w.heap.size, 0, none⟩) n.toNat n.toNat) (w.alloc (.cells (List.replicate n.toNat (.string ⟨#[]⟩)).toArray 9)) := by
  obtain ⟨i, hi, hz0, hz1, hz2⟩ := info_parts Try.info_str
  rw [run_make w _ _ i _ Try.underlying71 hi hz0 .i64 .i64 n n h0 (Int.le_refl _) (by rw [hz2]; omega) (by omega), hz1, Nat.mul_one]
  rw [show (Value.string ⟨#[]⟩).cells = #[.string ⟨#[]⟩] from rfl, madeCells_one]
theorem make_int (n : Int) (h0 : 0 ≤ n) (h1 : n ≤ 100000) (w : World) :
    (Instr.makeSlice 64 (.int .i64 n) (.int .i64 n)).run Try.prog w = .ok (.slice (some ⟨w.heap.size, 0, none⟩) n.toNat n.toNat) (w.alloc (.cells (List.replicate n.toNat (.int .i64 0)).toArray 3)) := by
  obtain ⟨i, hi, hz0, hz1, hz2⟩ := info_parts Try.info_int
  rw [run_make w _ _ i _ Try.underlying64 hi hz0 .i64 .i64 n n h0 (Int.le_refl _) (by rw [hz2]; omega) (by omega), hz1, Nat.mul_one]
  rw [show (Value.int .i64 0).cells = #[.int .i64 0] from rfl, madeCells_one]
theorem make_bool (n : Int) (h0 : 0 ≤ n) (h1 : n ≤ 100000) (w : World) :
    (Instr.makeSlice 81 (.int .i64 n) (.int .i64 n)).run Try.prog w = .ok (.slice (some ⟨w.heap.size, 0, none⟩) n.toNat n.toNat) (w.alloc (.cells (List.replicate n.toNat (.bool false)).toArray 4)) := by
  obtain ⟨i, hi, hz0, hz1, hz2⟩ := info_parts Try.info_bool
  rw [run_make w _ _ i _ Try.underlying81 hi hz0 .i64 .i64 n n h0 (Int.le_refl _) (by rw [hz2]; omega) (by omega), hz1, Nat.mul_one]
  rw [show (Value.bool false).cells = #[.bool false] from rfl, madeCells_one]

end Go.Proofs.Ytljphijjcagciaa
