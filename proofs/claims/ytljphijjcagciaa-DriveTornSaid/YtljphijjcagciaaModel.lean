/-
  What the chip computes, as plain functions on plain data: no memory, no Go. Amounts that Go counts round at 64 bits are counted round here.
-/
import Derived.Test.YtljphijjcagciaaBase
namespace Go.Proofs.Ytljphijjcagciaa
open Go.RowKit

def inc (n : Int) : Int := wrap64 (n + 1)
def mkS (l : List UInt8) : ByteArray := ⟨l.toArray⟩
def bs (s : ByteArray) : List UInt8 := s.data.toList
def repL (l : List UInt8) : Nat → List UInt8
  | 0 => []
  | c + 1 => l ++ repL l c
def repS (s : ByteArray) (n : Nat) : ByteArray := mkS (repL (bs s) n)

/-! nand -/
structure Blk where
  pages : List ByteArray
  next : Int
  erases : Int
  weak : Bool
  mill : Bool
  failed : Bool
  deriving Inhabited
structure Chip where
  nb : Int
  np : Int
  sz : Int
  bl : List Blk
  fuse : Int
  torn : ByteArray
  off : Bool
  progs : Int
  ers : Int
  sins : Int
  deriving Inhabited

def shapeRight (b p s : Int) : Bool := decide (4 ≤ b) && decide (b ≤ 256) && decide (2 ≤ p) && decide (p ≤ 64) && decide (32 ≤ s) && decide (s ≤ 1024)
def Chip.has (c : Chip) (k : Int) : Bool := decide (0 ≤ k) && decide (k < c.bl.length)
def Chip.at (c : Chip) (k : Int) : Blk := c.bl.getD k.toNat default
def Chip.put (c : Chip) (k : Int) (b : Blk) : Chip := { c with bl := c.bl.set k.toNat b }
def Chip.whole (c : Chip) : Nat := c.sz.toNat + 32
def Chip.ready (c : Chip) (block page : Int) : Int :=
  if c.off then 9 else if !c.has block || decide (page < 0) || decide (c.np ≤ page) then 3 else 0
def Chip.ff (c : Chip) : ByteArray := repS (mkS [255]) c.whole
def Chip.read (c : Chip) (block page : Int) : ByteArray × ByteArray × Int :=
  if c.ready block page ≠ 0 then (mkS [], mkS [], c.ready block page) else
  let s := (c.at block).pages.getD page.toNat (mkS [])
  let s := if s.size = 0 then c.ff else s
  (s.extract 0 c.sz.toNat, s.extract c.sz.toNat s.size, 0)
def Chip.sin (c : Chip) : Chip := { c with sins := inc c.sins }
/-- A program (false) or an erase (true) is done: is it cut? -/
def Chip.burn (c : Chip) (er : Bool) : Bool × Chip :=
  let c := if er then { c with ers := inc c.ers } else { c with progs := inc c.progs }
  if c.fuse = 0 then (false, c) else (decide (c.fuse = 1), { c with fuse := c.fuse - 1, off := decide (c.fuse = 1) })
def Chip.kept (c : Chip) (s : ByteArray) : ByteArray := if s = c.ff then mkS [] else s
def Chip.tear (c : Chip) : ByteArray :=
  if c.torn.size = 0 then mkS [] else c.kept ((repS c.torn (c.whole / c.torn.size + 1)).extract 0 c.whole)
def Chip.program (c : Chip) (block page : Int) (data beside : ByteArray) : Int × Chip :=
  if c.ready block page ≠ 0 then (c.ready block page, c) else
  let b := c.at block
  if (data.size : Int) ≠ c.sz || beside.size ≠ 32 then (2, c) else
  if b.failed then (12, c.sin) else
  if page ≠ b.next then (11, c.sin) else
  let b := { b with next := inc b.next }
  let c := c.put block b
  let (cut, c) := c.burn false
  if cut then (9, c.put block { b with pages := b.pages.set page.toNat c.tear }) else
  if b.weak then (10, c.put block { b with failed := true, pages := b.pages.set page.toNat (repS (mkS [0]) c.whole) }) else
  (0, c.put block { b with pages := b.pages.set page.toNat (c.kept (data ++ beside)) })
/-- Of a block's first k pages those that are told so are erased; the next one is behind the last that isn't. -/
def Blk.clearN (b : Blk) (which : Nat → Bool) : Nat → Blk
  | 0 => { b with next := 0 }
  | k + 1 =>
    let c := b.clearN which k
    let p := if which k then mkS [] else c.pages.getD k (mkS [])
    { c with pages := c.pages.set k p, next := if p.size = 0 then c.next else (k : Int) + 1 }
def allPg (_ : Nat) : Bool := true
def Blk.clear (b : Blk) (which : Nat → Bool) : Blk := b.clearN which b.pages.length
def Chip.tornBit (c : Chip) (page : Nat) : Bool := c.torn.size == 0 || (bits .and .u8 (((bs c.torn).getD (page % c.torn.size) 0).toNat : Int) 1 == 1)
def Chip.erase (c : Chip) (block : Int) : Int × Chip :=
  if c.ready block 0 ≠ 0 then (c.ready block 0, c) else
  let b := c.at block
  if b.failed then (12, c.sin) else
  let (cut, c) := c.burn true
  if cut then (9, c.put block (b.clear c.tornBit)) else
  if b.weak then (10, c.put block { b with failed := true }) else
  (0, c.put block { b.clear allPg with erases := inc b.erases })
def Chip.fuse' (c : Chip) (n : Int) (torn : ByteArray) : Chip := { c with fuse := max n 0, torn := torn }
def Chip.on (c : Chip) : Chip := { c with off := false, fuse := 0, bl := c.bl.map fun b => { b with failed := b.mill } }
def Chip.wreck (c : Chip) (k : Int) : Chip := if c.has k then c.put k { c.at k with weak := true } else c
def freshBlk (np : Int) : Blk := ⟨List.replicate np.toNat (mkS []), 0, 0, false, false, false⟩
def badPage (sz : Int) : ByteArray := repS (mkS [255]) sz.toNat ++ mkS [0] ++ repS (mkS [255]) 31
def Chip.mark (c : Chip) (k : Int) : Chip :=
  if c.has k then c.put k { c.at k with weak := true, mill := true, failed := true, pages := (c.at k).pages.set 0 (badPage c.sz) } else c
def Chip.fresh (nb np sz : Int) : Chip := ⟨nb, np, sz, List.replicate nb.toNat (freshBlk np), 0, mkS [], false, 0, 0, 0⟩
def Chip.new (nb np sz : Int) (bad : List Int) : Chip := bad.foldl Chip.mark (Chip.fresh nb np sz)

end Go.Proofs.Ytljphijjcagciaa
