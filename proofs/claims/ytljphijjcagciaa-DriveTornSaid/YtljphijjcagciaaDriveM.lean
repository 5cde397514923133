/-
  What layers 8, 11 and 14 compute: drives, pools, streams: plain functions on plain data.
-/
import Derived.Test.YtljphijjcagciaaTagM
namespace Go.Proofs.Ytljphijjcagciaa
open Go.RowKit

/-! drive -/
structure Drive where
  chip : Chip
  bad : List Bool
  next : List Int
  deriving Inhabited
structure Page where
  state : Int
  tag : Tag
  data : ByteArray
  deriving Inhabited
def Page.none : Page := ⟨0, Tag.none, mkS []⟩
def Drive.new (c : Chip) : Drive := ⟨c, List.replicate c.bl.length false, List.replicate c.bl.length (-1)⟩
def Drive.forget (d : Drive) : Drive := { d with next := List.replicate d.next.length (-1) }
def Drive.is (d : Drive) (k : Int) : Bool := decide (0 ≤ k) && decide (k < d.bad.length)
def Drive.mark (d : Drive) (k : Int) : Drive := if d.is k then { d with bad := d.bad.set k.toNat true, next := d.next.set k.toNat (-1) } else d
def Drive.isBad (d : Drive) (k : Int) : Bool := d.is k && d.bad.getD k.toNat false
def Drive.nextOf (d : Drive) (k : Int) : Int := if d.is k then d.next.getD k.toNat 0 else -1
def pageState (page : Int) (data beside : ByteArray) : Int × Tag :=
  let (t, e) := Tag.parse data beside
  if e = 0 then (4, t) else if page = 0 && factoryB beside then (3, Tag.none) else (2, Tag.none)
def Drive.read (d : Drive) (block page : Int) : Page × Int :=
  let (data, beside, e) := d.chip.read block page
  if e ≠ 0 then (Page.none, e) else
  if allFF (data ++ beside) then (⟨1, Tag.none, data⟩, 0) else
  let (s, t) := pageState page data beside
  (⟨s, t, data⟩, 0)
def Drive.ready (d : Drive) (block : Int) : Int := if !d.is block then 3 else if d.bad.getD block.toNat false then 12 else 0
def Drive.learn (d : Drive) (block e : Int) : Drive := if e = 10 then d.mark block else if e = 9 then d.forget else d
def Drive.program (d : Drive) (block : Int) (t : Tag) (data : ByteArray) : Int × Int × Drive :=
  if d.ready block ≠ 0 then (0, d.ready block, d) else
  let page := d.next.getD block.toNat 0
  if !t.right || decide ((data.size : Int) ≠ d.chip.sz) then (0, 2, d) else
  if page = -1 || decide (d.chip.np ≤ page) then (0, 11, d) else
  let (e, c) := d.chip.program block page data (t.beside data)
  let d := ({ d with chip := c }).learn block e
  if e ≠ 0 then (0, e, d) else (page, 0, { d with next := d.next.set block.toNat (inc page) })
def Drive.erase (d : Drive) (block : Int) : Int × Drive :=
  if d.ready block ≠ 0 then (d.ready block, d) else
  let (e, c) := d.chip.erase block
  let d := ({ d with chip := c }).learn block e
  if e = 0 then (0, { d with next := d.next.set block.toNat 0 }) else (e, d)

/-! pool -/
structure PBlk where
  st : Int
  wear : Int
  deriving Inhabited
structure Pool where
  bl : List PBlk
  deriving Inhabited
def Pool.new (n : Int) : Pool := ⟨List.replicate n.toNat ⟨1, 0⟩⟩
def Pool.has (p : Pool) (k : Int) : Bool := decide (0 ≤ k) && decide (k < p.bl.length)
def Pool.at (p : Pool) (k : Int) : PBlk := p.bl.getD k.toNat default
def Pool.state (p : Pool) (k : Int) : Int := if p.has k then (p.at k).st else 0
def Pool.wear (p : Pool) (k : Int) : Int := if p.has k then (p.at k).wear else 0
def Pool.set (p : Pool) (k s : Int) : Int × Pool :=
  if !p.has k then (3, p) else if decide (s < 1) || decide (3 < s) then (2, p) else if (p.at k).st = 3 then (12, p) else
  (0, ⟨p.bl.set k.toNat { p.at k with st := s }⟩)
def Pool.worn (p : Pool) (k n : Int) : Int × Pool :=
  if !p.has k then (3, p) else if n < 0 then (2, p) else (0, ⟨p.bl.set k.toNat { p.at k with wear := n }⟩)
/-- The first free block that comes ahead of all others ('lt' of the wears). -/
def bestP (lt : Int → Int → Bool) : List PBlk → Nat → Option (Nat × Int) → Option (Nat × Int)
  | [], _, b => b
  | x :: r, k, b => bestP lt r (k + 1) (if x.st = 1 && (match b with | none => true | some (_, w) => lt x.wear w) then some (k, x.wear) else b)
def Pool.choose (p : Pool) (lt : Int → Int → Bool) : Int × Int × Pool :=
  match bestP lt p.bl 0 none with
  | none => (0, 13, p)
  | some (k, _) => (k, 0, ⟨p.bl.set k { p.at k with st := 2 }⟩)
def Pool.take (p : Pool) : Int × Int × Pool := p.choose (fun a b => decide (a < b))
def Pool.count (p : Pool) (s : Int) : Int := (p.bl.filter fun b => decide (b.st = s)).length

/-! batch -/
structure Stream where
  dr : Drive
  pl : Pool
  opn : Int
  failed : List Int
  deriving Inhabited
def Stream.room (s : Stream) : Int := if s.opn = -1 then 0 else max 0 (s.dr.chip.np - max 0 (s.dr.nextOf s.opn))
def Stream.fail (s : Stream) (k : Int) : Stream := { s with pl := (s.pl.set k 3).2, failed := s.failed ++ [k], opn := -1 }
def Stream.head (s : Stream) (k : Int) : Int × Stream :=
  let (e, d) := s.dr.erase k
  let s := { s with dr := d }
  if e ≠ 0 then (e, s) else
  let wear := inc (s.pl.wear k)
  let s := { s with pl := (s.pl.worn k wear).2 }
  let (_, e, d) := s.dr.program k ⟨2, 0, wear % 18446744073709551616, 0, 1⟩ (repS (mkS [0]) s.dr.chip.sz.toNat)
  (e, { s with dr := d })
def Stream.readyN : Nat → Stream → Int × Stream
  | 0, s => (0, s)
  | n + 1, s =>
    if s.room ≠ 0 then (0, s) else
    let (k, e, p) := s.pl.take
    let s := { s with pl := p }
    if e ≠ 0 then (e, { s with opn := -1 }) else
    let (e, s) := s.head k
    if e = 0 then readyN n { s with opn := k } else if e = 10 then readyN n (s.fail k) else (e, { s with opn := -1 })
def Stream.ready (s : Stream) : Int × Stream := s.readyN (s.pl.bl.length + 2)
def Stream.putN : Nat → Stream → Tag → ByteArray → Int × Int × Int × Stream
  | 0, s, _, _ => (0, 0, 13, s)
  | n + 1, s, t, data =>
    let (e, s) := s.ready
    if e ≠ 0 then (0, 0, e, s) else
    let (page, e, d) := s.dr.program s.opn t data
    let s := { s with dr := d }
    if e = 0 then (s.opn, page, 0, s) else if e = 10 then putN n (s.fail s.opn) t data else (0, 0, e, { s with opn := -1 })
def Stream.put (s : Stream) (t : Tag) (data : ByteArray) : Int × Int × Int × Stream :=
  if !t.right || decide ((data.size : Int) ≠ s.dr.chip.sz) then (0, 0, 2, s) else s.putN (s.pl.bl.length + 2) t data

end Go.Proofs.Ytljphijjcagciaa
