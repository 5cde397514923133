/-
  What layers 1, 2, 4 and 6 compute: numbers as bytes, checks, tags: plain functions on plain data.
-/
import Derived.Test.YtljphijjcagciaaModel
namespace Go.Proofs.Ytljphijjcagciaa
open Go.RowKit

/-! be -/
def putB (n w : Nat) : List UInt8 := (List.range w).map fun i => UInt8.ofNat (n / 256 ^ (w - 1 - i))
def getB (l : List UInt8) : Nat := l.foldl (fun n b => (n * 256 + b.toNat) % 18446744073709551616) 0
def mayB (w : Int) : Bool := decide (1 ≤ w) && decide (w ≤ 8)

/-! poly -/
def stepBit (y : Int) : Int := if bits .and .u32 y 2147483648 != 0 then bits .xor .u32 (y * 2 % 4294967296) 79764919 else y * 2 % 4294967296
def stepN : Nat → Int → Int
  | 0, y => y
  | k + 1, y => stepBit (stepN k y)
@[irreducible] def polyTab : List Int := (List.range 256).map fun (b : Nat) => stepN 8 ((b : Int) * 16777216)
def crcByte (state : Int) (b : UInt8) : Int := bits .xor .u32 (state * 256 % 4294967296) (polyTab.getD (bits .xor .u8 (state / 16777216) (b.toNat : Int)).toNat 0)
def crcMore (state : Int) (l : List UInt8) : Int := l.foldl crcByte state
def crcLast (state : Int) : Int := bits .xor .u32 4294967295 state
def crcOf (data beside : ByteArray) : Int := crcLast (crcMore (crcMore 4294967295 (bs data)) (bs beside))

/-! tag -/
structure Tag where
  kind : Int
  logical : Int
  seq : Int
  pos : Int
  len : Int
  deriving DecidableEq, Inhabited
def Tag.none : Tag := ⟨0, 0, 0, 0, 0⟩
def Tag.right (t : Tag) : Bool :=
  decide (1 ≤ t.kind) && decide (t.kind ≤ 3) && decide (0 ≤ t.logical) && decide (t.logical ≤ 65535) && decide (1 ≤ t.len) && decide (t.len ≤ 255) && decide (0 ≤ t.pos) && decide (t.pos < t.len)
def Tag.bytes (t : Tag) : List UInt8 :=
  255 :: (putB t.kind.toNat 1 ++ putB t.logical.toNat 2 ++ putB t.seq.toNat 8 ++ putB t.pos.toNat 1 ++ putB t.len.toNat 1 ++ List.replicate 14 0)
def sumB (data beside : ByteArray) : List UInt8 := putB (crcOf data beside).toNat 4
/-- The bytes beside a page, of a tag that may be. -/
def Tag.beside (t : Tag) (data : ByteArray) : ByteArray := mkS (t.bytes ++ sumB data (mkS t.bytes))
def Tag.read (l : List UInt8) : Tag :=
  ⟨getB ((l.drop 1).take 1), getB ((l.drop 2).take 2), getB ((l.drop 4).take 8), getB ((l.drop 12).take 1), getB ((l.drop 13).take 1)⟩
/-- The tag beside a page, and 0, 4 (no form) or 5 (the sum). -/
def Tag.parse (data beside : ByteArray) : Tag × Int :=
  let t := Tag.read (bs beside)
  if !t.right || decide (t.bytes ≠ (bs beside).take 28) then (Tag.none, 4)
  else if sumB data (mkS ((bs beside).take 28)) ≠ (bs beside).drop 28 then (Tag.none, 5)
  else (t, 0)
def allFF (s : ByteArray) : Bool := decide (s = repS (mkS [255]) s.size)
def factoryB (beside : ByteArray) : Bool := !decide ((bs beside).take 1 = [255])

end Go.Proofs.Ytljphijjcagciaa
