/-
  The tag beside a page, framed and parsed: plain laws.
  What a drive's steps come to, where they are asked rightly: plain laws.
  What the statement on torn pages plays, on plain data.
  The walks over the small functions of layer 8's statements, and a drive's program whatever is asked.
-/
import Derived.Test.YtljphijjcagciaaTagB
import Derived.Test.YtljphijjcagciaaCore
import Derived.Test.YtljphijjcagciaaDriveA
import Derived.Test.YtljphijjcagciaaDriveB
namespace Go.Proofs.Ytljphijjcagciaa
open Go.RowKit

theorem putB_succ (n w : Nat) : putB n (w + 1) = putB (n / 256) w ++ [UInt8.ofNat n] := by
  unfold putB
  rw [List.range_succ, List.map_append]
  have e : (List.range w).map (fun i => UInt8.ofNat (n / 256 ^ (w + 1 - 1 - i))) = (List.range w).map (fun i => UInt8.ofNat (n / 256 / 256 ^ (w - 1 - i))) := by
    refine List.map_congr_left fun i hi => ?_
    have hi' : i < w := List.mem_range.1 hi
    rw [show w + 1 - 1 - i = (w - 1 - i) + 1 by omega, Nat.pow_succ, Nat.mul_comm, Nat.div_div_eq_div_mul]
  rw [e]; simp
theorem getB_putB : ∀ (w n : Nat), w ≤ 8 → n < 256 ^ w → getB (putB n w) = n
  | 0, n, _, h => by simp at h; subst h; rfl
  | w + 1, n, hw, h => by
    have h1 : n / 256 < 256 ^ w := Nat.div_lt_of_lt_mul (by rw [Nat.mul_comm, ← Nat.pow_succ]; exact h)
    have hp : 256 ^ (w + 1) ≤ 256 ^ 8 := Nat.pow_le_pow_right (by omega) hw
    have e8 : (256 : Nat) ^ 8 = 18446744073709551616 := by decide
    rw [putB_succ, getB_snoc, getB_putB w (n / 256) (by omega) h1]
    have : (UInt8.ofNat n).toNat = n % 256 := by simp
    rw [this]
    omega
theorem take_drop_mid {a b c : List UInt8} {k n : Nat} (ha : a.length = k) (hb : b.length = n) : ((a ++ (b ++ c)).drop k).take n = b := by
  subst ha hb; simp
theorem Tag.read_bytes (t : Tag) (h : t.right = true) (hs : 0 ≤ t.seq ∧ t.seq ≤ 18446744073709551615) (l : List UInt8) : Tag.read (t.bytes ++ l) = t := by
  obtain ⟨k, g, s, p, n⟩ := t
  obtain ⟨h1, h2, h3, h4, h5, h6, h7, h8⟩ := Tag.right_iff.1 h
  dsimp only at h1 h2 h3 h4 h5 h6 h7 h8 hs
  have e : (⟨k, g, s, p, n⟩ : Tag).bytes ++ l = [255] ++ (putB k.toNat 1 ++ (putB g.toNat 2 ++ (putB s.toNat 8 ++ (putB p.toNat 1 ++ (putB n.toNat 1 ++ (List.replicate 14 0 ++ l)))))) := by
    simp [Tag.bytes]
  rw [e]
  unfold Tag.read
  have a1 := take_drop_mid (a := [255]) (b := putB k.toNat 1) (c := putB g.toNat 2 ++ (putB s.toNat 8 ++ (putB p.toNat 1 ++ (putB n.toNat 1 ++ (List.replicate 14 0 ++ l))))) (k := 1) (n := 1) rfl (putB_length _ _)
  have a2 := take_drop_mid (a := [255] ++ putB k.toNat 1) (b := putB g.toNat 2) (c := putB s.toNat 8 ++ (putB p.toNat 1 ++ (putB n.toNat 1 ++ (List.replicate 14 0 ++ l)))) (k := 2) (n := 2) (by simp [putB_length]) (putB_length _ _)
  have a3 := take_drop_mid (a := [255] ++ putB k.toNat 1 ++ putB g.toNat 2) (b := putB s.toNat 8) (c := putB p.toNat 1 ++ (putB n.toNat 1 ++ (List.replicate 14 0 ++ l))) (k := 4) (n := 8) (by simp [putB_length]) (putB_length _ _)
  have a4 := take_drop_mid (a := [255] ++ putB k.toNat 1 ++ putB g.toNat 2 ++ putB s.toNat 8) (b := putB p.toNat 1) (c := putB n.toNat 1 ++ (List.replicate 14 0 ++ l)) (k := 12) (n := 1) (by simp [putB_length]) (putB_length _ _)
  have a5 := take_drop_mid (a := [255] ++ putB k.toNat 1 ++ putB g.toNat 2 ++ putB s.toNat 8 ++ putB p.toNat 1) (b := putB n.toNat 1) (c := List.replicate 14 0 ++ l) (k := 13) (n := 1) (by simp [putB_length]) (putB_length _ _)
  simp only [List.append_assoc] at a1 a2 a3 a4 a5
  rw [a1, a2, a3, a4, a5, getB_putB 1 _ (by omega) (by omega), getB_putB 2 _ (by omega) (by omega), getB_putB 8 _ (by omega) (by omega), getB_putB 1 _ (by omega) (by omega), getB_putB 1 _ (by omega) (by omega)]
  simp only [Tag.mk.injEq]
  omega
theorem bs_beside (t : Tag) (data : ByteArray) : bs (t.beside data) = t.bytes ++ sumB data (mkS t.bytes) := rfl
theorem parse_beside (t : Tag) (data : ByteArray) (h : t.right = true) (hs : 0 ≤ t.seq ∧ t.seq ≤ 18446744073709551615) : Tag.parse data (t.beside data) = (t, 0) := by
  unfold Tag.parse
  rw [bs_beside, Tag.read_bytes t h hs]
  have e1 : (t.bytes ++ sumB data (mkS t.bytes)).take 28 = t.bytes := by rw [← Tag.bytes_length t]; simp
  have e2 : (t.bytes ++ sumB data (mkS t.bytes)).drop 28 = sumB data (mkS t.bytes) := by rw [← Tag.bytes_length t]; simp
  rw [e1, e2]
  simp [h]

end Go.Proofs.Ytljphijjcagciaa

namespace Go.Proofs.Ytljphijjcagciaa
open Go.RowKit

theorem inc_small {n : Int} (h0 : -9223372036854775808 ≤ n) (h : n < 9223372036854775807) : inc n = n + 1 := by unfold inc wrap64; omega

/-- A page that is no erased one. -/
def Solid (c : Chip) (s : ByteArray) : Prop := s ≠ c.ff
theorem kept_solid {c : Chip} {s : ByteArray} (h : s ≠ c.ff) : c.kept s = s := by unfold Chip.kept; rw [if_neg h]
theorem ff_head (c : Chip) : (bs c.ff)[0]? = some 255 := by
  have : c.whole = (c.sz.toNat + 31) + 1 := by unfold Chip.whole; omega
  unfold Chip.ff; rw [this]; rfl
theorem solid_of {c : Chip} {data beside : ByteArray} (h : ∃ b, (bs data)[0]? = some b ∧ b ≠ 255) : data ++ beside ≠ c.ff := by
  obtain ⟨b, h1, h2⟩ := h
  intro e
  have h3 := ff_head c
  rw [← e, bs_append, List.getElem?_append_left (List.getElem?_eq_some_iff.1 h1).1, h1] at h3
  exact h2 (by simpa using h3)
theorem solid_tag {c : Chip} {data : ByteArray} {t : Tag} (hd : (data.size : Int) = c.sz) (ht : t.right = true) : data ++ t.beside data ≠ c.ff := by
  intro e
  obtain ⟨h1, h2, _⟩ := Tag.right_iff.1 ht
  have h3 : (bs (data ++ t.beside data))[data.size + 1]? = some (UInt8.ofNat t.kind.toNat) := by
    rw [bs_append, List.getElem?_append_right (by rw [bs_length]; omega), bs_length, bs_beside, show data.size + 1 - data.size = 1 by omega]
    simp [Tag.bytes, putB]
  have h4 : (bs c.ff)[data.size + 1]? = some 255 := by
    have key : ∀ n i, i < n → (repL [255] n)[i]? = some (255 : UInt8) := by
      intro n
      induction n with
      | zero => intro i hi; omega
      | succ n ih =>
        intro i hi
        cases i with
        | zero => rfl
        | succ i => rw [repL, List.getElem?_append_right (by simp)]; simp; exact ih i (by omega)
    exact key c.whole _ (by unfold Chip.whole; omega)
  rw [e, h4] at h3
  have h5 : (255 : UInt8).toNat = (UInt8.ofNat t.kind.toNat).toNat := by
    have := Option.some.inj h3; rw [this]
  simp at h5
  omega

theorem Chip.ready_ok {c : Chip} {b p : Int} (ho : c.off = false) (hk : c.has b = true) (h0 : 0 ≤ p) (h1 : p < c.np) : c.ready b p = 0 := by
  unfold Chip.ready
  rw [ho, hk, if_neg (by simp), if_neg (by simp; omega)]
theorem Drive.ready_ok {d : Drive} {k : Int} (hk : d.is k = true) (hb : d.bad.getD k.toNat false = false) : d.ready k = 0 := by
  unfold Drive.ready; rw [hk, hb]; rfl

/-- A page is programmed. -/
def Chip.progd (c : Chip) (k page : Int) (s : ByteArray) : Chip :=
  { c with progs := inc c.progs, fuse := if c.fuse = 0 then 0 else c.fuse - 1, bl := c.bl.set k.toNat { c.at k with next := page + 1, pages := (c.at k).pages.set page.toNat s } }
theorem Chip.program_ok {c : Chip} {k page : Int} {data beside : ByteArray} (hr : c.ready k page = 0) (hd : (data.size : Int) = c.sz) (hb : beside.size = 32) (hf : (c.at k).failed = false) (hw : (c.at k).weak = false)
    (hn : page = (c.at k).next) (hp : page < 1000) (hfu : c.fuse ≠ 1) (hff : data ++ beside ≠ c.ff) (ho : c.off = false) : c.program k page data beside = (0, c.progd k page (data ++ beside)) := by
  obtain ⟨hk, hp0, _⟩ := Chip.ready_zero hr
  rw [Chip.program_go hr hd hb hf hn]
  have hi : inc (c.at k).next = page + 1 := by rw [← hn]; exact inc_small (by omega) (by omega)
  rw [hi]
  have hb1 : ((c.put k { c.at k with next := page + 1 }).burn false).1 = false := by
    unfold Chip.burn
    simp only [Bool.false_eq_true, if_false, Chip.put]
    split
    · rfl
    · simpa using hfu
  rw [hb1, hw, if_neg (by simp), if_neg (by simp)]
  have hff2 : ((c.put k { c.at k with next := page + 1 }).burn false).2.kept (data ++ beside) = data ++ beside := by
    refine kept_solid ?_
    unfold Chip.ff Chip.whole; rw [Chip.burn_sz]; exact hff
  rw [hff2]
  refine Prod.ext rfl ?_
  unfold Chip.progd Chip.burn Chip.put
  simp only [Bool.false_eq_true, if_false]
  by_cases h0 : c.fuse = 0
  · rw [if_pos h0, if_pos h0]; simp [h0, hn]
  · rw [if_neg h0, if_neg h0]; simp [hfu, ho, hn]

/-- A program is cut. -/
def Chip.cutd (c : Chip) (k page : Int) : Chip :=
  { c with progs := inc c.progs, fuse := 0, off := true, bl := c.bl.set k.toNat { c.at k with next := page + 1, pages := (c.at k).pages.set page.toNat c.tear } }
theorem Chip.program_cut {c : Chip} {k page : Int} {data beside : ByteArray} (hr : c.ready k page = 0) (hd : (data.size : Int) = c.sz) (hb : beside.size = 32) (hf : (c.at k).failed = false)
    (hn : page = (c.at k).next) (hp : page < 1000) (hfu : c.fuse = 1) : c.program k page data beside = (9, c.cutd k page) := by
  obtain ⟨hk, hp0, _⟩ := Chip.ready_zero hr
  rw [Chip.program_go hr hd hb hf hn]
  have hi : inc (c.at k).next = page + 1 := by rw [← hn]; exact inc_small (by omega) (by omega)
  rw [hi]
  have hb1 : ((c.put k { c.at k with next := page + 1 }).burn false).1 = true := by
    unfold Chip.burn
    simp [Chip.put, hfu]
  rw [hb1, if_pos rfl]
  refine Prod.ext rfl ?_
  unfold Chip.cutd Chip.burn Chip.put
  simp only [Bool.false_eq_true, if_false, hfu]
  simp [hn]
  rfl

def Chip.erasd (c : Chip) (k : Int) : Chip :=
  { c with ers := inc c.ers, fuse := if c.fuse = 0 then 0 else c.fuse - 1, bl := c.bl.set k.toNat { (c.at k).clear allPg with erases := inc (c.at k).erases } }
theorem Chip.erase_ok {c : Chip} {k : Int} (hr : c.ready k 0 = 0) (hf : (c.at k).failed = false) (hw : (c.at k).weak = false) (hfu : c.fuse ≠ 1) (ho : c.off = false) : c.erase k = (0, c.erasd k) := by
  unfold Chip.erase
  rw [if_neg (by omega)]
  simp only [hf, Bool.false_eq_true, if_false]
  have hb1 : (c.burn true).1 = false := by
    unfold Chip.burn
    simp only [if_true]
    split
    · rfl
    · simpa using hfu
  simp only [hb1, hw, Bool.false_eq_true, if_false]
  refine Prod.ext rfl ?_
  unfold Chip.erasd Chip.burn Chip.put
  simp only [if_true]
  by_cases h0 : c.fuse = 0
  · rw [if_pos h0, if_pos h0]; simp [h0]
  · rw [if_neg h0, if_neg h0]; simp [hfu, ho]

theorem Drive.program_eq {d : Drive} {k : Int} {t : Tag} {data : ByteArray} {page e : Int} {c : Chip} (hr : d.ready k = 0) (ht : t.right = true) (hs : (data.size : Int) = d.chip.sz) (hn : d.next.getD k.toNat 0 = page)
    (h0 : 0 ≤ page) (h1 : page < d.chip.np) (hc : d.chip.program k page data (t.beside data) = (e, c)) :
    d.program k t data = (if e = 0 then (page, 0, { d with chip := c, next := d.next.set k.toNat (inc page) }) else (0, e, ({ d with chip := c } : Drive).learn k e)) := by
  unfold Drive.program
  rw [if_neg (by omega)]
  dsimp only
  rw [hn, ht, hs, hc, if_neg (by simp), if_neg (by simp; omega)]
  dsimp only
  by_cases he : e = 0
  · subst he
    rw [if_neg (by simp), if_pos rfl]
    simp [Drive.learn]
  · rw [if_pos he, if_neg he]
theorem Drive.program_order {d : Drive} {k : Int} {t : Tag} {data : ByteArray} (hr : d.ready k = 0) (ht : t.right = true) (hs : (data.size : Int) = d.chip.sz) (hn : d.next.getD k.toNat 0 = -1 ∨ d.chip.np ≤ d.next.getD k.toNat 0) : d.program k t data = (0, 11, d) := by
  unfold Drive.program
  rw [if_neg (by omega)]
  dsimp only
  rw [ht, hs, if_neg (by simp), if_pos (by simpa using hn)]
theorem Drive.erase_eq {d : Drive} {k e : Int} {c : Chip} (hr : d.ready k = 0) (hc : d.chip.erase k = (e, c)) :
    d.erase k = (if e = 0 then (0, { d with chip := c, next := d.next.set k.toNat 0 }) else (e, ({ d with chip := c } : Drive).learn k e)) := by
  unfold Drive.erase
  rw [if_neg (by omega), hc]
  dsimp only
  by_cases he : e = 0
  · subst he
    rw [if_pos rfl, if_pos rfl]
    simp [Drive.learn]
  · rw [if_neg he, if_neg he]

/-- A page that was programmed by its tag reads as it was. -/
theorem extract_left (a b : ByteArray) : (a ++ b).extract 0 a.size = a := by
  refine bs_inj ?_
  rw [bs_extract, bs_append]; simp [← bs_length]
theorem extract_right (a b : ByteArray) : (a ++ b).extract a.size (a ++ b).size = b := by
  refine bs_inj ?_
  rw [bs_extract, bs_append, ByteArray.size_append]
  simp [← bs_length]
theorem Chip.read_data {c : Chip} {b p : Int} {data beside : ByteArray} (hr : c.ready b p = 0) (hd : (data.size : Int) = c.sz) (hb : beside.size = 32) (hp : (c.at b).pages.getD p.toNat (mkS []) = data ++ beside) : c.read b p = (data, beside, 0) := by
  unfold Chip.read
  rw [if_neg (by omega), hp]
  dsimp only
  have hsz : (data ++ beside).size ≠ 0 := by rw [ByteArray.size_append]; omega
  have e : c.sz.toNat = data.size := by omega
  rw [if_neg hsz, e, extract_left, extract_right]
theorem allFF_kind {data : ByteArray} {t : Tag} (ht : t.right = true) : allFF (data ++ t.beside data) = false := by
  unfold allFF
  simp only [decide_eq_false_iff_not]
  have := solid_tag (c := { (default : Chip) with sz := data.size }) (data := data) (t := t) rfl ht
  intro e
  refine this ?_
  rw [e]
  unfold Chip.ff Chip.whole
  rw [ByteArray.size_append, Tag.beside_size]
  congr 1
theorem Drive.read_tag {d : Drive} {b p : Int} {t : Tag} {data : ByteArray} (hr : d.chip.ready b p = 0) (hd : (data.size : Int) = d.chip.sz) (ht : t.right = true) (hs : 0 ≤ t.seq ∧ t.seq ≤ 18446744073709551615)
    (hp : (d.chip.at b).pages.getD p.toNat (mkS []) = data ++ t.beside data) : d.read b p = (⟨4, t, data⟩, 0) := by
  unfold Drive.read
  rw [Chip.read_data hr hd (Tag.beside_size t data) hp]
  dsimp only
  rw [if_neg (by simp), allFF_kind ht, if_neg (by simp)]
  unfold pageState
  rw [parse_beside t data ht hs]
  rfl

end Go.Proofs.Ytljphijjcagciaa

namespace Go.Proofs.Ytljphijjcagciaa
open Go.RowKit

def fullS (l : List UInt8) (n : Nat) : ByteArray := (mkS l ++ repS (mkS [85]) n).extract 0 n
theorem fullS_size (l : List UInt8) (n : Nat) : (fullS l n).size = n := by
  unfold fullS
  rw [ByteArray.size_extract, ByteArray.size_append, repS_size, mkS_size, mkS_size]
  simp
def firstS : ByteArray := fullS [102, 105, 114, 115, 116] 32
def secondS : ByteArray := fullS [115, 101, 99, 111, 110, 100] 32
def tornS : ByteArray := mkS [254, 255, 253]
def tag08 (n : Nat) : Tag := ⟨1, n, 1, 0, 1⟩
theorem tag08_right {n : Nat} (h : n < 256) : (tag08 n).right = true := by
  refine Tag.right_iff.2 ⟨?_, ?_, ?_, ?_, ?_, ?_, ?_, ?_⟩ <;> dsimp only [tag08] <;> omega

def blkE (er : Int) : Blk := ⟨[mkS [], mkS [], mkS [], mkS []], 0, er, false, false, false⟩
def start08 : Drive := Drive.new (Chip.new 4 4 32 [])
def erased08 : Drive := ⟨⟨4, 4, 32, [blkE 1, blkE 1, blkE 0, blkE 0], 0, mkS [], false, 0, 2, 0⟩, [false, false, false, false], [0, 0, -1, -1]⟩
theorem start08_e0 : (start08.erase 0) = (0, (start08.erase 0).2) := by kernel_rfl
theorem start08_e1 : (start08.erase 0).2.erase 1 = (0, erased08) := by kernel_rfl
def pg1 (P : ByteArray) : Blk := ⟨[P, mkS [], mkS [], mkS []], 1, 1, false, false, false⟩
def first08 (P : ByteArray) : Drive := ⟨⟨4, 4, 32, [pg1 P, blkE 1, blkE 0, blkE 0], 0, mkS [], false, 1, 2, 0⟩, [false, false, false, false], [1, 0, -1, -1]⟩

theorem erased08_program {n : Nat} (h : n < 256) : erased08.program 0 (tag08 n) firstS = (0, 0, first08 (firstS ++ (tag08 n).beside firstS)) := by
  have hs : (firstS.size : Int) = 32 := by unfold firstS; rw [fullS_size]; rfl
  have hc := Chip.program_ok (c := erased08.chip) (k := 0) (page := 0) (data := firstS) (beside := (tag08 n).beside firstS) rfl hs (Tag.beside_size _ _) rfl rfl rfl (by decide) (by decide)
    (solid_tag hs (tag08_right h)) rfl
  rw [Drive.program_eq (page := 0) rfl (tag08_right h) hs rfl (by decide) (by decide) hc, if_pos rfl]
  show ((0 : Int), (0 : Int), _) = (0, 0, _)
  kernel_rfl

/-- Behind the fuse: i pages of the second block are programmed. -/
def pgs (S : ByteArray) (i : Nat) : List ByteArray := (List.range 4).map fun x => if x < i then S else mkS []
def way08 (P S : ByteArray) (i j : Nat) : Drive :=
  ⟨⟨4, 4, 32, [pg1 P, ⟨pgs S i, i, 1, false, false, false⟩, blkE 0, blkE 0], 1 + (j - i : Nat), tornS, false, 1 + (i : Int), 2, 0⟩, [false, false, false, false], [1, i, -1, -1]⟩
theorem way08_zero (P S : ByteArray) (j : Nat) : ({ first08 P with chip := (first08 P).chip.fuse' (1 + (j : Int)) tornS } : Drive) = way08 P S 0 j := by
  have e : max (1 + (j : Int)) 0 = 1 + ((j - 0 : Nat) : Int) := by omega
  unfold way08 first08 Chip.fuse'
  dsimp only
  rw [e]
  rfl
theorem way08_step {n : Nat} (h : n < 256) (P : ByteArray) {i j : Nat} (hij : i < j) (hj : j < 4) :
    (way08 P (secondS ++ (tag08 n).beside secondS) i j).program 1 (tag08 n) secondS = ((i : Int), 0, way08 P (secondS ++ (tag08 n).beside secondS) (i + 1) j) := by
  have hs : (secondS.size : Int) = 32 := by unfold secondS; rw [fullS_size]; rfl
  have hsol := solid_tag (c := (way08 P (secondS ++ (tag08 n).beside secondS) i j).chip) hs (tag08_right h)
  have hbs := Tag.beside_size (tag08 n) secondS
  generalize hS : secondS ++ (tag08 n).beside secondS = S at hsol ⊢
  have hc := Chip.program_ok (c := (way08 P S i j).chip) (k := 1) (page := i) (data := secondS) (beside := (tag08 n).beside secondS)
    (Chip.ready_ok rfl rfl (by omega) (by show (i : Int) < 4; omega)) hs hbs rfl rfl rfl (by omega) (by show (1 : Int) + ((j - i : Nat) : Int) ≠ 1; omega) (by rw [hS]; exact hsol) rfl
  rw [Drive.program_eq (page := i) rfl (tag08_right h) hs rfl (by omega) (by show (i : Int) < 4; omega) hc, if_pos rfl, hS]
  refine Prod.ext rfl (Prod.ext rfl ?_)
  have hi : i = 0 ∨ i = 1 ∨ i = 2 := by omega
  have hf : (if (1 : Int) + ((j - i : Nat) : Int) = 0 then (0 : Int) else 1 + ((j - i : Nat) : Int) - 1) = 1 + ((j - (i + 1) : Nat) : Int) := by
    rw [if_neg (by omega)]; omega
  unfold way08 Chip.progd
  dsimp only
  rw [hf]
  rcases hi with rfl | rfl | rfl
  · show Drive.mk _ _ _ = Drive.mk _ _ _; kernel_rfl
  · show Drive.mk _ _ _ = Drive.mk _ _ _; kernel_rfl
  · show Drive.mk _ _ _ = Drive.mk _ _ _; kernel_rfl
def cut08 (P S : ByteArray) (j : Nat) : Drive :=
  ⟨(way08 P S j j).chip.cutd 1 j, [false, false, false, false], [-1, -1, -1, -1]⟩
theorem way08_cut {n : Nat} (h : n < 256) (P S : ByteArray) {j : Nat} (hj : j < 4) : (way08 P S j j).program 1 (tag08 n) secondS = (0, 9, cut08 P S j) := by
  have hs : (secondS.size : Int) = 32 := by unfold secondS; rw [fullS_size]; rfl
  have hc := Chip.program_cut (c := (way08 P S j j).chip) (k := 1) (page := j) (data := secondS) (beside := (tag08 n).beside secondS)
    (Chip.ready_ok rfl rfl (by omega) (by show (j : Int) < 4; omega)) hs (Tag.beside_size _ _) rfl rfl (by omega) (by show (1 : Int) + ((j - j : Nat) : Int) = 1; omega)
  rw [Drive.program_eq (page := j) rfl (tag08_right h) hs rfl (by omega) (by show (j : Int) < 4; omega) hc, if_neg (by decide)]
  rfl
theorem cut08_order {n : Nat} (h : n < 256) (P S : ByteArray) (j : Nat) : (cut08 P S j).program 1 (tag08 n) secondS = (0, 11, cut08 P S j) :=
  Drive.program_order rfl (tag08_right h) (by unfold secondS; rw [fullS_size]; rfl) (.inl rfl)
def on08 (P S : ByteArray) (j : Nat) : Drive := { cut08 P S j with chip := (cut08 P S j).chip.on }

theorem on08_first {n : Nat} (h : n < 256) (S : ByteArray) {j : Nat} : (on08 (firstS ++ (tag08 n).beside firstS) S j).read 0 0 = (⟨4, tag08 n, firstS⟩, 0) :=
  Drive.read_tag (d := on08 (firstS ++ (tag08 n).beside firstS) S j) (Chip.ready_ok rfl rfl (by decide) (by show (0 : Int) < 4; decide)) (by unfold firstS; rw [fullS_size]; rfl) (tag08_right h) (by simp [tag08]) rfl

def tornL : List UInt8 := (repL [254, 255, 253] 22).take 64
theorem tear08 (P S : ByteArray) (j : Nat) : (way08 P S j j).chip.tear = mkS (tornL.take 32) ++ mkS (tornL.drop 32) := by
  show ({ erased08.chip with torn := tornS } : Chip).tear = _
  kernel_rfl
theorem on08_torn (P S : ByteArray) {j : Nat} (hj : j < 4) : ∃ s t x, (on08 P S j).read 1 j = (⟨s, t, x⟩, 0) ∧ s ≠ 4 ∧ s ≠ 1 := by
  have hp : ((on08 P S j).chip.at 1).pages.getD ((j : Int)).toNat (mkS []) = mkS (tornL.take 32) ++ mkS (tornL.drop 32) := by
    have e : ((on08 P S j).chip.at 1).pages.getD ((j : Int)).toNat (mkS []) = (way08 P S j j).chip.tear := by
      have : j = 0 ∨ j = 1 ∨ j = 2 ∨ j = 3 := by omega
      rcases this with rfl | rfl | rfl | rfl <;> rfl
    rw [e, tear08]
  have hr : (on08 P S j).chip.ready 1 j = 0 := Chip.ready_ok rfl rfl (by omega) (by show (j : Int) < 4; omega)
  have hd := Chip.read_data (c := (on08 P S j).chip) hr (data := mkS (tornL.take 32)) (beside := mkS (tornL.drop 32)) (by show _ = (32 : Int); kernel_rfl) (by kernel_rfl) hp
  have hf : allFF (mkS (tornL.take 32) ++ mkS (tornL.drop 32)) = false := by kernel_rfl
  have ht : (Tag.parse (mkS (tornL.take 32)) (mkS (tornL.drop 32))) = (Tag.none, 4) := by kernel_rfl
  have hx : factoryB (mkS (tornL.drop 32)) = true := by kernel_rfl
  unfold Drive.read
  rw [hd]
  dsimp only
  rw [if_neg (by simp), hf, if_neg (by simp)]
  unfold pageState
  rw [ht, hx]
  dsimp only
  rw [if_neg (by decide)]
  by_cases h0 : (j : Int) = 0
  · rw [h0]
    exact ⟨3, Tag.none, _, rfl, by decide, by decide⟩
  · rw [if_neg (by simp; omega)]
    exact ⟨2, Tag.none, _, rfl, by decide, by decide⟩

/-! the signs of life -/
def aS : ByteArray := fullS [97] 32
def tagW : Tag := ⟨1, 0, 9, 0, 1⟩
def wake0 : Drive := Drive.new (Chip.new 4 2 32 [])
def wake1 : Drive := ⟨⟨4, 2, 32, [freshBlk 2, ⟨[mkS [], mkS []], 0, 1, false, false, false⟩, freshBlk 2, freshBlk 2], 0, mkS [], false, 0, 1, 0⟩, [false, false, false, false], [-1, 0, -1, -1]⟩
def wake2 : Drive := ⟨⟨4, 2, 32, [freshBlk 2, ⟨[aS ++ tagW.beside aS, mkS []], 1, 1, false, false, false⟩, freshBlk 2, freshBlk 2], 0, mkS [], false, 1, 1, 0⟩, [false, false, false, false], [-1, 1, -1, -1]⟩
theorem wake0_order : wake0.program 1 tagW aS = (0, 11, wake0) := Drive.program_order rfl rfl (by unfold aS; rw [fullS_size]; rfl) (.inl rfl)
theorem wake0_erase : wake0.erase 1 = (0, wake1) := by kernel_rfl
theorem wake1_program : wake1.program 1 tagW aS = (0, 0, wake2) := by
  have hs : (aS.size : Int) = 32 := by unfold aS; rw [fullS_size]; rfl
  have hc := Chip.program_ok (c := wake1.chip) (k := 1) (page := 0) (data := aS) (beside := tagW.beside aS) rfl hs (Tag.beside_size _ _) rfl rfl rfl (by decide) (by decide) (solid_tag hs rfl) rfl
  rw [Drive.program_eq (page := 0) rfl rfl hs rfl (by decide) (by decide) hc, if_pos rfl]
  show ((0 : Int), (0 : Int), _) = (0, 0, _)
  kernel_rfl
theorem wake2_read : wake2.read 1 0 = (⟨4, tagW, aS⟩, 0) :=
  Drive.read_tag (d := wake2) (Chip.ready_ok rfl rfl (by decide) (by decide)) (by unfold aS; rw [fullS_size]; rfl) rfl (by decide) rfl
theorem wake2_next : wake2.nextOf 1 = 1 := rfl

end Go.Proofs.Ytljphijjcagciaa

namespace Go.Proofs.Ytljphijjcagciaa
open Go.RowKit

theorem driveProgram_any (D : DL) (d : Drive) (k : Int) (t : Tag) (data : ByteArray) (w : World) (h : DriveAt w D d) (hfu : d.chip.fuse ≤ 1000000) (hd : data.size ≤ 100000) (hs : 0 ≤ t.seq ∧ t.seq ≤ 18446744073709551615) :
    Calls Try.prog 10 #[.pointer (some ⟨D.d, 0, none⟩), .int .i64 k, t.val, .string data] w fun e w' => e = .returned (.tuple #[.int .i64 (d.program k t data).1, .int .i64 (d.program k t data).2.1]) ∧ DriveAt w' D (d.program k t data).2.2 ∧ Upd D.foot w w' := by
  by_cases hr : d.ready k = 0
  · exact driveProgram_go D d k t data w h hfu hd hs hr
  · have e : d.program k t data = (0, d.ready k, d) := by unfold Drive.program; rw [if_pos hr]
    rw [e]
    refine (driveProgram_no D d k t data w h hr).mono ?_
    rintro x w' ⟨rfl, hu⟩
    exact ⟨rfl, h.upd hu fun _ h => h.elim, hu.mono fun _ _ h => h.elim⟩

theorem full08_any (l : List UInt8) (n : Nat) (hl : l.length ≤ 1000000) (hn : n ≤ 1000000) (w : World) :
    Calls Try.prog 11 #[.string (mkS l), .int .i64 (n : Int)] w fun e w' => e = .returned (.string (fullS l n)) ∧ Upd noBlk w w' := by
  have HR := hid (fun w' => Repeat_any (mkS [85]) (n : Int) w' (by omega) (by simp [mkS_size]; omega))
  have h1 : (repS (mkS [85]) n).size = n := by rw [repS_size, mkS_size]; simp
  have hs : (mkS l).size = l.length := rfl
  simp only [Int.toNat_natCast] at HR
  unfold fullS
  generalize repS (mkS [85]) n = R at HR h1 ⊢
  generalize mkS l = S at hs ⊢
  go_enter Try.func11, Try.ntmps11
  go_wp2_with fail
  refine (HR.out _).mono ?_; rintro e w1 ⟨rfl, hu⟩
  have HU := hid hu; clear hu
  go_wp2_with fail
  go_ret
  exact ⟨rfl, HU.out⟩

end Go.Proofs.Ytljphijjcagciaa
