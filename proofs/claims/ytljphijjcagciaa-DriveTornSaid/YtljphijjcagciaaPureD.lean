/-
  What a drive's steps come to, where they are asked rightly: plain laws.
-/
import Derived.Test.YtljphijjcagciaaPureT
import Derived.Test.YtljphijjcagciaaDrive3
namespace Go.Proofs.Ytljphijjcagciaa
open Go.RowKit

theorem inc_small {n : Int} (h0 : -9223372036854775808 ≤ n) (h : n < 9223372036854775807) : inc n = n + 1 := by unfold inc wrap64; omega

/-- A page that is no erased one. -/
def Solid (c : Chip) (s : ByteArray) : Prop := s ≠ c.ff
theorem kept_solid {c : Chip} {s : ByteArray} (h : s ≠ c.ff) : c.kept s = s := by unfold Chip.kept; rw [if_neg h]
theorem ff_head (c : Chip) : (bs c.ff)[0]? = some 255 := by
  have : c.whole = (c.sz.toNat + 31) + 1 := by unfold Chip.whole; omega
  unfold Chip.ff; rw [this]; rfl
theorem solid_of {c : Chip} {data beside : ByteArray} (h : ∃ b, (bs data)[0]? = some b ∧ b ≠ 255) : data ++ beside ≠ c.ff := by
  obtain ⟨b, h1, h2⟩ := h
  intro e
  have h3 := ff_head c
  rw [← e, bs_append, List.getElem?_append_left (List.getElem?_eq_some_iff.1 h1).1, h1] at h3
  exact h2 (by simpa using h3)
theorem solid_tag {c : Chip} {data : ByteArray} {t : Tag} (hd : (data.size : Int) = c.sz) (ht : t.right = true) : data ++ t.beside data ≠ c.ff := by
  intro e
  obtain ⟨h1, h2, _⟩ := Tag.right_iff.1 ht
  have h3 : (bs (data ++ t.beside data))[data.size + 1]? = some (UInt8.ofNat t.kind.toNat) := by
    rw [bs_append, List.getElem?_append_right (by rw [bs_length]; omega), bs_length, bs_beside, show data.size + 1 - data.size = 1 by omega]
    simp [Tag.bytes, putB]
  have h4 : (bs c.ff)[data.size + 1]? = some 255 := by
    have key : ∀ n i, i < n → (repL [255] n)[i]? = some (255 : UInt8) := by
      intro n
      induction n with
      | zero => intro i hi; omega
      | succ n ih =>
        intro i hi
        cases i with
        | zero => rfl
        | succ i => rw [repL, List.getElem?_append_right (by simp)]; simp; exact ih i (by omega)
    exact key c.whole _ (by unfold Chip.whole; omega)
  rw [e, h4] at h3
  have h5 : (255 : UInt8).toNat = (UInt8.ofNat t.kind.toNat).toNat := by
    have := Option.some.inj h3; rw [this]
  simp at h5
  omega

theorem Chip.ready_ok {c : Chip} {b p : Int} (ho : c.off = false) (hk : c.has b = true) (h0 : 0 ≤ p) (h1 : p < c.np) : c.ready b p = 0 := by
  unfold Chip.ready
  rw [ho, hk, if_neg (by simp), if_neg (by simp; omega)]
theorem Drive.ready_ok {d : Drive} {k : Int} (hk : d.is k = true) (hb : d.bad.getD k.toNat false = false) : d.ready k = 0 := by
  unfold Drive.ready; rw [hk, hb]; rfl

/-- A page is programmed. -/
def Chip.progd (c : Chip) (k page : Int) (s : ByteArray) : Chip :=
  { c with progs := inc c.progs, fuse := if c.fuse = 0 then 0 else c.fuse - 1, bl := c.bl.set k.toNat { c.at k with next := page + 1, pages := (c.at k).pages.set page.toNat s } }
theorem Chip.program_ok {c : Chip} {k page : Int} {data beside : ByteArray} (hr : c.ready k page = 0) (hd : (data.size : Int) = c.sz) (hb : beside.size = 32) (hf : (c.at k).failed = false) (hw : (c.at k).weak = false)
    (hn : page = (c.at k).next) (hp : page < 1000) (hfu : c.fuse ≠ 1) (hff : data ++ beside ≠ c.ff) (ho : c.off = false) : c.program k page data beside = (0, c.progd k page (data ++ beside)) := by
  obtain ⟨hk, hp0, _⟩ := Chip.ready_zero hr
  rw [Chip.program_go hr hd hb hf hn]
  have hi : inc (c.at k).next = page + 1 := by rw [← hn]; exact inc_small (by omega) (by omega)
  rw [hi]
  have hb1 : ((c.put k { c.at k with next := page + 1 }).burn false).1 = false := by
    unfold Chip.burn
    simp only [Bool.false_eq_true, if_false, Chip.put]
    split
    · rfl
    · simpa using hfu
  rw [hb1, hw, if_neg (by simp), if_neg (by simp)]
  have hff2 : ((c.put k { c.at k with next := page + 1 }).burn false).2.kept (data ++ beside) = data ++ beside := by
    refine kept_solid ?_
    unfold Chip.ff Chip.whole; rw [Chip.burn_sz]; exact hff
  rw [hff2]
  refine Prod.ext rfl ?_
  unfold Chip.progd Chip.burn Chip.put
  simp only [Bool.false_eq_true, if_false]
  by_cases h0 : c.fuse = 0
  · rw [if_pos h0, if_pos h0]; simp [h0, hn]
  · rw [if_neg h0, if_neg h0]; simp [hfu, ho, hn]

/-- A program is cut. -/
def Chip.cutd (c : Chip) (k page : Int) : Chip :=
  { c with progs := inc c.progs, fuse := 0, off := true, bl := c.bl.set k.toNat { c.at k with next := page + 1, pages := (c.at k).pages.set page.toNat c.tear } }
theorem Chip.program_cut {c : Chip} {k page : Int} {data beside : ByteArray} (hr : c.ready k page = 0) (hd : (data.size : Int) = c.sz) (hb : beside.size = 32) (hf : (c.at k).failed = false)
    (hn : page = (c.at k).next) (hp : page < 1000) (hfu : c.fuse = 1) : c.program k page data beside = (9, c.cutd k page) := by
  obtain ⟨hk, hp0, _⟩ := Chip.ready_zero hr
  rw [Chip.program_go hr hd hb hf hn]
  have hi : inc (c.at k).next = page + 1 := by rw [← hn]; exact inc_small (by omega) (by omega)
  rw [hi]
  have hb1 : ((c.put k { c.at k with next := page + 1 }).burn false).1 = true := by
    unfold Chip.burn
    simp [Chip.put, hfu]
  rw [hb1, if_pos rfl]
  refine Prod.ext rfl ?_
  unfold Chip.cutd Chip.burn Chip.put
  simp only [Bool.false_eq_true, if_false, hfu]
  simp [hn]
  rfl

def Chip.erasd (c : Chip) (k : Int) : Chip :=
  { c with ers := inc c.ers, fuse := if c.fuse = 0 then 0 else c.fuse - 1, bl := c.bl.set k.toNat { (c.at k).clear allPg with erases := inc (c.at k).erases } }
theorem Chip.erase_ok {c : Chip} {k : Int} (hr : c.ready k 0 = 0) (hf : (c.at k).failed = false) (hw : (c.at k).weak = false) (hfu : c.fuse ≠ 1) (ho : c.off = false) : c.erase k = (0, c.erasd k) := by
  unfold Chip.erase
  rw [if_neg (by omega)]
  simp only [hf, Bool.false_eq_true, if_false]
  have hb1 : (c.burn true).1 = false := by
    unfold Chip.burn
    simp only [if_true]
    split
    · rfl
    · simpa using hfu
  simp only [hb1, hw, Bool.false_eq_true, if_false]
  refine Prod.ext rfl ?_
  unfold Chip.erasd Chip.burn Chip.put
  simp only [if_true]
  by_cases h0 : c.fuse = 0
  · rw [if_pos h0, if_pos h0]; simp [h0]
  · rw [if_neg h0, if_neg h0]; simp [hfu, ho]

theorem Drive.program_eq {d : Drive} {k : Int} {t : Tag} {data : ByteArray} {page e : Int} {c : Chip} (hr : d.ready k = 0) (ht : t.right = true) (hs : (data.size : Int) = d.chip.sz) (hn : d.next.getD k.toNat 0 = page)
    (h0 : 0 ≤ page) (h1 : page < d.chip.np) (hc : d.chip.program k page data (t.beside data) = (e, c)) :
    d.program k t data = (if e = 0 then (page, 0, { d with chip := c, next := d.next.set k.toNat (inc page) }) else (0, e, ({ d with chip := c } : Drive).learn k e)) := by
  unfold Drive.program
  rw [if_neg (by omega)]
  dsimp only
  rw [hn, ht, hs, hc, if_neg (by simp), if_neg (by simp; omega)]
  dsimp only
  by_cases he : e = 0
  · subst he
    rw [if_neg (by simp), if_pos rfl]
    simp [Drive.learn]
  · rw [if_pos he, if_neg he]
theorem Drive.program_order {d : Drive} {k : Int} {t : Tag} {data : ByteArray} (hr : d.ready k = 0) (ht : t.right = true) (hs : (data.size : Int) = d.chip.sz) (hn : d.next.getD k.toNat 0 = -1 ∨ d.chip.np ≤ d.next.getD k.toNat 0) : d.program k t data = (0, 11, d) := by
  unfold Drive.program
  rw [if_neg (by omega)]
  dsimp only
  rw [ht, hs, if_neg (by simp), if_pos (by simpa using hn)]
theorem Drive.erase_eq {d : Drive} {k e : Int} {c : Chip} (hr : d.ready k = 0) (hc : d.chip.erase k = (e, c)) :
    d.erase k = (if e = 0 then (0, { d with chip := c, next := d.next.set k.toNat 0 }) else (e, ({ d with chip := c } : Drive).learn k e)) := by
  unfold Drive.erase
  rw [if_neg (by omega), hc]
  dsimp only
  by_cases he : e = 0
  · subst he
    rw [if_pos rfl, if_pos rfl]
    simp [Drive.learn]
  · rw [if_neg he, if_neg he]

/-- A page that was programmed by its tag reads as it was. -/
theorem extract_left (a b : ByteArray) : (a ++ b).extract 0 a.size = a := by
  refine bs_inj ?_
  rw [bs_extract, bs_append]; simp [← bs_length]
theorem extract_right (a b : ByteArray) : (a ++ b).extract a.size (a ++ b).size = b := by
  refine bs_inj ?_
  rw [bs_extract, bs_append, ByteArray.size_append]
  simp [← bs_length]
theorem Chip.read_data {c : Chip} {b p : Int} {data beside : ByteArray} (hr : c.ready b p = 0) (hd : (data.size : Int) = c.sz) (hb : beside.size = 32) (hp : (c.at b).pages.getD p.toNat (mkS []) = data ++ beside) : c.read b p = (data, beside, 0) := by
  unfold Chip.read
  rw [if_neg (by omega), hp]
  dsimp only
  have hsz : (data ++ beside).size ≠ 0 := by rw [ByteArray.size_append]; omega
  have e : c.sz.toNat = data.size := by omega
  rw [if_neg hsz, e, extract_left, extract_right]
theorem allFF_kind {data : ByteArray} {t : Tag} (ht : t.right = true) : allFF (data ++ t.beside data) = false := by
  unfold allFF
  simp only [decide_eq_false_iff_not]
  have := solid_tag (c := { (default : Chip) with sz := data.size }) (data := data) (t := t) rfl ht
  intro e
  refine this ?_
  rw [e]
  unfold Chip.ff Chip.whole
  rw [ByteArray.size_append, Tag.beside_size]
  congr 1
theorem Drive.read_tag {d : Drive} {b p : Int} {t : Tag} {data : ByteArray} (hr : d.chip.ready b p = 0) (hd : (data.size : Int) = d.chip.sz) (ht : t.right = true) (hs : 0 ≤ t.seq ∧ t.seq ≤ 18446744073709551615)
    (hp : (d.chip.at b).pages.getD p.toNat (mkS []) = data ++ t.beside data) : d.read b p = (⟨4, t, data⟩, 0) := by
  unfold Drive.read
  rw [Chip.read_data hr hd (Tag.beside_size t data) hp]
  dsimp only
  rw [if_neg (by simp), allFF_kind ht, if_neg (by simp)]
  unfold pageState
  rw [parse_beside t data ht hs]
  rfl

end Go.Proofs.Ytljphijjcagciaa
