/-
  What the statement on torn pages plays, on plain data.
-/
import Derived.Test.YtljphijjcagciaaPureD
namespace Go.Proofs.Ytljphijjcagciaa
open Go.RowKit

def fullS (l : List UInt8) (n : Nat) : ByteArray := (mkS l ++ repS (mkS [85]) n).extract 0 n
theorem fullS_size (l : List UInt8) (n : Nat) : (fullS l n).size = n := by
  unfold fullS
  rw [ByteArray.size_extract, ByteArray.size_append, repS_size, mkS_size, mkS_size]
  simp
def firstS : ByteArray := fullS [102, 105, 114, 115, 116] 32
def secondS : ByteArray := fullS [115, 101, 99, 111, 110, 100] 32
def tornS : ByteArray := mkS [254, 255, 253]
def tag08 (n : Nat) : Tag := ⟨1, n, 1, 0, 1⟩
theorem tag08_right {n : Nat} (h : n < 256) : (tag08 n).right = true := by
  refine Tag.right_iff.2 ⟨?_, ?_, ?_, ?_, ?_, ?_, ?_, ?_⟩ <;> dsimp only [tag08] <;> omega

def blkE (er : Int) : Blk := ⟨[mkS [], mkS [], mkS [], mkS []], 0, er, false, false, false⟩
def start08 : Drive := Drive.new (Chip.new 4 4 32 [])
def erased08 : Drive := ⟨⟨4, 4, 32, [blkE 1, blkE 1, blkE 0, blkE 0], 0, mkS [], false, 0, 2, 0⟩, [false, false, false, false], [0, 0, -1, -1]⟩
theorem start08_e0 : (start08.erase 0) = (0, (start08.erase 0).2) := by kernel_rfl
theorem start08_e1 : (start08.erase 0).2.erase 1 = (0, erased08) := by kernel_rfl
def pg1 (P : ByteArray) : Blk := ⟨[P, mkS [], mkS [], mkS []], 1, 1, false, false, false⟩
def first08 (P : ByteArray) : Drive := ⟨⟨4, 4, 32, [pg1 P, blkE 1, blkE 0, blkE 0], 0, mkS [], false, 1, 2, 0⟩, [false, false, false, false], [1, 0, -1, -1]⟩

theorem erased08_program {n : Nat} (h : n < 256) : erased08.program 0 (tag08 n) firstS = (0, 0, first08 (firstS ++ (tag08 n).beside firstS)) := by
  have hs : (firstS.size : Int) = 32 := by unfold firstS; rw [fullS_size]; rfl
  have hc := Chip.program_ok (c := erased08.chip) (k := 0) (page := 0) (data := firstS) (beside := (tag08 n).beside firstS) rfl hs (Tag.beside_size _ _) rfl rfl rfl (by decide) (by decide)
    (solid_tag hs (tag08_right h)) rfl
  rw [Drive.program_eq (page := 0) rfl (tag08_right h) hs rfl (by decide) (by decide) hc, if_pos rfl]
  show ((0 : Int), (0 : Int), _) = (0, 0, _)
  kernel_rfl

/-- Behind the fuse: i pages of the second block are programmed. -/
def pgs (S : ByteArray) (i : Nat) : List ByteArray := (List.range 4).map fun x => if x < i then S else mkS []
def way08 (P S : ByteArray) (i j : Nat) : Drive :=
  ⟨⟨4, 4, 32, [pg1 P, ⟨pgs S i, i, 1, false, false, false⟩, blkE 0, blkE 0], 1 + (j - i : Nat), tornS, false, 1 + (i : Int), 2, 0⟩, [false, false, false, false], [1, i, -1, -1]⟩
theorem way08_zero (P S : ByteArray) (j : Nat) : ({ first08 P with chip := (first08 P).chip.fuse' (1 + (j : Int)) tornS } : Drive) = way08 P S 0 j := by
  have e : max (1 + (j : Int)) 0 = 1 + ((j - 0 : Nat) : Int) := by omega
  unfold way08 first08 Chip.fuse'
  dsimp only
  rw [e]
  rfl
theorem way08_step {n : Nat} (h : n < 256) (P : ByteArray) {i j : Nat} (hij : i < j) (hj : j < 4) :
    (way08 P (secondS ++ (tag08 n).beside secondS) i j).program 1 (tag08 n) secondS = ((i : Int), 0, way08 P (secondS ++ (tag08 n).beside secondS) (i + 1) j) := by
  have hs : (secondS.size : Int) = 32 := by unfold secondS; rw [fullS_size]; rfl
  have hsol := solid_tag (c := (way08 P (secondS ++ (tag08 n).beside secondS) i j).chip) hs (tag08_right h)
  have hbs := Tag.beside_size (tag08 n) secondS
  generalize hS : secondS ++ (tag08 n).beside secondS = S at hsol ⊢
  have hc := Chip.program_ok (c := (way08 P S i j).chip) (k := 1) (page := i) (data := secondS) (beside := (tag08 n).beside secondS)
    (Chip.ready_ok rfl rfl (by omega) (by show (i : Int) < 4; omega)) hs hbs rfl rfl rfl (by omega) (by show (1 : Int) + ((j - i : Nat) : Int) ≠ 1; omega) (by rw [hS]; exact hsol) rfl
  rw [Drive.program_eq (page := i) rfl (tag08_right h) hs rfl (by omega) (by show (i : Int) < 4; omega) hc, if_pos rfl, hS]
  refine Prod.ext rfl (Prod.ext rfl ?_)
  have hi : i = 0 ∨ i = 1 ∨ i = 2 := by omega
  have hf : (if (1 : Int) + ((j - i : Nat) : Int) = 0 then (0 : Int) else 1 + ((j - i : Nat) : Int) - 1) = 1 + ((j - (i + 1) : Nat) : Int) := by
    rw [if_neg (by omega)]; omega
  unfold way08 Chip.progd
  dsimp only
  rw [hf]
  rcases hi with rfl | rfl | rfl
  · show Drive.mk _ _ _ = Drive.mk _ _ _; kernel_rfl
  · show Drive.mk _ _ _ = Drive.mk _ _ _; kernel_rfl
  · show Drive.mk _ _ _ = Drive.mk _ _ _; kernel_rfl
def cut08 (P S : ByteArray) (j : Nat) : Drive :=
  ⟨(way08 P S j j).chip.cutd 1 j, [false, false, false, false], [-1, -1, -1, -1]⟩
theorem way08_cut {n : Nat} (h : n < 256) (P S : ByteArray) {j : Nat} (hj : j < 4) : (way08 P S j j).program 1 (tag08 n) secondS = (0, 9, cut08 P S j) := by
  have hs : (secondS.size : Int) = 32 := by unfold secondS; rw [fullS_size]; rfl
  have hc := Chip.program_cut (c := (way08 P S j j).chip) (k := 1) (page := j) (data := secondS) (beside := (tag08 n).beside secondS)
    (Chip.ready_ok rfl rfl (by omega) (by show (j : Int) < 4; omega)) hs (Tag.beside_size _ _) rfl rfl (by omega) (by show (1 : Int) + ((j - j : Nat) : Int) = 1; omega)
  rw [Drive.program_eq (page := j) rfl (tag08_right h) hs rfl (by omega) (by show (j : Int) < 4; omega) hc, if_neg (by decide)]
  rfl
theorem cut08_order {n : Nat} (h : n < 256) (P S : ByteArray) (j : Nat) : (cut08 P S j).program 1 (tag08 n) secondS = (0, 11, cut08 P S j) :=
  Drive.program_order rfl (tag08_right h) (by unfold secondS; rw [fullS_size]; rfl) (.inl rfl)
def on08 (P S : ByteArray) (j : Nat) : Drive := { cut08 P S j with chip := (cut08 P S j).chip.on }

theorem on08_first {n : Nat} (h : n < 256) (S : ByteArray) {j : Nat} : (on08 (firstS ++ (tag08 n).beside firstS) S j).read 0 0 = (⟨4, tag08 n, firstS⟩, 0) :=
  Drive.read_tag (d := on08 (firstS ++ (tag08 n).beside firstS) S j) (Chip.ready_ok rfl rfl (by decide) (by show (0 : Int) < 4; decide)) (by unfold firstS; rw [fullS_size]; rfl) (tag08_right h) (by simp [tag08]) rfl

def tornL : List UInt8 := (repL [254, 255, 253] 22).take 64
theorem tear08 (P S : ByteArray) (j : Nat) : (way08 P S j j).chip.tear = mkS (tornL.take 32) ++ mkS (tornL.drop 32) := by
  show ({ erased08.chip with torn := tornS } : Chip).tear = _
  kernel_rfl
theorem on08_torn (P S : ByteArray) {j : Nat} (hj : j < 4) : ∃ s t x, (on08 P S j).read 1 j = (⟨s, t, x⟩, 0) ∧ s ≠ 4 ∧ s ≠ 1 := by
  have hp : ((on08 P S j).chip.at 1).pages.getD ((j : Int)).toNat (mkS []) = mkS (tornL.take 32) ++ mkS (tornL.drop 32) := by
    have e : ((on08 P S j).chip.at 1).pages.getD ((j : Int)).toNat (mkS []) = (way08 P S j j).chip.tear := by
      have : j = 0 ∨ j = 1 ∨ j = 2 ∨ j = 3 := by omega
      rcases this with rfl | rfl | rfl | rfl <;> rfl
    rw [e, tear08]
  have hr : (on08 P S j).chip.ready 1 j = 0 := Chip.ready_ok rfl rfl (by omega) (by show (j : Int) < 4; omega)
  have hd := Chip.read_data (c := (on08 P S j).chip) hr (data := mkS (tornL.take 32)) (beside := mkS (tornL.drop 32)) (by show _ = (32 : Int); kernel_rfl) (by kernel_rfl) hp
  have hf : allFF (mkS (tornL.take 32) ++ mkS (tornL.drop 32)) = false := by kernel_rfl
  have ht : (Tag.parse (mkS (tornL.take 32)) (mkS (tornL.drop 32))) = (Tag.none, 4) := by kernel_rfl
  have hx : factoryB (mkS (tornL.drop 32)) = true := by kernel_rfl
  unfold Drive.read
  rw [hd]
  dsimp only
  rw [if_neg (by simp), hf, if_neg (by simp)]
  unfold pageState
  rw [ht, hx]
  dsimp only
  rw [if_neg (by decide)]
  by_cases h0 : (j : Int) = 0
  · rw [h0]
    exact ⟨3, Tag.none, _, rfl, by decide, by decide⟩
  · rw [if_neg (by simp; omega)]
    exact ⟨2, Tag.none, _, rfl, by decide, by decide⟩

/-! the signs of life -/
def aS : ByteArray := fullS [97] 32
def tagW : Tag := ⟨1, 0, 9, 0, 1⟩
def wake0 : Drive := Drive.new (Chip.new 4 2 32 [])
def wake1 : Drive := ⟨⟨4, 2, 32, [freshBlk 2, ⟨[mkS [], mkS []], 0, 1, false, false, false⟩, freshBlk 2, freshBlk 2], 0, mkS [], false, 0, 1, 0⟩, [false, false, false, false], [-1, 0, -1, -1]⟩
def wake2 : Drive := ⟨⟨4, 2, 32, [freshBlk 2, ⟨[aS ++ tagW.beside aS, mkS []], 1, 1, false, false, false⟩, freshBlk 2, freshBlk 2], 0, mkS [], false, 1, 1, 0⟩, [false, false, false, false], [-1, 1, -1, -1]⟩
theorem wake0_order : wake0.program 1 tagW aS = (0, 11, wake0) := Drive.program_order rfl rfl (by unfold aS; rw [fullS_size]; rfl) (.inl rfl)
theorem wake0_erase : wake0.erase 1 = (0, wake1) := by kernel_rfl
theorem wake1_program : wake1.program 1 tagW aS = (0, 0, wake2) := by
  have hs : (aS.size : Int) = 32 := by unfold aS; rw [fullS_size]; rfl
  have hc := Chip.program_ok (c := wake1.chip) (k := 1) (page := 0) (data := aS) (beside := tagW.beside aS) rfl hs (Tag.beside_size _ _) rfl rfl rfl (by decide) (by decide) (solid_tag hs rfl) rfl
  rw [Drive.program_eq (page := 0) rfl rfl hs rfl (by decide) (by decide) hc, if_pos rfl]
  show ((0 : Int), (0 : Int), _) = (0, 0, _)
  kernel_rfl
theorem wake2_read : wake2.read 1 0 = (⟨4, tagW, aS⟩, 0) :=
  Drive.read_tag (d := wake2) (Chip.ready_ok rfl rfl (by decide) (by decide)) (by unfold aS; rw [fullS_size]; rfl) rfl (by decide) rfl
theorem wake2_next : wake2.nextOf 1 = 1 := rfl

end Go.Proofs.Ytljphijjcagciaa
