/-
  The tag beside a page, framed and parsed: plain laws.
-/
import Derived.Test.YtljphijjcagciaaTag3
import Derived.Test.YtljphijjcagciaaDriveM
namespace Go.Proofs.Ytljphijjcagciaa
open Go.RowKit

theorem putB_succ (n w : Nat) : putB n (w + 1) = putB (n / 256) w ++ [UInt8.ofNat n] := by
  unfold putB
  rw [List.range_succ, List.map_append]
  have e : (List.range w).map (fun i => UInt8.ofNat (n / 256 ^ (w + 1 - 1 - i))) = (List.range w).map (fun i => UInt8.ofNat (n / 256 / 256 ^ (w - 1 - i))) := by
    refine List.map_congr_left fun i hi => ?_
    have hi' : i < w := List.mem_range.1 hi
    rw [show w + 1 - 1 - i = (w - 1 - i) + 1 by omega, Nat.pow_succ, Nat.mul_comm, Nat.div_div_eq_div_mul]
  rw [e]; simp
theorem getB_putB : ∀ (w n : Nat), w ≤ 8 → n < 256 ^ w → getB (putB n w) = n
  | 0, n, _, h => by simp at h; subst h; rfl
  | w + 1, n, hw, h => by
    have h1 : n / 256 < 256 ^ w := Nat.div_lt_of_lt_mul (by rw [Nat.mul_comm, ← Nat.pow_succ]; exact h)
    have hp : 256 ^ (w + 1) ≤ 256 ^ 8 := Nat.pow_le_pow_right (by omega) hw
    have e8 : (256 : Nat) ^ 8 = 18446744073709551616 := by decide
    rw [putB_succ, getB_snoc, getB_putB w (n / 256) (by omega) h1]
    have : (UInt8.ofNat n).toNat = n % 256 := by simp
    rw [this]
    omega
theorem take_drop_mid {a b c : List UInt8} {k n : Nat} (ha : a.length = k) (hb : b.length = n) : ((a ++ (b ++ c)).drop k).take n = b := by
  subst ha hb; simp
theorem Tag.read_bytes (t : Tag) (h : t.right = true) (hs : 0 ≤ t.seq ∧ t.seq ≤ 18446744073709551615) (l : List UInt8) : Tag.read (t.bytes ++ l) = t := by
  obtain ⟨k, g, s, p, n⟩ := t
  obtain ⟨h1, h2, h3, h4, h5, h6, h7, h8⟩ := Tag.right_iff.1 h
  dsimp only at h1 h2 h3 h4 h5 h6 h7 h8 hs
  have e : (⟨k, g, s, p, n⟩ : Tag).bytes ++ l = [255] ++ (putB k.toNat 1 ++ (putB g.toNat 2 ++ (putB s.toNat 8 ++ (putB p.toNat 1 ++ (putB n.toNat 1 ++ (List.replicate 14 0 ++ l)))))) := by
    simp [Tag.bytes]
  rw [e]
  unfold Tag.read
  have a1 := take_drop_mid (a := [255]) (b := putB k.toNat 1) (c := putB g.toNat 2 ++ (putB s.toNat 8 ++ (putB p.toNat 1 ++ (putB n.toNat 1 ++ (List.replicate 14 0 ++ l))))) (k := 1) (n := 1) rfl (putB_length _ _)
  have a2 := take_drop_mid (a := [255] ++ putB k.toNat 1) (b := putB g.toNat 2) (c := putB s.toNat 8 ++ (putB p.toNat 1 ++ (putB n.toNat 1 ++ (List.replicate 14 0 ++ l)))) (k := 2) (n := 2) (by simp [putB_length]) (putB_length _ _)
  have a3 := take_drop_mid (a := [255] ++ putB k.toNat 1 ++ putB g.toNat 2) (b := putB s.toNat 8) (c := putB p.toNat 1 ++ (putB n.toNat 1 ++ (List.replicate 14 0 ++ l))) (k := 4) (n := 8) (by simp [putB_length]) (putB_length _ _)
  have a4 := take_drop_mid (a := [255] ++ putB k.toNat 1 ++ putB g.toNat 2 ++ putB s.toNat 8) (b := putB p.toNat 1) (c := putB n.toNat 1 ++ (List.replicate 14 0 ++ l)) (k := 12) (n := 1) (by simp [putB_length]) (putB_length _ _)
  have a5 := take_drop_mid (a := [255] ++ putB k.toNat 1 ++ putB g.toNat 2 ++ putB s.toNat 8 ++ putB p.toNat 1) (b := putB n.toNat 1) (c := List.replicate 14 0 ++ l) (k := 13) (n := 1) (by simp [putB_length]) (putB_length _ _)
  simp only [List.append_assoc] at a1 a2 a3 a4 a5
  rw [a1, a2, a3, a4, a5, getB_putB 1 _ (by omega) (by omega), getB_putB 2 _ (by omega) (by omega), getB_putB 8 _ (by omega) (by omega), getB_putB 1 _ (by omega) (by omega), getB_putB 1 _ (by omega) (by omega)]
  simp only [Tag.mk.injEq]
  omega
theorem bs_beside (t : Tag) (data : ByteArray) : bs (t.beside data) = t.bytes ++ sumB data (mkS t.bytes) := rfl
theorem parse_beside (t : Tag) (data : ByteArray) (h : t.right = true) (hs : 0 ≤ t.seq ∧ t.seq ≤ 18446744073709551615) : Tag.parse data (t.beside data) = (t, 0) := by
  unfold Tag.parse
  rw [bs_beside, Tag.read_bytes t h hs]
  have e1 : (t.bytes ++ sumB data (mkS t.bytes)).take 28 = t.bytes := by rw [← Tag.bytes_length t]; simp
  have e2 : (t.bytes ++ sumB data (mkS t.bytes)).drop 28 = sumB data (mkS t.bytes) := by rw [← Tag.bytes_length t]; simp
  rw [e1, e2]
  simp [h]

end Go.Proofs.Ytljphijjcagciaa
