/-
  The walk over nand.New.
-/
import Derived.Test.YtljphijjcagciaaNand8
import Derived.Test.YtljphijjcagciaaMade
namespace Go.Proofs.Ytljphijjcagciaa
open Go.RowKit

theorem New_no (b p s : Int) (bad : Value) (w : World) (h : shapeRight b p s = false) :
    Calls Try.prog 6 #[.agg #[.int .i64 b, .int .i64 p, .int .i64 s], bad] w fun e w' => e = .returned (.tuple #[.pointer none, .int .i64 2]) ∧ Upd noBlk w w' := by
  have HR := hid (fun w => Right_any b p s w)
  rw [h] at HR
  go_enter Try.func6, Try.ntmps6
  go_wp2_with fail
  refine (HR.out _).mono ?_; rintro e w1 ⟨rfl, hu⟩
  go_wp2_with fail
  go_ret2
  exact ⟨rfl, ((Upd.refl _ _).alloc _).trans' hu⟩

theorem shapeRight_iff {b p s : Int} : shapeRight b p s = true ↔ 4 ≤ b ∧ b ≤ 256 ∧ 2 ≤ p ∧ p ≤ 64 ∧ 32 ≤ s ∧ s ≤ 1024 := by
  simp [shapeRight, and_assoc]

/-- A chip's blocks on the way: the first k have their pages. -/
def wayCells (np : Nat) (q : Nat) (x : Bool) : List Value := if x then blkCells np q (freshBlk np) else [.slice none 0 0, .int .i64 0, .int .i64 0, .bool false, .bool false, .bool false]
theorem wayCells_length (np q : Nat) (x : Bool) : (wayCells np q x).length = 6 := by cases x <;> rfl
def way (np p n k : Nat) : List Value := flat (wayCells np) p (List.replicate k true ++ List.replicate (n - k) false)
theorem way_zero (np p n : Nat) : way np p n 0 = blk0s n := by
  unfold way blk0s
  simp only [List.replicate_zero, List.nil_append, Nat.sub_zero]
  rw [flat_const (wayCells np) _ false (fun _ => rfl) n p, flat_const _ _ () (fun _ => rfl) n 0]
  have : ∀ (n p q : Nat) (z : List Value), flat (fun _ (_ : Unit) => z) p (List.replicate n ()) = flat (fun _ (_ : Unit) => z) q (List.replicate n ()) := by
    intro n
    induction n with
    | zero => intros; rfl
    | succ n ih => intro p q z; simp only [List.replicate_succ, flat]; rw [ih (p + 1) (q + 1)]
  exact this _ _ _ _
theorem way_set {np p n k : Nat} (h : k < n) : (way np p n k).set (k * 6) (.slice (some ⟨p + k, 0, none⟩) np np) = way np p n (k + 1) := by
  have e := flat_set (n := 6) (wayCells_length np) p (List.replicate k true ++ List.replicate (n - k) false) k 0 false true (.slice (some ⟨p + k, 0, none⟩) np np)
    (by simp [List.getElem?_append, List.getElem?_replicate]; omega) (by omega) (by simp [wayCells, blkCells, freshBlk])
  rw [Nat.add_zero] at e
  unfold way
  rw [e]
  congr 1
  refine List.ext_getElem? fun i => ?_
  simp only [List.getElem?_set, List.getElem?_append, List.length_replicate, List.getElem?_replicate, List.length_append]
  rcases Nat.lt_trichotomy i k with h1 | h1 | h1
  · have a1 : ¬ k = i := by omega
    have a3 : i < k + 1 := by omega
    simp only [a1, h1, a3, if_false, if_true]
  · subst h1
    have a2 : ¬ i < i := by omega
    have a3 : i < i + 1 := by omega
    have a4 : i < i + (n - i) := by omega
    simp only [a3, a4, if_true]
  · have a1 : ¬ k = i := by omega
    have a2 : ¬ i < k := by omega
    have a3 : ¬ i < k + 1 := by omega
    simp only [a1, a2, a3, if_false]
    by_cases h2 : i < n
    · rw [if_pos (by omega), if_pos (by omega)]
    · rw [if_neg (by omega), if_neg (by omega)]
theorem way_all (np p n : Nat) : way np p n n = flat (blkCells np) p (List.replicate n (freshBlk np)) := by
  unfold way
  simp only [Nat.sub_self, List.replicate_zero, List.append_nil]
  have : ∀ (n p : Nat), flat (wayCells np) p (List.replicate n true) = flat (blkCells np) p (List.replicate n (freshBlk np)) := by
    intro n
    induction n with
    | zero => intro p; rfl
    | succ n ih => intro p; rw [List.replicate_succ, List.replicate_succ, flat, flat, ih]; rfl
  exact this n p
theorem way_get {np p n k : Nat} (h : k < n) : (way np p n k)[k * 6]? = some (.slice none 0 0) := by
  have e := flat_get (n := 6) (wayCells_length np) p (List.replicate k true ++ List.replicate (n - k) false) k 0 false (by simp [List.getElem?_append, List.getElem?_replicate]; omega) (by omega)
  rw [Nat.add_zero] at e
  unfold way; rw [e]; rfl

theorem New_good (b p s : Int) (w : World) (h : shapeRight b p s = true) :
    Calls Try.prog 6 #[.agg #[.int .i64 b, .int .i64 p, .int .i64 s], .slice none 0 0] w fun e w' => ∃ L : CL, (∀ k, L.foot k → w.heap.size ≤ k) ∧ e = .returned (.tuple #[.pointer (some ⟨L.a, 0, none⟩), .int .i64 0]) ∧ ChipAt w' L (Chip.new b p s []) ∧ Upd noBlk w w' := by
  have HR := hid (fun w => Right_any b p s w)
  rw [h] at HR
  obtain ⟨s1, s2, s3, s4, s5, s6⟩ := shapeRight_iff.1 h
  obtain ⟨n, rfl⟩ : ∃ n : Nat, b = n := ⟨b.toNat, by omega⟩
  obtain ⟨m, rfl⟩ : ∃ m : Nat, p = m := ⟨p.toNat, by omega⟩
  go_enter Try.func6, Try.ntmps6
  go_wp2_with fail
  refine (HR.out _).mono ?_; rintro e w1 ⟨rfl, hu⟩
  have hb0 : w1.cell? ⟨w.heap.size, 0, none⟩ = some (.int .i64 n) := hu.cell0 (by simp)
  have hb1 : w1.cell? ⟨w.heap.size, 1, none⟩ = some (.int .i64 m) := hu.cell0 (by simp)
  have hb2 : w1.cell? ⟨w.heap.size, 2, none⟩ = some (.int .i64 s) := hu.cell0 (by simp)
  have hmk := make_blk n (by omega) s2
  have hlt : w.heap.size < w1.heap.size := by have := hu.size; simp at this; omega
  have hu' : Upd noBlk w w1 := ((Upd.refl _ _).alloc _).trans' hu
  have HU := hid hu'; clear hu hu'
  go_wp2_with fail
  go_region
  clear hmk
  go_wp2_with fail
  go_loopw [25] (fun i wr => ∃ k : Nat, k ≤ n ∧ i = .int .i64 k ∧ wr.heap.size = w1.heap.size + 2 + k ∧ Row wr (w1.heap.size + 1) 70 (chipCells ⟨w1.heap.size + 1, w1.heap.size, w1.heap.size + 2, n⟩ (Chip.fresh n m s)) ∧
    Row wr w1.heap.size 73 (way m (w1.heap.size + 2) n k) ∧ (∀ i, i < k → Row wr (w1.heap.size + 2 + i) 9 (List.replicate m (.string ⟨#[]⟩))) ∧ Upd noBlk w wr ∧
    wr.cell? ⟨w.heap.size, 1, none⟩ = some (.int .i64 m)) (fun i _ => n - (intOf i).toNat)
  case atStart =>
    refine ⟨0, Nat.zero_le _, rfl, by simp, ?_, ?_, fun i hi => absurd hi (Nat.not_lt_zero _), ?_, ?_⟩
    · have := Row.new (w1.alloc (.cells (blk0s n).toArray 73)) (chipCells ⟨w1.heap.size + 1, w1.heap.size, w1.heap.size + 2, n⟩ (Chip.fresh n m s)) 70
      rw [World.size_alloc] at this
      exact this.drew
    · rw [way_zero]; exact ((Row.new w1 _ _).alloc _).drew
    · exact ((HU.out.alloc _).alloc _).drew
    · have := (Upd.refl noBlk w1).alloc (.cells (blk0s n).toArray 73)
      exact ((this.alloc _).drew).cell0 hb1
  case round =>
    obtain ⟨k, hk, rfl, hs, r1, r2, r3, hu, hc1⟩ := hrel
    by_cases hlt2 : k < n
    · have d3 := r1.cell 3
      have dk := r2.get (way_get (np := m) (p := w1.heap.size + 2) hlt2)
      have fk := r2.frozen (k * 6)
      have hmk := make_str m (by omega) (by omega)
      have HS := hid hs; have R1 := hid r1; have R2 := hid r2; have R3 := hid r3; have HUU := hid hu
      simp only [chipCells, List.getElem?_cons_succ, List.getElem?_cons_zero] at d3
      have l1 := r1.lt; have l2 := r2.lt
      clear hs r1 r2 r3 hu
      go_wp2_with fail
      go_region
      clear hmk
      go_wp2_with fail
      have hs := HS.out
      refine ⟨⟨k + 1, by omega, by go_num, by simp [hs]; omega, ?_, ?_, ?_, ?_, ?_⟩, by simp [intOf]; omega⟩
      · exact ((R1.out.far (p := ⟨w1.heap.size, k * 6, none⟩) (by show w1.heap.size + 1 ≠ w1.heap.size; omega) _).alloc _).drew
      · rw [hs]; exact ((R2.out.put _ _ (way_set hlt2)).alloc _).drew
      · intro i hi
        by_cases e : i = k
        · subst e
          have := Row.new (wr.setCell ⟨w1.heap.size, i * 6, none⟩ (.slice (some ⟨wr.heap.size, 0, none⟩) m m)) (List.replicate m (.string ⟨#[]⟩)) 9
          simp only [World.size_setCell, List.toArray_replicate] at this
          rw [← hs]
          exact this.drew
        · exact (((R3.out i (by omega)).far (p := ⟨w1.heap.size, k * 6, none⟩) (by show w1.heap.size + 2 + i ≠ w1.heap.size; omega) _).alloc _).drew
      · exact ((HUU.out.setCell (p := ⟨w1.heap.size, k * 6, none⟩) (.inr (by show w.heap.size ≤ w1.heap.size; omega)) _).alloc _).drew
      · have e1 := World.cell?_setCell_other wr ⟨w1.heap.size, k * 6, none⟩ ⟨w.heap.size, 1, none⟩ (.slice (some ⟨wr.heap.size, 0, none⟩) m m) (by simp)
        rw [World.cell?_drew, World.cell?_alloc_lt _ _ _ (by show w.heap.size < (World.setCell _ _ _).heap.size; simp; omega), e1]
        exact hc1
    · have e : k = n := by omega
      subst e
      have HS := hid hs; have R1 := hid r1; have R2 := hid r2; have R3 := hid r3; have HUU := hid hu
      clear hs r1 r2 r3 hu
      go_wp2_with fail
      go_loop [41] (fun i => i = .int .i64 0) (fun _ => 0)
      case atStart => rfl
      case round =>
        subst hrel
        go_wp2_with fail
        go_ret2
        have r2 := R2.out
        rw [way_all] at r2
        refine ⟨⟨w1.heap.size + 1, w1.heap.size, w1.heap.size + 2, k⟩, ?_, rfl, ⟨?_, ?_, R1.out, ?_, ?_, ?_, ?_, ?_⟩, HUU.out⟩
        · rintro i (hi | hi | hi) <;> simp only at hi <;> omega
        · refine ⟨by simp [Chip.new, Chip.fresh], by simp [Chip.new, Chip.fresh]; omega, by simp [Chip.new, Chip.fresh]; omega, s3, s4, s5, s6, by simp [Chip.new, Chip.fresh], by simp [Chip.new, Chip.fresh, mkS_size], ?_⟩
          intro b hb
          have e := List.eq_of_mem_replicate (show b ∈ List.replicate k (freshBlk m) by simpa [Chip.new, Chip.fresh] using hb)
          subst e
          refine ⟨by simp [freshBlk, Chip.new, Chip.fresh], fun s hs => ?_⟩
          have e := List.eq_of_mem_replicate (show s ∈ List.replicate m (mkS []) by simpa [freshBlk] using hs)
          subst e; exact .inl rfl
        · simp [Chip.new, Chip.fresh]
        · simpa [Chip.new, Chip.fresh] using r2
        · intro i b hb
          have hb' : i < k ∧ freshBlk m = b := by simpa [Chip.new, Chip.fresh, List.getElem?_replicate] using hb
          obtain ⟨hi, rfl⟩ := hb'
          have := R3.out i hi
          simpa [freshBlk, mkS] using this
        · show w1.heap.size + 1 ≠ w1.heap.size; omega
        · left; show w1.heap.size + 1 < w1.heap.size + 2; omega
        · left; show w1.heap.size < w1.heap.size + 2; omega

end Go.Proofs.Ytljphijjcagciaa
