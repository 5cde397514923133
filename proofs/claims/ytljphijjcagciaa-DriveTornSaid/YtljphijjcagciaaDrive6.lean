/-
  A drive's struct, built with its table whole.
-/
import Derived.Test.YtljphijjcagciaaDrive5
namespace Go.Proofs.Ytljphijjcagciaa
open Go.RowKit

theorem set_run (off : Nat) : ∀ (l : List Value) (i : Nat) (cells : Array Value), (l.zipIdx i).foldl (fun (cs : Array Value) (x : Value × Nat) => cs.setIfInBounds (off + x.2) x.1) cells =
    ((List.range cells.size).map fun k => if off + i ≤ k ∧ k < off + i + l.length then l.getD (k - (off + i)) (.bool false) else cells.toList.getD k (.bool false)).toArray
  | [], i, cells => by
    simp only [List.zipIdx_nil, List.foldl_nil, List.length_nil, Nat.add_zero]
    refine Array.ext' ?_
    refine List.ext_getElem? fun k => ?_
    simp only [List.getElem?_map]
    by_cases h : k < cells.size
    · rw [List.getElem?_range h, Option.map_some, if_neg (by omega), getD_at (x := .bool false) (by simpa using h)]
    · rw [List.getElem?_eq_none (by simpa using h), List.getElem?_eq_none (by simpa using h)]; rfl
  | v :: l, i, cells => by
    rw [List.zipIdx_cons, List.foldl_cons, set_run off l (i + 1)]
    congr 1
    simp only [Array.size_setIfInBounds]
    refine List.map_congr_left fun k hk => ?_
    have hk' : k < cells.size := by simpa using hk
    simp only [List.length_cons]
    by_cases h1 : k = off + i
    · subst h1
      rw [if_neg (by omega), if_pos (by omega)]
      simp [List.getD_eq_getElem?_getD, hk']
    · by_cases h2 : off + (i + 1) ≤ k ∧ k < off + (i + 1) + l.length
      · rw [if_pos h2, if_pos (by omega)]
        have : k - (off + i) = (k - (off + (i + 1))) + 1 := by omega
        rw [this, List.getD_cons_succ]
      · rw [if_neg h2, if_neg (by omega)]
        simp [List.getD_eq_getElem?_getD, Ne.symm h1]

theorem set_run0 (off : Nat) (T : List Value) (cells : Array Value) : T.toArray.zipIdx.foldl (fun (cs : Array Value) (c, j) => cs.setIfInBounds (off + j) c) cells =
    ((List.range cells.size).map fun k => if off ≤ k ∧ k < off + T.length then T.getD (k - off) (.bool false) else cells.toList.getD k (.bool false)).toArray := by
  rw [← Array.foldl_toList, Array.toList_zipIdx]
  exact set_run off T 0 cells
theorem map_range_getD (f : Nat → Value) (n k : Nat) : ((List.range n).map f).getD k (.bool false) = if k < n then f k else .bool false := by
  rw [List.getD_eq_getElem?_getD, List.getElem?_map]
  by_cases h : k < n
  · rw [List.getElem?_range h, if_pos h]; rfl
  · rw [List.getElem?_eq_none (by simpa using h), if_neg h]; rfl
theorem map_range_size (f : Nat → Value) (n : Nat) : ((List.range n).map f).toArray.size = n := by simp

def drivePlaces : Array (Nat × Nat) := #[(0, 1), (1, 256), (257, 1), (258, 1)]
theorem fill_drive (z : Array Value) (hz : z.size = 259) (x : Option Addr) (b c : Option Addr) (n : Nat) (T : List Value) (hT : T.length = 256) :
    Instr.fill (drivePlaces[·]?) z [(0, .pointer x), (1, .agg T.toArray), (2, .slice b n n), (3, .slice c n n)] = some (.pointer x :: (T ++ [.slice b n n, .slice c n n])).toArray := by
  have p0 : drivePlaces[0]? = some (0, 1) := rfl
  have p1 : drivePlaces[1]? = some (1, 256) := rfl
  have p2 : drivePlaces[2]? = some (257, 1) := rfl
  have p3 : drivePlaces[3]? = some (258, 1) := rfl
  simp only [Instr.fill, p0, p1, p2, p3, Value.cells, set_run0, map_range_size, map_range_getD, hz]
  rw [if_neg (by simp), if_neg (by simp [hT]), if_neg (by simp), if_neg (by simp)]
  refine congrArg some (congrArg List.toArray ?_)
  refine List.ext_getElem? fun k => ?_
  rw [List.getElem?_map]
  by_cases hk : k < 259
  · rw [List.getElem?_range hk, Option.map_some, if_pos hk, if_pos hk, if_pos hk]
    rcases (by omega : k = 0 ∨ (1 ≤ k ∧ k < 257) ∨ k = 257 ∨ k = 258) with h | h | h | h
    · subst h; rfl
    · obtain ⟨j, rfl⟩ : ∃ j, k = j + 1 := ⟨k - 1, by omega⟩
      simp only [List.length_cons, List.length_nil]
      rw [if_neg (by omega), if_neg (by omega), if_pos (by omega), List.getElem?_cons_succ, List.getElem?_append_left (by omega), Nat.add_sub_cancel, getD_at (x := .bool false) (by omega)]
    · subst h
      simp only [List.length_cons, List.length_nil]
      rw [if_neg (by omega), if_pos (by omega), List.getElem?_cons_succ, List.getElem?_append_right (by omega), hT]; rfl
    · subst h
      simp only [List.length_cons, List.length_nil]
      rw [if_pos (by omega), List.getElem?_cons_succ, List.getElem?_append_right (by omega), hT]; rfl
  · rw [List.getElem?_eq_none (by simpa using hk), List.getElem?_eq_none (by simp [hT]; omega)]; rfl

theorem built_drive (x : Option Addr) (b c : Option Addr) (n : Nat) (T : List Value) (hT : T.length = 256) (w : World) :
    (Instr.build 83 #[(0, .pointer x), (1, .agg T.toArray), (2, .slice b n n), (3, .slice c n n)]).run Try.prog w = .ok (.agg (.pointer x :: (T ++ [.slice b n n, .slice c n n])).toArray) w := by
  refine run_build w _ _ _ ?_
  have hi : (Try.prog.info? 83).map (fun i => i.zero.map fun z => z.cells.size) = some (some 259) := by kernel_rfl
  have hp : (match Try.prog.underlying 83 with | some (.struct fields) => fields.toList.mapM (fun f => (Try.prog.info? f.type).map fun i => (f.offset, i.size)) | _ => none) = some drivePlaces.toList := by kernel_rfl
  unfold Program.built
  cases h1 : Try.prog.info? 83 with
  | none => rw [h1] at hi; simp at hi
  | some it =>
    rw [h1] at hi
    cases h2 : Try.prog.underlying 83 with
    | none => rw [h2] at hp; simp at hp
    | some ds =>
      rw [h2] at hp
      cases ds <;> try (simp at hp; done)
      case struct fields =>
        rw [Option.map_some] at hi
        cases hz : it.zero with
        | none => rw [hz] at hi; simp at hi
        | some z =>
          rw [hz] at hi
          simp only [Option.map_some, Option.some.injEq] at hi
          dsimp only at hp ⊢
          rw [hp, hz]
          exact fill_drive z.cells hi x b c n T hT

theorem box_drive (cs : List Value) (w : World) : (Instr.box 83 (.agg cs.toArray)).run Try.prog w = .ok (.pointer (some ⟨w.heap.size, 0, none⟩)) (w.alloc (.cells cs.toArray 83)) := by
  simp [go_sem]

/-- What the walk makes of the build of a drive: its table laid over the zero cells. -/
def driveX (z : Array Value) (x : Option Addr) (T : List Value) : List Value := (List.range 259).map fun k => if 1 + 0 ≤ k ∧ k < 1 + 0 + T.length then T.getD (k - (1 + 0)) (.bool false) else (z.setIfInBounds 0 (.pointer x)).toList.getD k (.bool false)
theorem driveX_length (z : Array Value) (x : Option Addr) (T : List Value) : (driveX z x T).length = 259 := by simp [driveX]
theorem zeroDrive_size : Try.zeroCells83.size = 259 := by kernel_rfl
theorem driveX_fold (x : Option Addr) (T : List Value) : List.foldl (fun cs x => cs.setIfInBounds (1 + x.snd) x.fst) (Try.zeroCells83.setIfInBounds 0 (.pointer x)) T.zipIdx = (driveX Try.zeroCells83 x T).toArray := by
  have h := set_run 1 T 0 (Try.zeroCells83.setIfInBounds 0 (.pointer x))
  rw [Array.size_setIfInBounds, zeroDrive_size] at h
  exact h
theorem driveX_set (x : Option Addr) (T : List Value) (hT : T.length = 256) (s1 s2 : Value) : ((driveX Try.zeroCells83 x T).set 257 s1).set 258 s2 = .pointer x :: (T ++ [s1, s2]) := by
  refine List.ext_getElem? fun k => ?_
  rw [List.getElem?_set, List.getElem?_set, List.length_set, driveX_length]
  by_cases hk : k < 259
  · rcases (by omega : k = 0 ∨ (1 ≤ k ∧ k < 257) ∨ k = 257 ∨ k = 258) with h | h | h | h
    · subst h
      rw [if_neg (by omega), if_neg (by omega)]
      unfold driveX
      rw [List.getElem?_map, List.getElem?_range hk, Option.map_some, if_neg (by omega), List.getElem?_cons_zero]
      rw [Array.toList_setIfInBounds, List.getD_eq_getElem?_getD, List.getElem?_set_self (by simp)]
      rfl
    · obtain ⟨j, rfl⟩ : ∃ j, k = j + 1 := ⟨k - 1, by omega⟩
      rw [if_neg (by omega), if_neg (by omega)]
      unfold driveX
      rw [List.getElem?_map, List.getElem?_range hk, Option.map_some, if_pos (by omega), List.getElem?_cons_succ, List.getElem?_append_left (by omega), getD_at (x := .bool false) (by omega)]
      congr 2
    · subst h
      rw [if_neg (by omega), if_pos rfl, if_pos (by omega), List.getElem?_cons_succ, List.getElem?_append_right (by omega), hT]; rfl
    · subst h
      rw [if_pos rfl, if_pos (by omega), List.getElem?_cons_succ, List.getElem?_append_right (by omega), hT]; rfl
  · rw [if_neg (by omega), if_neg (by omega), List.getElem?_eq_none (by rw [driveX_length]; omega), List.getElem?_eq_none (by simp [hT]; omega)]

end Go.Proofs.Ytljphijjcagciaa
