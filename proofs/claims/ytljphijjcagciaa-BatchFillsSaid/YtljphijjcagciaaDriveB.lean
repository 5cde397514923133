/-
  A drive's struct, built with its table whole.
  The six orders in which drive.New may make its memory: what stands where.
  The walk over drive.New.
-/
import Derived.Test.YtljphijjcagciaaDriveA
import Derived.Test.YtljphijjcagciaaPolyA
import Derived.Deep.DeepCutAuto
namespace Go.Proofs.Ytljphijjcagciaa
open Go.RowKit

theorem set_run (off : Nat) : ∀ (l : List Value) (i : Nat) (cells : Array Value), (l.zipIdx i).foldl (fun (cs : Array Value) (x : Value × Nat) => cs.setIfInBounds (off + x.2) x.1) cells =
    ((List.range cells.size).map fun k => if off + i ≤ k ∧ k < off + i + l.length then l.getD (k - (off + i)) (.bool false) else cells.toList.getD k (.bool false)).toArray
  | [], i, cells => by
    simp only [List.zipIdx_nil, List.foldl_nil, List.length_nil, Nat.add_zero]
    refine Array.ext' ?_
    refine List.ext_getElem? fun k => ?_
    simp only [List.getElem?_map]
    by_cases h : k < cells.size
    · rw [List.getElem?_range h, Option.map_some, if_neg (by omega), getD_at (x := .bool false) (by simpa using h)]
    · rw [List.getElem?_eq_none (by simpa using h), List.getElem?_eq_none (by simpa using h)]; rfl
  | v :: l, i, cells => by
    rw [List.zipIdx_cons, List.foldl_cons, set_run off l (i + 1)]
    congr 1
    simp only [Array.size_setIfInBounds]
    refine List.map_congr_left fun k hk => ?_
    have hk' : k < cells.size := by simpa using hk
    simp only [List.length_cons]
    by_cases h1 : k = off + i
    · subst h1
      rw [if_neg (by omega), if_pos (by omega)]
      simp [List.getD_eq_getElem?_getD, hk']
    · by_cases h2 : off + (i + 1) ≤ k ∧ k < off + (i + 1) + l.length
      · rw [if_pos h2, if_pos (by omega)]
        have : k - (off + i) = (k - (off + (i + 1))) + 1 := by omega
        rw [this, List.getD_cons_succ]
      · rw [if_neg h2, if_neg (by omega)]
        simp [List.getD_eq_getElem?_getD, Ne.symm h1]

theorem set_run0 (off : Nat) (T : List Value) (cells : Array Value) : T.toArray.zipIdx.foldl (fun (cs : Array Value) (c, j) => cs.setIfInBounds (off + j) c) cells =
    ((List.range cells.size).map fun k => if off ≤ k ∧ k < off + T.length then T.getD (k - off) (.bool false) else cells.toList.getD k (.bool false)).toArray := by
  rw [← Array.foldl_toList, Array.toList_zipIdx]
  exact set_run off T 0 cells
theorem map_range_getD (f : Nat → Value) (n k : Nat) : ((List.range n).map f).getD k (.bool false) = if k < n then f k else .bool false := by
  rw [List.getD_eq_getElem?_getD, List.getElem?_map]
  by_cases h : k < n
  · rw [List.getElem?_range h, if_pos h]; rfl
  · rw [List.getElem?_eq_none (by simpa using h), if_neg h]; rfl
theorem map_range_size (f : Nat → Value) (n : Nat) : ((List.range n).map f).toArray.size = n := by simp

def drivePlaces : Array (Nat × Nat) := #[(0, 1), (1, 256), (257, 1), (258, 1)]
theorem fill_drive (z : Array Value) (hz : z.size = 259) (x : Option Addr) (b c : Option Addr) (n : Nat) (T : List Value) (hT : T.length = 256) :
    Instr.fill (drivePlaces[·]?) z [(0, .pointer x), (1, .agg T.toArray), (2, .slice b n n), (3, .slice c n n)] = some (.pointer x :: (T ++ [.slice b n n, .slice c n n])).toArray := by
  have p0 : drivePlaces[0]? = some (0, 1) := rfl
  have p1 : drivePlaces[1]? = some (1, 256) := rfl
  have p2 : drivePlaces[2]? = some (257, 1) := rfl
  have p3 : drivePlaces[3]? = some (258, 1) := rfl
  simp only [Instr.fill, p0, p1, p2, p3, Value.cells, set_run0, map_range_size, map_range_getD, hz]
  rw [if_neg (by simp), if_neg (by simp [hT]), if_neg (by simp), if_neg (by simp)]
  refine congrArg some (congrArg List.toArray ?_)
  refine List.ext_getElem? fun k => ?_
  rw [List.getElem?_map]
  by_cases hk : k < 259
  · rw [List.getElem?_range hk, Option.map_some, if_pos hk, if_pos hk, if_pos hk]
    rcases (by omega : k = 0 ∨ (1 ≤ k ∧ k < 257) ∨ k = 257 ∨ k = 258) with h | h | h | h
    · subst h; rfl
    · obtain ⟨j, rfl⟩ : ∃ j, k = j + 1 := ⟨k - 1, by omega⟩
      simp only [List.length_cons, List.length_nil]
      rw [if_neg (by omega), if_neg (by omega), if_pos (by omega), List.getElem?_cons_succ, List.getElem?_append_left (by omega), Nat.add_sub_cancel, getD_at (x := .bool false) (by omega)]
    · subst h
      simp only [List.length_cons, List.length_nil]
      rw [if_neg (by omega), if_pos (by omega), List.getElem?_cons_succ, List.getElem?_append_right (by omega), hT]; rfl
    · subst h
      simp only [List.length_cons, List.length_nil]
      rw [if_pos (by omega), List.getElem?_cons_succ, List.getElem?_append_right (by omega), hT]; rfl
  · rw [List.getElem?_eq_none (by simpa using hk), List.getElem?_eq_none (by simp [hT]; omega)]; rfl

theorem built_drive (x : Option Addr) (b c : Option Addr) (n : Nat) (T : List Value) (hT : T.length = 256) (w : World) :
    (Instr.build 83 #[(0, .pointer x), (1, .agg T.toArray), (2, .slice b n n), (3, .slice c n n)]).run Try.prog w = .ok (.agg (.pointer x :: (T ++ [.slice b n n, .slice c n n])).toArray) w := by
  refine run_build w _ _ _ ?_
  have hi : (Try.prog.info? 83).map (fun i => i.zero.map fun z => z.cells.size) = some (some 259) := by kernel_rfl
  have hp : (match Try.prog.underlying 83 with | some (.struct fields) => fields.toList.mapM (fun f => (Try.prog.info? f.type).map fun i => (f.offset, i.size)) | _ => none) = some drivePlaces.toList := by kernel_rfl
  unfold Program.built
  cases h1 : Try.prog.info? 83 with
  | none => rw [h1] at hi; simp at hi
  | some it =>
    rw [h1] at hi
    cases h2 : Try.prog.underlying 83 with
    | none => rw [h2] at hp; simp at hp
    | some ds =>
      rw [h2] at hp
      cases ds <;> try (simp at hp; done)
      case struct fields =>
        rw [Option.map_some] at hi
        cases hz : it.zero with
        | none => rw [hz] at hi; simp at hi
        | some z =>
          rw [hz] at hi
          simp only [Option.map_some, Option.some.injEq] at hi
          dsimp only at hp ⊢
          rw [hp, hz]
          exact fill_drive z.cells hi x b c n T hT

theorem box_drive (cs : List Value) (w : World) : (Instr.box 83 (.agg cs.toArray)).run Try.prog w = .ok (.pointer (some ⟨w.heap.size, 0, none⟩)) (w.alloc (.cells cs.toArray 83)) := by
  simp [go_sem]

/-- What the walk makes of the build of a drive: its table laid over the zero cells. -/
def driveX (z : Array Value) (x : Option Addr) (T : List Value) : List Value := (List.range 259).map fun k => if 1 + 0 ≤ k ∧ k < 1 + 0 + T.length then T.getD (k - (1 + 0)) (.bool false) else (z.setIfInBounds 0 (.pointer x)).toList.getD k (.bool false)
theorem driveX_length (z : Array Value) (x : Option Addr) (T : List Value) : (driveX z x T).length = 259 := by simp [driveX]
theorem zeroDrive_size : Try.zeroCells83.size = 259 := by kernel_rfl
theorem driveX_fold (x : Option Addr) (T : List Value) : List.foldl (fun cs x => cs.setIfInBounds (1 + x.snd) x.fst) (Try.zeroCells83.setIfInBounds 0 (.pointer x)) T.zipIdx = (driveX Try.zeroCells83 x T).toArray := by
  have h := set_run 1 T 0 (Try.zeroCells83.setIfInBounds 0 (.pointer x))
  rw [Array.size_setIfInBounds, zeroDrive_size] at h
  exact h
theorem driveX_set (x : Option Addr) (T : List Value) (hT : T.length = 256) (s1 s2 : Value) : ((driveX Try.zeroCells83 x T).set 257 s1).set 258 s2 = .pointer x :: (T ++ [s1, s2]) := by
  refine List.ext_getElem? fun k => ?_
  rw [List.getElem?_set, List.getElem?_set, List.length_set, driveX_length]
  by_cases hk : k < 259
  · rcases (by omega : k = 0 ∨ (1 ≤ k ∧ k < 257) ∨ k = 257 ∨ k = 258) with h | h | h | h
    · subst h
      rw [if_neg (by omega), if_neg (by omega)]
      unfold driveX
      rw [List.getElem?_map, List.getElem?_range hk, Option.map_some, if_neg (by omega), List.getElem?_cons_zero]
      rw [Array.toList_setIfInBounds, List.getD_eq_getElem?_getD, List.getElem?_set_self (by simp)]
      rfl
    · obtain ⟨j, rfl⟩ : ∃ j, k = j + 1 := ⟨k - 1, by omega⟩
      rw [if_neg (by omega), if_neg (by omega)]
      unfold driveX
      rw [List.getElem?_map, List.getElem?_range hk, Option.map_some, if_pos (by omega), List.getElem?_cons_succ, List.getElem?_append_left (by omega), getD_at (x := .bool false) (by omega)]
      congr 2
    · subst h
      rw [if_neg (by omega), if_pos rfl, if_pos (by omega), List.getElem?_cons_succ, List.getElem?_append_right (by omega), hT]; rfl
    · subst h
      rw [if_pos rfl, if_pos (by omega), List.getElem?_cons_succ, List.getElem?_append_right (by omega), hT]; rfl
  · rw [if_neg (by omega), if_neg (by omega), List.getElem?_eq_none (by rw [driveX_length]; omega), List.getElem?_eq_none (by simp [hT]; omega)]

end Go.Proofs.Ytljphijjcagciaa

namespace Go.Proofs.Ytljphijjcagciaa
open Go.RowKit

def mb (n : Nat) : Obj := .cells (Array.replicate n (Value.bool false)) 4
def mi (n : Nat) : Obj := .cells (Array.replicate n (Value.int IntKind.i64 0)) 3
structure NewAt (L : CL) (w1 V : World) (cs : List Value) (d b x : Nat) : Prop where
  top : Row V d 83 cs
  bad : Row V b 4 (List.replicate L.n (.bool false))
  next : Row V x 3 (List.replicate L.n (.int .i64 0))
  upd : Upd noBlk w1 V
  d1 : w1.heap.size ≤ d
  b1 : w1.heap.size ≤ b
  x1 : w1.heap.size ≤ x
  db : d ≠ b
  dx : d ≠ x
  bx : b ≠ x
theorem Row.newA (w : World) (n : Nat) (v : Value) (t : TypeId) : Row (w.alloc (.cells (Array.replicate n v) t)) w.heap.size t (List.replicate n v) := by
  rw [← List.toArray_replicate]; exact Row.new w _ _
theorem size_alloc' (w : World) (o : Obj) : (w.alloc o).heap.size = w.heap.size + 1 := World.size_alloc _ _

theorem newAt1 (L : CL) (w1 w2 : World) (cs : List Value) (hu : Upd noBlk w1.drew w2) : NewAt L w1 (((w2.alloc (mb L.n)).alloc (mi L.n)).alloc (.cells cs.toArray 83)) cs (w2.heap.size + 1 + 1) w2.heap.size (w2.heap.size + 1) := by
  have hs : w1.heap.size ≤ w2.heap.size := hu.size
  have hn := Row.new ((w2.alloc (mb L.n)).alloc (mi L.n)) cs 83
  have hi := Row.newA (w2.alloc (mb L.n)) L.n (.int .i64 0) 3
  rw [size_alloc', size_alloc'] at hn; rw [size_alloc'] at hi
  exact ⟨hn, ((Row.newA w2 L.n (.bool false) 4).alloc _).alloc _, hi.alloc _, ((((Upd.refl noBlk w1).drew.trans' hu).alloc _).alloc _).alloc _, by omega, by omega, by omega, by omega, by omega, by omega⟩
theorem newAt2 (L : CL) (w1 w2 : World) (cs : List Value) (hu : Upd noBlk w1.drew w2) : NewAt L w1 (((w2.alloc (mi L.n)).alloc (mb L.n)).alloc (.cells cs.toArray 83)) cs (w2.heap.size + 1 + 1) (w2.heap.size + 1) w2.heap.size := by
  have hs : w1.heap.size ≤ w2.heap.size := hu.size
  have hn := Row.new ((w2.alloc (mi L.n)).alloc (mb L.n)) cs 83
  have hi := Row.newA (w2.alloc (mi L.n)) L.n (.bool false) 4
  rw [size_alloc', size_alloc'] at hn; rw [size_alloc'] at hi
  exact ⟨hn, hi.alloc _, ((Row.newA w2 L.n (.int .i64 0) 3).alloc _).alloc _, ((((Upd.refl noBlk w1).drew.trans' hu).alloc _).alloc _).alloc _, by omega, by omega, by omega, by omega, by omega, by omega⟩
theorem newAt3 (L : CL) (w1 w2 : World) (cs : List Value) (hu : Upd noBlk (w1.alloc (mb L.n)).drew w2) : NewAt L w1 ((w2.alloc (mi L.n)).alloc (.cells cs.toArray 83)) cs (w2.heap.size + 1) w1.heap.size w2.heap.size := by
  have hs : (w1.alloc (mb L.n)).heap.size ≤ w2.heap.size := hu.size
  rw [size_alloc'] at hs
  have hn := Row.new (w2.alloc (mi L.n)) cs 83
  rw [size_alloc'] at hn
  exact ⟨hn, (((Row.newA w1 L.n (.bool false) 4).drew.upd hu id).alloc _).alloc _, (Row.newA w2 L.n (.int .i64 0) 3).alloc _, ((((Upd.refl noBlk w1).alloc _).drew.trans' hu).alloc _).alloc _, by omega, by omega, by omega, by omega, by omega, by omega⟩
theorem newAt4 (L : CL) (w1 w2 : World) (cs : List Value) (hu : Upd noBlk ((w1.alloc (mb L.n)).alloc (mi L.n)).drew w2) : NewAt L w1 (w2.alloc (.cells cs.toArray 83)) cs w2.heap.size w1.heap.size (w1.heap.size + 1) := by
  have hs : ((w1.alloc (mb L.n)).alloc (mi L.n)).heap.size ≤ w2.heap.size := hu.size
  rw [size_alloc', size_alloc'] at hs
  have hi := Row.newA (w1.alloc (mb L.n)) L.n (.int .i64 0) 3
  rw [size_alloc'] at hi
  exact ⟨Row.new w2 cs _, ((((Row.newA w1 L.n (.bool false) 4).alloc _).drew).upd hu id).alloc _, (hi.drew.upd hu id).alloc _, ((((Upd.refl noBlk w1).alloc _).alloc _).drew.trans' hu).alloc _, by omega, by omega, by omega, by omega, by omega, by omega⟩
theorem newAt5 (L : CL) (w1 w2 : World) (cs : List Value) (hu : Upd noBlk (w1.alloc (mi L.n)).drew w2) : NewAt L w1 ((w2.alloc (mb L.n)).alloc (.cells cs.toArray 83)) cs (w2.heap.size + 1) w2.heap.size w1.heap.size := by
  have hs : (w1.alloc (mi L.n)).heap.size ≤ w2.heap.size := hu.size
  rw [size_alloc'] at hs
  have hn := Row.new (w2.alloc (mb L.n)) cs 83
  rw [size_alloc'] at hn
  exact ⟨hn, (Row.newA w2 L.n (.bool false) 4).alloc _, (((Row.newA w1 L.n (.int .i64 0) 3).drew.upd hu id).alloc _).alloc _, ((((Upd.refl noBlk w1).alloc _).drew.trans' hu).alloc _).alloc _, by omega, by omega, by omega, by omega, by omega, by omega⟩
theorem newAt6 (L : CL) (w1 w2 : World) (cs : List Value) (hu : Upd noBlk ((w1.alloc (mi L.n)).alloc (mb L.n)).drew w2) : NewAt L w1 (w2.alloc (.cells cs.toArray 83)) cs w2.heap.size (w1.heap.size + 1) w1.heap.size := by
  have hs : ((w1.alloc (mi L.n)).alloc (mb L.n)).heap.size ≤ w2.heap.size := hu.size
  rw [size_alloc', size_alloc'] at hs
  have hi := Row.newA (w1.alloc (mi L.n)) L.n (.bool false) 4
  rw [size_alloc'] at hi
  exact ⟨Row.new w2 cs _, (hi.drew.upd hu id).alloc _, ((((Row.newA w1 L.n (.int .i64 0) 3).alloc _).drew).upd hu id).alloc _, ((((Upd.refl noBlk w1).alloc _).alloc _).drew.trans' hu).alloc _, by omega, by omega, by omega, by omega, by omega, by omega⟩

end Go.Proofs.Ytljphijjcagciaa

namespace Go.Proofs.Ytljphijjcagciaa
open Go.RowKit

theorem NewAt.drive {L : CL} {c : Chip} {w1 V : World} {X : List Value} {d b x : Nat} (h : NewAt L w1 V X d b x) (hc : ChipAt w1 L c) (hX : X = driveCells ⟨L, d, b, x⟩) :
    DriveAt V ⟨L, d, b, x⟩ { Drive.new c with next := List.replicate L.n 0 } := by
  have hf : ∀ k, w1.heap.size ≤ k → ¬ L.foot k := fun k hk hfk => by have := hc.foot_lt hfk; omega
  have hn := hc.n; have hnp := hc.ok.np2
  refine ⟨hc.upd h.upd (fun _ h => h.elim), by simp [Drive.new, hn], by simp, by rw [← hX]; exact h.top, ?_, ?_, ?_, hf _ h.d1, hf _ h.b1, hf _ h.x1, h.db, h.dx, h.bx⟩
  · have := h.bad; simp only [Drive.new, List.map_replicate, ← hn]; exact this
  · have := h.next; simp only [List.map_replicate]; exact this
  · intro v hv
    have : v = 0 := List.eq_of_mem_replicate hv
    subst this; show (-1 : Int) ≤ 0 ∧ 0 ≤ c.np; omega
theorem forget_new (c : Chip) (n : Nat) (h : n = c.bl.length) : ({ Drive.new c with next := List.replicate n 0 } : Drive).forget = Drive.new c := by
  simp [Drive.forget, Drive.new, h]

def NewRel (L : CL) (w1 : World) (v : Value) (W : World) : Prop := ∃ d b x : Nat, v = .pointer (some ⟨d, 0, none⟩) ∧ NewAt L w1 W (driveCells ⟨L, d, b, x⟩) d b x
theorem NewAt.rel {L : CL} {w1 V : World} {cs : List Value} {d b x : Nat} (h : NewAt L w1 V cs d b x) (e : cs = driveCells ⟨L, d, b, x⟩) : NewRel L w1 (.pointer (some ⟨d, 0, none⟩)) V := ⟨d, b, x, rfl, e ▸ h⟩

set_option maxHeartbeats 2000000 in
theorem driveNew_any (L : CL) (c : Chip) (w : World) (h : ChipAt w L c) :
    Calls Try.prog 7 #[.pointer (some ⟨L.a, 0, none⟩)] w fun e w' => ∃ D : DL, D.c = L ∧ (∀ k, D.foot k → L.foot k ∨ w.heap.size ≤ k) ∧ e = .returned (.tuple #[.pointer (some ⟨D.d, 0, none⟩), .int .i64 0]) ∧ DriveAt w' D (Drive.new c) ∧ Upd noBlk w w' := by
  have HSH := hid (fun W hW => Shape_any L c W hW)
  have hnb : c.nb = (L.n : Int) := by have := h.n; have := h.ok.nb; omega
  have h256 : (L.n : Int) ≤ 256 := by have := h.n; have := h.ok.nb256; omega
  have hnp := h.ok.np2
  have hmb := make_bool (L.n : Int) (by omega) (by omega)
  have hmi := make_int (L.n : Int) (by omega) (by omega)
  have hfs := field_shape0 (L.n : Int) c.np c.sz
  have hT := tabWay_length 256
  have HM := hid (fun W => Make_any W)
  have HC := hid h; have HNP := hid hnp
  rw [hnb] at HSH
  simp only [Int.toNat_natCast] at hmb hmi
  have hfold := driveX_fold (some ⟨L.a, 0, none⟩) (tabWay 256)
  have hXl := driveX_length Try.zeroCells83 (some ⟨L.a, 0, none⟩) (tabWay 256)
  have HXS := hid (driveX_set (some ⟨L.a, 0, none⟩) (tabWay 256) (tabWay_length 256))
  have HTC : Hid (∀ (d b x : Nat), driveCells ⟨L, d, b, x⟩ = .pointer (some ⟨L.a, 0, none⟩) :: (tabWay 256 ++ [.slice (some ⟨b, 0, none⟩) L.n L.n, .slice (some ⟨x, 0, none⟩) L.n L.n])) := hid (fun _ _ _ => rfl)
  generalize driveX Try.zeroCells83 (some ⟨L.a, 0, none⟩) (tabWay 256) = X at hfold hXl HXS
  generalize tabWay 256 = T at hT HM hfold HXS HTC
  clear h hnb hnp
  go_enter Try.func7, Try.ntmps7
  go_wp2_with fail
  refine (HSH.out _ HC.out).mono ?_; rintro e w1 ⟨rfl, hu⟩
  have HC1 := hid (HC.out.upd hu fun _ h => h.elim); have HU1 := hid hu; clear hu
  go_upto_region 4 with fail
  go_cut [5] (fun s5 wx => NewRel L w1 s5 wx)
  case first =>
    go_region_with (go_at_call 34; refine (HM.out _).mono ?_; rintro e w2 ⟨rfl, hu2⟩)
    clear hmb hmi hfs hfold
    all_goals (go_wp2_with fail; go_meet; first
      | exact (newAt1 L w1 w2 _ hu2).rel ((HXS.out _ _).trans (HTC.out _ _ _).symm)
      | exact (newAt2 L w1 w2 _ hu2).rel ((HXS.out _ _).trans (HTC.out _ _ _).symm)
      | exact (newAt3 L w1 w2 _ hu2).rel ((HXS.out _ _).trans (HTC.out _ _ _).symm)
      | exact (newAt4 L w1 w2 _ hu2).rel ((HXS.out _ _).trans (HTC.out _ _ _).symm)
      | exact (newAt5 L w1 w2 _ hu2).rel ((HXS.out _ _).trans (HTC.out _ _ _).symm)
      | exact (newAt6 L w1 w2 _ hu2).rel ((HXS.out _ _).trans (HTC.out _ _ _).symm))
  case rest =>
    obtain ⟨d, b, x, rfl, hN⟩ := hcut
    have hD := hN.drive HC1.out rfl
    have hU := hN.upd
    have HD := hid hD; have HU := hid hU
    have K := hid (And.intro hN.d1 (And.intro hN.b1 hN.x1))
    clear hN hD hU hT hXl h256 HXS HTC hmb hmi hfs hfold
    have HF := hid (fun W hW => forget_any ⟨L, d, b, x⟩ { Drive.new c with next := List.replicate L.n 0 } W hW)
    dsimp only at HF
    go_wp2_with fail
    refine (HF.out _ HD.out).mono ?_; rintro e w3 ⟨rfl, hd3, hu3⟩
    rw [forget_new c L.n HC.out.n] at hd3
    have HD3 := hid hd3; have HU3 := hid hu3; clear hd3 hu3
    go_wp2_with fail
    go_ret2
    have hs1 : w.heap.size ≤ w1.heap.size := HU1.out.size
    obtain ⟨j1, j2, j3⟩ := K.out
    refine ⟨_, rfl, ?_, rfl, HD3.out, ?_⟩
    · rintro k (hk | hk | hk | hk)
      · exact .inl hk
      · exact .inr (by rw [hk]; dsimp only; omega)
      · exact .inr (by rw [hk]; dsimp only; omega)
      · exact .inr (by rw [hk]; dsimp only; omega)
    · exact (HU1.out.trans' HU.out).trans HU3.out (fun i hi hik => by rw [hik] at hi; omega)

end Go.Proofs.Ytljphijjcagciaa
