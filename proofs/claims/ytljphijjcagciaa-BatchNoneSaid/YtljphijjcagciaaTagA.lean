/-
  The walks over the checks of bytes, and over numbers as bytes.
  The walks over a check of more bytes, and over the table's making.
  The walk over the table's making.
  The walks over a writer of fields.
  The walks over numbers as bytes.
  The walks over a tag's bytes, and the check of a page.
  The walks over what a tag may be, the check, and a page's frame.
  The walks over a reader of fields.
  The walk over the tag that stands beside a page.
  The walks over what stands beside a page: blank, factory, parsed.
-/
import Derived.Test.YtljphijjcagciaaChecked
import Derived.Test.YtljphijjcagciaaCore
import Derived.Lib.AppendStr
import Derived.Test.YtljphijjcagciaaNandA
import Derived.Deep.RegionHeld3
import Derived.Deep.RegionWith
namespace Go.Proofs.Ytljphijjcagciaa
open Go.RowKit

theorem bits_u32 (op : BinOp) (x y : Int) : 0 ≤ bits op .u32 x y ∧ bits op .u32 x y ≤ 4294967295 := by
  unfold bits; simp only [IntKind.wrap_u32']; omega
theorem bits_u8 (op : BinOp) (x y : Int) : 0 ≤ bits op .u8 x y ∧ bits op .u8 x y < 256 := by
  unfold bits; simp only [IntKind.wrap_u8']; omega
theorem stepBit_range {y : Int} : 0 ≤ stepBit y ∧ stepBit y ≤ 4294967295 := by
  unfold stepBit; split
  · exact bits_u32 _ _ _
  · omega
theorem stepN_range {y : Int} (h : 0 ≤ y ∧ y ≤ 4294967295) : ∀ k, 0 ≤ stepN k y ∧ stepN k y ≤ 4294967295
  | 0 => h
  | _ + 1 => stepBit_range

theorem step_any (x : Int) (h0 : 0 ≤ x) (h1 : x ≤ 4294967295) (w : World) :
    Calls Try.prog 59 #[.int .u32 x] w fun e w' => e = .returned (.int .u32 (stepN 8 x)) ∧ w = w' := by
  go_enter Try.func59, Try.ntmps59
  go_wp2
  go_loop [0, 3] (fun s i => ∃ k : Nat, k ≤ 8 ∧ i = .int .i64 k ∧ s = .int .u32 (stepN k x)) (fun _ i => 8 - (intOf i).toNat)
  case atStart => exact ⟨0, by omega, rfl, rfl⟩
  case round =>
    obtain ⟨k, hk, rfl, rfl⟩ := hrel
    obtain ⟨hy0, hy1⟩ := stepN_range (y := x) ⟨h0, h1⟩ k
    have hs : stepN (k + 1) x = stepBit (stepN k x) := rfl
    generalize hy : stepN k x = y at *
    have HY := hid hy; have HS := hid hs; clear hy hs
    by_cases hlt : k < 8
    · cases hb : (bits .and .u32 y 2147483648 != 0)
      · have e : stepBit y = y * 2 % 4294967296 := by simp only [stepBit, hb, Bool.false_eq_true, if_false]
        have E := hid e; clear e
        go_wp2
        exact ⟨⟨k + 1, by omega, by go_num, by rw [HS.out, E.out]⟩, by simp [intOf]; omega⟩
      · have e : stepBit y = bits .xor .u32 (y * 2 % 4294967296) 79764919 := by simp only [stepBit, hb, if_true]
        have E := hid e; clear e
        go_wp2
        exact ⟨⟨k + 1, by omega, by go_num, by rw [HS.out, E.out]⟩, by simp [intOf]; omega⟩
    · go_wp2
      go_ret
      have e : k = 8 := by omega
      subst e
      exact ⟨by rw [HY.out]; rfl, rfl⟩

theorem First_any (w : World) : Calls Try.prog 85 #[] w fun e w' => e = .returned (.int .u32 4294967295) ∧ w = w' := by
  go_enter Try.func85, Try.ntmps85
  go_wp2
  go_ret
  exact ⟨rfl, rfl⟩
theorem Last_any (x : Int) (w : World) :
    Calls Try.prog 87 #[.int .u32 x] w fun e w' => e = .returned (.int .u32 (crcLast x)) ∧ w = w' := by
  go_enter Try.func87, Try.ntmps87
  go_wp2
  go_ret
  exact ⟨rfl, rfl⟩

theorem may_any (x : Int) (w : World) :
    Calls Try.prog 97 #[.int .i64 x] w fun e w' => e = .returned (.bool (mayB x)) ∧ w = w' := by
  by_cases h : 1 ≤ x
  all_goals
    go_enter Try.func97, Try.ntmps97
    go_wp2
    go_ret
    exact ⟨by simp [mayB, h] <;> omega, rfl⟩

end Go.Proofs.Ytljphijjcagciaa

namespace Go.Proofs.Ytljphijjcagciaa
open Go.RowKit

/-- The table lies at d, from cell 'off' on. -/
def TabAt (w : World) (d off : Nat) : Prop := ∀ j, j < 256 → w.cell? ⟨d, off + j, none⟩ = some (.int .u32 (polyTab.getD j 0))
theorem polyTab_range (j : Nat) : 0 ≤ polyTab.getD j 0 ∧ polyTab.getD j 0 ≤ 4294967295 := by
  by_cases h : j < 256
  · have : polyTab.getD j 0 = stepN 8 ((j : Int) * 16777216) := by unfold polyTab; rw [List.getD_eq_getElem?_getD, List.getElem?_map, List.getElem?_range h]; rw [Option.map_some, Option.getD_some]
    rw [this]; exact stepN_range ⟨by omega, by omega⟩ 8
  · have : polyTab.getD j 0 = 0 := by unfold polyTab; rw [List.getD_eq_getElem?_getD, List.getElem?_map, List.getElem?_eq_none (by rw [List.length_range]; omega)]; rw [Option.map_none, Option.getD_none]
    omega
theorem crcByte_range (y : Int) (b : UInt8) : 0 ≤ crcByte y b ∧ crcByte y b ≤ 4294967295 := bits_u32 _ _ _
theorem crcMore_range {y : Int} (h : 0 ≤ y ∧ y ≤ 4294967295) : ∀ (l : List UInt8), 0 ≤ crcMore y l ∧ crcMore y l ≤ 4294967295 := by
  intro l
  induction l generalizing y with
  | nil => exact h
  | cons b l ih => exact ih (crcByte_range y b)
theorem crcMore_snoc (y : Int) (l : List UInt8) (b : UInt8) : crcMore y (l ++ [b]) = crcByte (crcMore y l) b := by simp [crcMore]

theorem bs_len (s : ByteArray) : (bs s).length = s.size := by cases s; simp [bs, ByteArray.size]

theorem More_any (d off : Nat) (x : Int) (s : ByteArray) (hs : s.size ≤ 100000) (h0 : 0 ≤ x) (h1 : x ≤ 4294967295) (w : World) (ht : TabAt w d off) :
    Calls Try.prog 84 #[.pointer (some ⟨d, off, none⟩), .int .u32 x, .string s] w fun e w' => e = .returned (.int .u32 (crcMore x (bs s))) ∧ ∃ n, w' = w.drewN n := by
  go_enter Try.func84, Try.ntmps84
  go_wp2
  go_loopw [1, 13] (fun st i wr => ∃ k : Nat, k ≤ s.size ∧ i = .int .i64 k ∧ st = .int .u32 (crcMore x ((bs s).take k)) ∧ ∃ n, wr = w.drewN n) (fun _ i _ => s.size - (intOf i).toNat)
  case atStart => exact ⟨0, by omega, rfl, rfl, 0, rfl⟩
  case round =>
    obtain ⟨k, hk, rfl, rfl, n, rfl⟩ := hrel
    by_cases hlt : k < s.size
    · have hsn : (bs s).take (k + 1) = (bs s).take k ++ [s[k]] := by
        have hl : k < (bs s).length := by rw [bs_len]; exact hlt
        rw [List.take_succ_eq_append_getElem hl]; rfl
      have hnx : crcMore x ((bs s).take (k + 1)) = crcByte (crcMore x ((bs s).take k)) s[k] := by rw [hsn, crcMore_snoc]
      obtain ⟨y0, y1⟩ := crcMore_range (y := x) ⟨h0, h1⟩ ((bs s).take k)
      generalize hy : crcMore x ((bs s).take k) = y at *
      obtain ⟨i0, i1⟩ := bits_u8 .xor (y / 16777216) (s[k].toNat : Int)
      have hc := ht (bits .xor .u8 (y / 16777216) (s[k].toNat : Int)).toNat (by omega)
      have HN := hid hnx; have HY := hid hy
      clear hnx hsn hy
      go_wp2_with fail
      go_quiet (fail)
      go_wp2_with fail
      exact ⟨⟨k + 1, by omega, by go_num, by rw [HN.out]; rfl, n + nq, rfl⟩, by simp [intOf]; omega⟩
    · go_wp2_with fail
      go_ret
      have e : k = s.size := by omega
      subst e
      exact ⟨by rw [List.take_of_length_le (by rw [bs_len]; omega)]; rfl, n, rfl⟩


/-- The table as a value. -/
def tabCells : List Value := polyTab.map (Value.int .u32)
/-- The table as far as it is made: its first k places, and zeros. -/
def tabWay (k : Nat) : List Value := (List.range 256).map fun j => .int .u32 (if j < k then polyTab.getD j 0 else 0)
theorem tabWay_length (k : Nat) : (tabWay k).length = 256 := by unfold tabWay; rw [List.length_map, List.length_range]
theorem tabWay_get (k j : Nat) (h : j < 256) : (tabWay k)[j]? = some (.int .u32 (if j < k then polyTab.getD j 0 else 0)) := by
  unfold tabWay; rw [List.getElem?_map, List.getElem?_range h]; rfl
theorem tabWay_set (k : Nat) (h : k < 256) : (tabWay k).set k (.int .u32 (polyTab.getD k 0)) = tabWay (k + 1) := by
  refine List.ext_getElem? fun j => ?_
  rw [List.getElem?_set]
  by_cases hj : j < 256
  · rw [tabWay_get _ _ hj, tabWay_get _ _ hj]
    by_cases e : k = j
    · subst e; rw [if_pos rfl, if_pos (by rw [tabWay_length]; exact h), if_pos (Nat.lt_succ_self k)]
    · rw [if_neg e]
      have : (j < k) = (j < k + 1) := by rw [eq_iff_iff]; omega
      simp only [this]
  · rw [if_neg (by omega), List.getElem?_eq_none (by rw [tabWay_length]; omega), List.getElem?_eq_none (by rw [tabWay_length]; omega)]
theorem tabWay_zero : tabWay 0 = List.replicate 256 (.int .u32 0) := by
  refine List.ext_getElem? fun j => ?_
  by_cases hj : j < 256
  · rw [tabWay_get _ _ hj, List.getElem?_replicate, if_pos hj]; rfl
  · rw [List.getElem?_eq_none (by rw [tabWay_length]; omega), List.getElem?_eq_none (by rw [List.length_replicate]; omega)]
theorem polyTab_getD (k : Nat) (h : k < 256) : polyTab.getD k 0 = stepN 8 ((k : Int) * 16777216) := by unfold polyTab; rw [List.getD_eq_getElem?_getD, List.getElem?_map, List.getElem?_range h]; rw [Option.map_some, Option.getD_some]

end Go.Proofs.Ytljphijjcagciaa

namespace Go.Proofs.Ytljphijjcagciaa
open Go.RowKit

theorem zero79 : Try.zeroCells79 = (List.replicate 256 (Value.int .u32 0)).toArray := by kernel_rfl

theorem tabSize : (Try.prog.info? 79).map (·.size) = some 256 := by kernel_rfl

set_option maxRecDepth 100000 in
theorem Make_any (w : World) :
    Calls Try.prog 34 #[] w fun e w' => e = .returned (.agg (tabWay 256).toArray) ∧ Upd noBlk w w' := by
  go_enter Try.func34, Try.ntmps34
  go_wp2_with fail
  go_loopw [3] (fun i wr => ∃ k : Nat, k ≤ 256 ∧ i = .int .i64 k ∧ Row wr (w.heap.size + 1) 79 (tabWay k) ∧ wr.heap.size = w.heap.size + 2 ∧ Row wr w.heap.size 79 (List.replicate 256 (.int .u32 0)) ∧ Upd noBlk w wr) (fun i _ => 256 - (intOf i).toNat)
  case atStart =>
    refine ⟨0, by omega, rfl, ?_, by simp, ?_, ((Upd.refl _ _).alloc _).alloc _⟩
    · have := Row.new (w.alloc (.cells Try.zeroCells79 79)) (List.replicate 256 (.int .u32 0)) 79
      rw [World.size_alloc, ← zero79] at this
      rw [tabWay_zero]; exact this
    · have := (Row.new w (List.replicate 256 (.int .u32 0)) 79).alloc (.cells Try.zeroCells79 79)
      rw [← zero79] at this
      exact this
  case round =>
    obtain ⟨k, hk, rfl, hr, hsz, hr0, hu⟩ := hrel
    by_cases hlt : k < 256
    · have hc := hr.get (tabWay_get k k hlt)
      have hfz := hr.frozen k

      have HC := hid (fun w => step_any ((k : Int) * 16777216) (by omega) (by omega) w)

      rw [← polyTab_getD k hlt] at HC

      have hset := hr.put k _ (tabWay_set k hlt)
      have hr0' := hr0.far (p := ⟨w.heap.size + 1, k, none⟩) (by show w.heap.size ≠ w.heap.size + 1; omega) (.int .u32 (polyTab.getD k 0))
      have hu' := hu.setCell (p := ⟨w.heap.size + 1, k, none⟩) (.inr (by show w.heap.size ≤ w.heap.size + 1; omega)) (.int .u32 (polyTab.getD k 0))
      generalize polyTab.getD k 0 = v at *
      have HSET := hid hset; have HR0 := hid hr0'; have HU := hid hu'; have HSZ := hid hsz
      clear hset hr0' hu' hr hr0 hu hsz
      rw [if_neg (Nat.lt_irrefl k)] at hc
      go_wp2_with fail
      refine (HC.out _).mono ?_; rintro e w1 ⟨rfl, rfl⟩
      go_wp2_with fail
      exact ⟨⟨k + 1, by omega, by go_num, HSET.out, by simpa using HSZ.out, HR0.out, HU.out⟩, by simp [intOf]; omega⟩
    · have e : k = 256 := by omega
      subst e
      have hlen := tabWay_length 256
      have hone : (tabWay 256).toArray.all (·.oneCell') = true := by
        rw [Array.all_eq_true_iff_forall_mem]
        intro v hv
        unfold tabWay at hv
        rw [List.mem_toArray, List.mem_map] at hv
        obtain ⟨j, _, rfl⟩ := hv
        rfl
      generalize hT : tabWay 256 = T at *
      have hsT : (Try.prog.info? 79).map (·.size) = some T.toArray.size := by rw [List.size_toArray, hlen]; exact tabSize
      have hs0 : (List.replicate 256 (Value.int .u32 0)).toArray.size = T.toArray.size := by rw [List.size_toArray, List.size_toArray, hlen, List.length_replicate]
      have HT := hid hT; have HR := hid hr; have HR0 := hid hr0; have HU := hid hu; have HST := hid hsT; have HS0 := hid hs0; have HONE := hid hone
      clear hT hr hr0 hu hsz hlen hsT hs0 hone
      go_wp2_with (first
        | (refine wpList_load_row rfl 79 _ rfl (w.heap.size + 1) rfl 79 T.toArray (0, 0) _ HR.out Try.underlying79 rfl HST.out ?_)
        | (refine wpList_store_row rfl 79 _ _ rfl w.heap.size T.toArray rfl rfl 79 _ HR0.out HST.out HS0.out HONE.out ?_))
      have hfin : (wr.setRow w.heap.size T.toArray).heap[w.heap.size]? = some (.cells T.toArray 79 (0, 0)) := setRow_heap _ _ _ _ _ _ HR0.out
      refine bodyPost_ret (results_cell_row rfl _ _ w.heap.size 79 _ (0, 0) _ rfl hfin Try.underlying79 rfl HST.out) rfl ⟨by rw [HT.out], ?_⟩
      exact ⟨HU.out.os, HU.out.tape, HU.out.output, by rw [setRow_size]; exact HU.out.size, fun j hj hn => by rw [setRow_other _ _ _ _ (by omega)]; exact HU.out.block j hj hn⟩

end Go.Proofs.Ytljphijjcagciaa

namespace Go.Proofs.Ytljphijjcagciaa
open Go.RowKit

def byteV (b : UInt8) : Value := .int .u8 b.toNat
theorem strCells_eq (s : ByteArray) : Lib.strCells s = (bs s).map byteV := rfl

/-- A writer at a has written l; its bytes lie in a block from B on. -/
def WrAt (w : World) (a B : Nat) (l : List UInt8) (wrong : Bool) : Prop :=
  a < B ∧ ∃ v, Row w a 139 [v, .bool wrong] ∧ w.ownsRow B 5 1 v l.length (l.map byteV)
def wrFoot (a B : Nat) (k : Nat) : Prop := k = a ∨ B ≤ k

theorem ownsRow_val {w : World} {B e size n : Nat} {v : Value} {xs : List Value} (h : w.ownsRow B e size v n xs) : v = .slice none 0 0 ∨ ∃ g cap, v = .slice (some ⟨g, 0, none⟩) n cap ∧ n ≤ cap ∧ cap ≤ maxLen ∧ B ≤ g := by
  rcases h.2 with ⟨h1, _⟩ | ⟨g, cap, cur, h1, h2, _, h3, h4, _⟩
  · exact .inl h1
  · exact .inr ⟨g, cap, h1, h3, h4, h2⟩

theorem ownsRow_slice {w : World} {B e size n : Nat} {v : Value} {xs : List Value} (h : w.ownsRow B e size v n xs) : ∃ ao cap, v = .slice ao n cap := by
  rcases h.2 with ⟨h1, h2⟩ | ⟨g, cap, cur, h1, _⟩
  · subst h2; exact ⟨none, 0, h1⟩
  · exact ⟨_, _, h1⟩
theorem Row.grown {w w' : World} {b : Nat} {t : TypeId} {cs : List Value} {row : Option Nat} (h : Row w b t cs) (hg : w.grownBy w' row) (hne : some b ≠ row) : Row w' b t cs := (hg.block b h.lt hne).trans h

theorem Try.info_u8 : (Try.prog.info? 5).map (fun i => (i.zero, i.size, i.bytes)) = some (some (.int .u8 0), 1, 1) := by kernel_rfl

theorem Upd.grown {S : Nat → Prop} {a w w' : World} {row : Option Nat} (h : Upd S a w) (hg : w.grownBy w' row) (hr : ∀ k, row = some k → S k ∨ a.heap.size ≤ k) : Upd S a w' :=
  ⟨hg.os.trans h.os, hg.tape.trans h.tape, hg.output.trans h.output, Nat.le_trans h.size hg.size, fun k hk hn =>
    (hg.block k (Nat.lt_of_lt_of_le hk h.size) (fun e => by rcases hr k e.symm with h1 | h1; · exact hn h1
                                                            · omega)).trans (h.block k hk hn)⟩

theorem put_any (a B : Nat) (l : List UInt8) (wrong may : Bool) (s : ByteArray) (w : World) (h : WrAt w a B l wrong) (hsz : l.length + s.size ≤ 1000000) (hB : B ≤ w.heap.size) :
    Calls Try.prog 95 #[.pointer (some ⟨a, 0, none⟩), .string s, .bool may] w fun e w' => e = .returned (.pointer (some ⟨a, 0, none⟩)) ∧ WrAt w' a B (l ++ bs s) (wrong || !may) ∧ Upd (wrFoot a B) w w' := by
  obtain ⟨hab, v, hr, ho⟩ := h
  obtain ⟨i0, hi, hz0, hz1, hz2⟩ := info_parts Try.info_u8
  have c0 := hr.cell 0
  have c1 := hr.cell 1
  simp only [List.getElem?_cons_zero, List.getElem?_cons_succ] at c0 c1
  have f0 := hr.frozen 0; have f1 := hr.frozen 1
  have hr1 := hr.put (cs' := [v, .bool (wrong || !may)]) 1 (.bool (wrong || !may)) rfl
  have ho1 := ho.kept (w' := w.setCell ⟨a, 1, none⟩ (.bool (wrong || !may))) (row := some a) ⟨rfl, rfl, rfl, by simp, fun k hk hn => Below.heap_setCell _ _ _ _ (fun e => hn (by rw [e]))⟩ (by
    rcases ownsRow_val ho with rfl | ⟨g, cap, rfl, _, _, hg⟩
    · left; rfl
    · right; simp [Value.ownBlock]; omega)
  have HR1 := hid hr1; have HO1 := hid ho1; have HAB := hid hab
  clear hr1 ho1
  have hne : some a ≠ v.ownBlock := by
    rcases ownsRow_val ho with rfl | ⟨g, cap, rfl, _, _, hg⟩
    · simp [Value.ownBlock]
    · simp [Value.ownBlock]; omega
  have hvl : ∀ k, v.ownBlock = some k → wrFoot a B k := by
    rcases ownsRow_val ho with rfl | ⟨g, cap, rfl, _, _, hg⟩
    · intro k hk; simp [Value.ownBlock] at hk
    · intro k hk; simp [Value.ownBlock] at hk; subst hk; exact .inr hg
  have b1 : l.length + s.size ≤ maxLen := by unfold maxLen; omega
  have b2 : l.length + s.size ≤ 140737488355328 := by omega
  have HNE := hid hne; have HVL := hid hvl
  have B1 := hid b1; have B2 := hid b2; have HI := hid hi; have HZ0 := hid hz0; have HZ1 := hid hz1; have HZ2 := hid hz2; have HO := hid ho; have HR := hid hr
  clear b1 b2 hi hz0 hz1 hz2 ho hr hne hvl
  cases wrong <;> cases may
  all_goals
    (try simp at HO1 HR1)
    go_enter Try.func95, Try.ntmps95
    go_wp2_with (at_builtin; refine Lib.wpList_append_own_string _ rfl _ _ 114 9 rfl B 5 i0 Try.underlying114 Try.underlying9 HI.out HZ0.out HZ1.out HZ2.out v _ _ rfl HO1.out s rfl B1.out B2.out (by rw [World.size_setCell]; exact hB) ?_; intro v' w1 hown' hgrow hnil; have hr2 := HR1.out.grown hgrow HNE.out; have d0 := hr2.cell 0; simp only [List.getElem?_cons_zero] at d0; have e0 := hr2.frozen 0; obtain ⟨ao, cap, hv'⟩ := ownsRow_slice hown'; rw [hv']; have HOW := hid hown'; have HGR := hid hgrow; have HR2 := hid hr2; have HV := hid hv'; clear hown' hgrow hr2 hv' hnil)
    go_ret
    refine ⟨rfl, ⟨HAB.out, .slice ao (l.length + s.size) cap, HR2.out.put 0 _ rfl, ?_⟩, ?_⟩
    · have h1 := HOW.out
      rw [HV.out] at h1
      have h2 := ownsRow_setCell_below h1 (a := ⟨a, 0, none⟩) HAB.out (.slice ao (l.length + s.size) cap)
      rw [List.length_append, bs_len, List.map_append]
      exact h2
    · exact (((Upd.refl _ _).setCell (p := ⟨a, 1, none⟩) (.inl (.inl rfl)) _).grown HGR.out (fun k hk => .inl (HVL.out k hk))).setCell (p := ⟨a, 0, none⟩) (.inl (.inl rfl)) _

theorem Bytes_any (a B : Nat) (l : List UInt8) (w : World) (h : WrAt w a B l false) :
    Calls Try.prog 83 #[.pointer (some ⟨a, 0, none⟩)] w fun e w' => e = .returned (.tuple #[.string (mkS l), .int .i64 0]) ∧ Upd noBlk w w' := by
  obtain ⟨hab, v, hr, ho⟩ := h
  have c0 := hr.cell 0
  have c1 := hr.cell 1
  simp only [List.getElem?_cons_zero, List.getElem?_cons_succ] at c0 c1
  rcases ownsRow_val ho with rfl | ⟨g, cap, rfl, _, _, _⟩
  · have hl : l = [] := by
      rcases ho.2 with ⟨_, h2⟩ | ⟨g, cap, cur, h1, _⟩
      · exact List.length_eq_zero_iff.1 h2
      · simp at h1
    subst hl
    have hcv : (convert 114 9 (.slice none 0 0)).run Try.prog w = .ok (.string ⟨#[]⟩) w := by
      rw [run_convert_bytes_string w 114 9 5 none 0 0 Try.underlying114 Try.underlying5 Try.underlying9]
      rfl
    clear ho hr
    go_enter Try.func83, Try.ntmps83
    go_wp2_with fail
    go_ret2
    exact ⟨rfl, Upd.refl _ _⟩
  · have hcv := run_convert_bytes_back (P := Try.prog) w 114 9 5 ⟨g, 0, none⟩ cap l Try.underlying114 Try.underlying5 Try.underlying9 (fun j hj => ho.cells (g := g) rfl j _ (by simp [hj, byteV]))
    clear ho hr
    go_enter Try.func83, Try.ntmps83
    go_wp2_with fail
    go_ret2
    exact ⟨rfl, Upd.refl _ _⟩

end Go.Proofs.Ytljphijjcagciaa

namespace Go.Proofs.Ytljphijjcagciaa
open Go.RowKit

theorem ret_bool {a b : Bool} (h : a = b) : Ending.returned (.bool a) = .returned (.bool b) := by rw [h]

theorem Fits_may (n : Nat) (w : Int) (h : mayB w = false) (wd : World) : Calls Try.prog 96 #[.int .u64 n, .int .i64 w] wd fun e w' => e = .returned (.bool false) ∧ wd = w' := by
  have H := hid (fun wd => may_any w wd)
  rw [h] at H
  go_enter Try.func96, Try.ntmps96
  go_wp2_with (go_at_call 97; refine (H.out _).mono ?_; rintro e w' ⟨rfl, rfl⟩)
  go_ret
  exact ⟨rfl, rfl⟩

/-- Of a number that has room. -/
theorem Fits_yes (n : Nat) (w : Nat) (h1 : 1 ≤ w) (h8 : w ≤ 8) (hn : n < 256 ^ w) (wd : World) : Calls Try.prog 96 #[.int .u64 n, .int .i64 w] wd fun e w' => e = .returned (.bool true) ∧ wd = w' := by
  have H := hid (fun wd => may_any w wd)
  rw [show mayB w = true by simp [mayB]; omega] at H
  have hw : w = 1 ∨ w = 2 ∨ w = 3 ∨ w = 4 ∨ w = 5 ∨ w = 6 ∨ w = 7 ∨ w = 8 := by omega
  have hn64 : (n : Int) ≤ 18446744073709551615 := by
    have : n < 256 ^ 8 := Nat.lt_of_lt_of_le hn (Nat.pow_le_pow_right (by omega) h8)
    omega
  rcases hw with rfl | rfl | rfl | rfl | rfl | rfl | rfl | rfl
  all_goals
    go_enter Try.func96, Try.ntmps96
    go_wp2_with (go_at_call 97; refine (H.out _).mono ?_; rintro e w' ⟨rfl, rfl⟩)
    go_ret
    first | exact ⟨rfl, rfl⟩ | exact ⟨ret_bool (by rw [beq_iff_eq]; omega), rfl⟩

/-- The array as far as it is filled, from its end. -/
def putWay (n k : Nat) : List Value := (List.range 8).map fun j => .int .u8 (if 7 - j < k then ((n / 256 ^ (7 - j) % 256 : Nat) : Int) else 0)
theorem putWay_length (n k : Nat) : (putWay n k).length = 8 := by simp [putWay]
theorem putWay_get (n k j : Nat) (hj : j < 8) : (putWay n k)[j]? = some (.int .u8 (if 7 - j < k then ((n / 256 ^ (7 - j) % 256 : Nat) : Int) else 0)) := by
  simp [putWay, hj]
theorem putWay_set (n k : Nat) (hk : k < 8) : (putWay n k).set (7 - k) (.int .u8 ((n / 256 ^ k % 256 : Nat) : Int)) = putWay n (k + 1) := by
  refine List.ext_getElem? fun j => ?_
  rw [List.getElem?_set]
  by_cases hj : j < 8
  · rw [putWay_get _ _ _ hj, putWay_get _ _ _ hj]
    by_cases e : 7 - k = j
    · subst e
      have e2 : 7 - (7 - k) = k := by omega
      rw [if_pos rfl, if_pos (by rw [putWay_length]; exact hj), e2, if_pos (Nat.lt_succ_self k)]
    · rw [if_neg e]
      have : (7 - j < k) = (7 - j < k + 1) := by rw [eq_iff_iff]; omega
      simp only [this]
  · rw [if_neg (by omega), List.getElem?_eq_none (by rw [putWay_length]; omega), List.getElem?_eq_none (by rw [putWay_length]; omega)]

set_option maxRecDepth 100000 in
theorem Put_any (n w : Nat) (h1 : 1 ≤ w) (h8 : w ≤ 8) (hn : n < 18446744073709551616) (wd : World) :
    Calls Try.prog 86 #[.int .u64 n, .int .i64 w] wd fun e w' => e = .returned (.string (mkS (putB n w))) ∧ Upd noBlk wd w' := by
  have H := hid (fun wd => may_any w wd)
  rw [show mayB w = true by simp [mayB]; omega] at H
  have hn2 : (n : Int) ≤ 18446744073709551615 := by omega
  have h8' : (w : Int) ≤ 8 := by omega
  have h1' : 1 ≤ (w : Int) := by omega
  have HN := hid hn; clear hn
  go_enter Try.func86, Try.ntmps86
  go_wp2_with (go_at_call 97; refine (H.out _).mono ?_; rintro e w' ⟨rfl, rfl⟩)
  go_loopw [10] (fun i wr => ∃ k : Nat, k ≤ 8 ∧ i = .int .i64 k ∧ Row wr wd.heap.size 154 (putWay n k) ∧ Upd noBlk wd wr) (fun i _ => 8 - (intOf i).toNat)
  case atStart => exact ⟨0, by omega, rfl, Row.new wd (putWay n 0) _, (Upd.refl _ _).alloc _⟩
  case round =>
    obtain ⟨k, hk, rfl, hr, hu⟩ := hrel
    by_cases hlt : k < 8
    · have hc := hr.get (putWay_get n k (7 - k) (by omega))
      have hf := hr.frozen (7 - k)
      have hset := hr.put _ _ (putWay_set n k hlt)
      have HU := hid (hu.setCell (p := ⟨wd.heap.size, 7 - k, none⟩) (.inr (Nat.le_refl _)) (.int .u8 ((n / 256 ^ k % 256 : Nat) : Int)))
      have HS := hid hset
      clear hset hr hu
      have hk8 : k = 0 ∨ k = 1 ∨ k = 2 ∨ k = 3 ∨ k = 4 ∨ k = 5 ∨ k = 6 ∨ k = 7 := by omega
      rcases hk8 with rfl | rfl | rfl | rfl | rfl | rfl | rfl | rfl
      all_goals
        simp at HS HU
        (try rw [show ((n : Int) / 72057594037927936 % 256) = (n : Int) / 72057594037927936 by omega] at HS HU)
        go_wp2_with fail
        exact ⟨⟨_, by decide, rfl, HS.out, HU.out⟩, by simp [intOf]⟩
    · have e : k = 8 := by omega
      subst e
      have hw : w = 1 ∨ w = 2 ∨ w = 3 ∨ w = 4 ∨ w = 5 ∨ w = 6 ∨ w = 7 ∨ w = 8 := by omega
      have hcs := fun j hj => hr.get (putWay_get n 8 j hj)
      have HU := hid hu; have HR := hid hr; clear hu hr
      have hcv := run_convert_bytes_back (P := Try.prog) wr 114 9 5 ⟨wd.heap.size, 8 - w, none⟩ w (putB n w) Try.underlying114 Try.underlying5 Try.underlying9 (fun j hj => by
        have hj' : j < w := by simpa [putB] using hj
        rw [Addr.add_lit, hcs (8 - w + j) (by omega), if_pos (by omega)]
        simp only [putB, List.getElem_map, List.getElem_range]
        rw [show 7 - (8 - w + j) = w - 1 - j by omega]
        rfl)
      rw [show (putB n w).length = w by simp [putB]] at hcv
      clear hcs
      rcases hw with rfl | rfl | rfl | rfl | rfl | rfl | rfl | rfl
      all_goals
        simp at hcv
        go_wp2_with fail
        go_ret
        exact ⟨rfl, HU.out⟩

theorem putB_length (n w : Nat) : (putB n w).length = w := by simp [putB]

theorem Number_any (a B : Nat) (l : List UInt8) (n width : Nat) (w : World) (h : WrAt w a B l false) (h1 : 1 ≤ width) (h8 : width ≤ 8) (hn : n < 256 ^ width) (hsz : l.length ≤ 900000) (hB : B ≤ w.heap.size) :
    Calls Try.prog 82 #[.pointer (some ⟨a, 0, none⟩), .int .u64 n, .int .i64 width] w fun e w' => e = .returned (.pointer (some ⟨a, 0, none⟩)) ∧ WrAt w' a B (l ++ putB n width) false ∧ Upd (wrFoot a B) w w' ∧ B ≤ w'.heap.size := by
  have hn64 : n < 18446744073709551616 := by
    have : n < 256 ^ 8 := Nat.lt_of_lt_of_le hn (Nat.pow_le_pow_right (by omega) h8)
    omega
  have HP := hid (fun w => Put_any n width h1 h8 hn64 w)
  have HF := hid (fun w => Fits_yes n width h1 h8 hn w)
  have HW := hid h; have HN := hid hn; have HN64 := hid hn64
  clear h hn hn64
  go_enter Try.func82, Try.ntmps82
  go_wp2_with fail
  refine (HP.out _).mono ?_; rintro e w1 ⟨rfl, hu1⟩
  have HU1 := hid hu1
  clear hu1
  go_wp2_with fail
  refine (HF.out _).mono ?_; rintro e w2 ⟨rfl, rfl⟩
  have h2 : WrAt w1 a B l false := by
    obtain ⟨g1, v, g2, g3⟩ := HW.out
    exact ⟨g1, v, g2.upd HU1.out id, g3.kept (row := none) ⟨HU1.out.os, HU1.out.tape, HU1.out.output, HU1.out.size, fun k hk _ => HU1.out.block k hk id⟩ (by cases v.ownBlock <;> simp)⟩
  have HPU := hid (put_any a B l false true (mkS (putB n width)) w1 h2 (by rw [show (mkS (putB n width)).size = (putB n width).length from rfl, putB_length]; omega) (Nat.le_trans hB HU1.out.size))
  clear h2
  go_wp2_with fail
  refine HPU.out.mono ?_; rintro e w3 ⟨rfl, h3, hu3⟩
  go_wp2_with fail
  go_ret
  have h3' : WrAt w3 a B (l ++ putB n width) false := h3
  exact ⟨rfl, h3', (HU1.out.mono (fun _ _ hk => hk.elim)).trans' hu3, Nat.le_trans hB (Nat.le_trans HU1.out.size hu3.size)⟩

end Go.Proofs.Ytljphijjcagciaa

namespace Go.Proofs.Ytljphijjcagciaa
open Go.RowKit

theorem bs_mkS (l : List UInt8) : bs (mkS l) = l := rfl
theorem bs_append (a b : ByteArray) : bs (a ++ b) = bs a ++ bs b := by
  unfold bs
  rw [ByteArray.data_append, Array.toList_append]

/-- A tag's value. -/
def Tag.val (t : Tag) : Value := .agg #[.int .u8 t.kind, .int .i64 t.logical, .int .u64 t.seq, .int .i64 t.pos, .int .i64 t.len]

theorem wrFoot_ne {a B k : Nat} (h : k < B) (hn : k ≠ a) : ¬ wrFoot a B k := by rintro (h1 | h1) <;> omega

/-- On the way of a tag's bytes: the tag lies at T, the writer behind it. -/
structure TagWr (w : World) (T : Nat) (k l s p n : Nat) (W : World) (b : List UInt8) : Prop where
  wr : WrAt W (T + 1) (T + 2) b false
  sz : T + 2 ≤ W.heap.size
  c0 : W.cell? ⟨T, 0, none⟩ = some (.int .u8 k)
  c1 : W.cell? ⟨T, 1, none⟩ = some (.int .i64 l)
  c2 : W.cell? ⟨T, 2, none⟩ = some (.int .u64 s)
  c3 : W.cell? ⟨T, 3, none⟩ = some (.int .i64 p)
  c4 : W.cell? ⟨T, 4, none⟩ = some (.int .i64 n)
  upd : Upd noBlk w W
  le : w.heap.size ≤ T

theorem number_step {w : World} {T k l s p n : Nat} {W : World} {b : List UInt8} (h : TagWr w T k l s p n W b) (x width : Nat) (h1 : 1 ≤ width) (h8 : width ≤ 8) (hx : x < 256 ^ width) (hb : b.length ≤ 900000) :
    Calls Try.prog 82 #[.pointer (some ⟨T + 1, 0, none⟩), .int .u64 x, .int .i64 width] W fun e w' => e = .returned (.pointer (some ⟨T + 1, 0, none⟩)) ∧ TagWr w T k l s p n w' (b ++ putB x width) := by
  refine (Number_any (T + 1) (T + 2) b x width W h.wr h1 h8 hx hb h.sz).mono ?_
  rintro e w' ⟨rfl, hw, hu, hs⟩
  have hT : T < W.heap.size := by have := h.sz; omega
  have key : w'.heap[T]? = W.heap[T]? := hu.block T hT (wrFoot_ne (by omega) (by omega))
  refine ⟨rfl, hw, hs, (World.cell?_of_block key).trans h.c0, (World.cell?_of_block key).trans h.c1, (World.cell?_of_block key).trans h.c2, (World.cell?_of_block key).trans h.c3, (World.cell?_of_block key).trans h.c4, ?_, h.le⟩
  exact h.upd.trans hu (fun i hi hf => by have := h.le; rcases hf with hf | hf <;> omega)

theorem TagWr.quiet {w : World} {T k l s p n : Nat} {W W' : World} {b : List UInt8} (h : TagWr w T k l s p n W b) (hu : Upd noBlk W W') : TagWr w T k l s p n W' b := by
  obtain ⟨g1, v, g2, g3⟩ := h.wr
  exact ⟨⟨g1, v, g2.upd hu id, g3.kept (row := none) ⟨hu.os, hu.tape, hu.output, hu.size, fun k hk _ => hu.block k hk id⟩ (by cases v.ownBlock <;> simp)⟩, Nat.le_trans h.sz hu.size,
    UW.cell ⟨W', hu⟩ h.c0, UW.cell ⟨W', hu⟩ h.c1, UW.cell ⟨W', hu⟩ h.c2, UW.cell ⟨W', hu⟩ h.c3, UW.cell ⟨W', hu⟩ h.c4, h.upd.trans' hu, h.le⟩

set_option maxHeartbeats 800000 in
theorem bytes_any (k l s p n : Nat) (hk : k < 256) (hl : l < 65536) (hs : s < 18446744073709551616) (hp : p < 256) (hn : n < 256) (w : World) :
    Calls Try.prog 67 #[.agg #[.int .u8 k, .int .i64 l, .int .u64 s, .int .i64 p, .int .i64 n]] w fun e w' => e = .returned (.string (mkS (Tag.bytes ⟨k, l, s, p, n⟩))) ∧ Upd noBlk w w' := by
  have H1 : Hid (∀ W, TagWr w w.heap.size k l s p n W ([]) → Calls Try.prog 82 #[.pointer (some ⟨w.heap.size + 1, 0, none⟩), .int .u64 (k : Int), .int .i64 1] W fun e w' => e = .returned (.pointer (some ⟨w.heap.size + 1, 0, none⟩)) ∧ TagWr w w.heap.size k l s p n w' ([] ++ putB k 1)) := hid (fun W h => number_step h k 1 (by omega) (by omega) (by simpa using hk) (by simp))
  have H2 : Hid (∀ W, TagWr w w.heap.size k l s p n W ([] ++ putB k 1) → Calls Try.prog 82 #[.pointer (some ⟨w.heap.size + 1, 0, none⟩), .int .u64 (l : Int), .int .i64 2] W fun e w' => e = .returned (.pointer (some ⟨w.heap.size + 1, 0, none⟩)) ∧ TagWr w w.heap.size k l s p n w' ([] ++ putB k 1 ++ putB l 2)) := hid (fun W h => number_step h l 2 (by omega) (by omega) (by simpa using hl) (by simp [putB]))
  have H3 : Hid (∀ W, TagWr w w.heap.size k l s p n W ([] ++ putB k 1 ++ putB l 2) → Calls Try.prog 82 #[.pointer (some ⟨w.heap.size + 1, 0, none⟩), .int .u64 (s : Int), .int .i64 8] W fun e w' => e = .returned (.pointer (some ⟨w.heap.size + 1, 0, none⟩)) ∧ TagWr w w.heap.size k l s p n w' ([] ++ putB k 1 ++ putB l 2 ++ putB s 8)) := hid (fun W h => number_step h s 8 (by omega) (by omega) (by simpa using hs) (by simp [putB]))
  have H4 : Hid (∀ W, TagWr w w.heap.size k l s p n W ([] ++ putB k 1 ++ putB l 2 ++ putB s 8) → Calls Try.prog 82 #[.pointer (some ⟨w.heap.size + 1, 0, none⟩), .int .u64 (p : Int), .int .i64 1] W fun e w' => e = .returned (.pointer (some ⟨w.heap.size + 1, 0, none⟩)) ∧ TagWr w w.heap.size k l s p n w' ([] ++ putB k 1 ++ putB l 2 ++ putB s 8 ++ putB p 1)) := hid (fun W h => number_step h p 1 (by omega) (by omega) (by simpa using hp) (by simp [putB]))
  have H5 : Hid (∀ W, TagWr w w.heap.size k l s p n W ([] ++ putB k 1 ++ putB l 2 ++ putB s 8 ++ putB p 1) → Calls Try.prog 82 #[.pointer (some ⟨w.heap.size + 1, 0, none⟩), .int .u64 (n : Int), .int .i64 1] W fun e w' => e = .returned (.pointer (some ⟨w.heap.size + 1, 0, none⟩)) ∧ TagWr w w.heap.size k l s p n w' ([] ++ putB k 1 ++ putB l 2 ++ putB s 8 ++ putB p 1 ++ putB n 1)) := hid (fun W h => number_step h n 1 (by omega) (by omega) (by simpa using hn) (by simp [putB]))
  have HB : Hid (∀ W, TagWr w w.heap.size k l s p n W ([] ++ putB k 1 ++ putB l 2 ++ putB s 8 ++ putB p 1 ++ putB n 1) → Calls Try.prog 83 #[.pointer (some ⟨w.heap.size + 1, 0, none⟩)] W fun e w' => e = .returned (.tuple #[.string (mkS ([] ++ putB k 1 ++ putB l 2 ++ putB s 8 ++ putB p 1 ++ putB n 1)), .int .i64 0]) ∧ TagWr w w.heap.size k l s p n w' ([] ++ putB k 1 ++ putB l 2 ++ putB s 8 ++ putB p 1 ++ putB n 1)) := hid (fun W h => (Bytes_any _ _ _ W h.wr).mono fun e w' ⟨he, hu⟩ => ⟨he, h.quiet hu⟩)
  have HRP := hid (fun W => Repeat_any (mkS [0]) 14 W (by omega) (by simp [mkS_size]))
  have e14 : repS (mkS [0]) (14 : Int).toNat = mkS (List.replicate 14 0) := rfl
  rw [e14] at HRP
  clear e14
  have qk : IntKind.u64.wrap (k : Int) = k := by rw [IntKind.wrap_u64]; omega
  have ql : IntKind.u64.wrap (l : Int) = l := by rw [IntKind.wrap_u64]; omega
  have qp : IntKind.u64.wrap (p : Int) = p := by rw [IntKind.wrap_u64]; omega
  have qn : IntKind.u64.wrap (n : Int) = n := by rw [IntKind.wrap_u64]; omega
  have hW : TagWr w w.heap.size k l s p n ((w.alloc (.cells #[.int .u8 k, .int .i64 l, .int .u64 s, .int .i64 p, .int .i64 n] 36)).alloc (.cells #[.slice none 0 0, .bool false] 139)) [] := by
    refine ⟨⟨by omega, .slice none 0 0, ?_, World.ownsRow_nil _ _ _ _⟩, by simp, by simp [World.cell?_alloc_lt], by simp [World.cell?_alloc_lt], by simp [World.cell?_alloc_lt], by simp [World.cell?_alloc_lt], by simp [World.cell?_alloc_lt], ((Upd.refl _ _).alloc _).alloc _, Nat.le_refl _⟩
    have := Row.new (w.alloc (.cells #[.int .u8 k, .int .i64 l, .int .u64 s, .int .i64 p, .int .i64 n] 36)) [.slice none 0 0, .bool false] 139
    rw [World.size_alloc] at this; exact this
  clear hk hl hs hp hn
  go_enter Try.func67, Try.ntmps67
  go_wp2_with fail
  generalize (w.alloc (.cells #[.int .u8 k, .int .i64 l, .int .u64 s, .int .i64 p, .int .i64 n] 36)).alloc (.cells #[.slice none 0 0, .bool false] 139) = W at hW ⊢
  have hWd : TagWr w w.heap.size k l s p n W.drew [] := ⟨hW.wr, hW.sz, hW.c0, hW.c1, hW.c2, hW.c3, hW.c4, hW.upd.drew, hW.le⟩
  have d0 := hW.c0; have d1 := hW.c1; have d2 := hW.c2
  go_region_held3 (fun w' => w'.cell? ⟨w.heap.size, 0, none⟩ = some (.int .u8 k) ∧ w'.cell? ⟨w.heap.size, 1, none⟩ = some (.int .i64 l) ∧ w'.cell? ⟨w.heap.size, 2, none⟩ = some (.int .u64 s))
    (first | go_keep)
    (first
      | (go_at_call 82; (with_reducible refine (H1.out _ ?_).mono ?_); assumption; rintro e w1 ⟨rfl, hg1⟩; have k0 := hg1.c0; have k1 := hg1.c1; have k2 := hg1.c2; have k3 := hg1.c3; have k4 := hg1.c4)
      | (go_at_call 82; (with_reducible refine (H2.out _ ?_).mono ?_); assumption; rintro e w2 ⟨rfl, hg2⟩; have k0 := hg2.c0; have k1 := hg2.c1; have k2 := hg2.c2; have k3 := hg2.c3; have k4 := hg2.c4)
      | (go_at_call 82; (with_reducible refine (H3.out _ ?_).mono ?_); assumption; rintro e w3 ⟨rfl, hg3⟩; have k0 := hg3.c0; have k1 := hg3.c1; have k2 := hg3.c2; have k3 := hg3.c3; have k4 := hg3.c4))
  go_wp2_with fail
  have hWe : TagWr w w.heap.size k l s p n w3.drew ([] ++ putB k 1 ++ putB l 2 ++ putB s 8) := ⟨hg3.wr, hg3.sz, hg3.c0, hg3.c1, hg3.c2, hg3.c3, hg3.c4, hg3.upd.drew, hg3.le⟩
  clear d0 d1 d2 hW hWd
  go_region_held3 (fun w' => w'.cell? ⟨w.heap.size, 3, none⟩ = some (.int .i64 p) ∧ w'.cell? ⟨w.heap.size, 4, none⟩ = some (.int .i64 n))
    (first | go_keep)
    (first
      | (go_at_call 82; (with_reducible refine (H4.out _ ?_).mono ?_); assumption; rintro e w4 ⟨rfl, hg4⟩; have k0 := hg4.c0; have k1 := hg4.c1; have k2 := hg4.c2; have k3 := hg4.c3; have k4 := hg4.c4)
      | (go_at_call 82; (with_reducible refine (H5.out _ ?_).mono ?_); assumption; rintro e w5 ⟨rfl, hg5⟩; have k0 := hg5.c0; have k1 := hg5.c1; have k2 := hg5.c2; have k3 := hg5.c3; have k4 := hg5.c4)
      | (go_at_call 83; (with_reducible refine (HB.out _ ?_).mono ?_); assumption; rintro e w6 ⟨rfl, hg6⟩; have k0 := hg6.c0; have k1 := hg6.c1; have k2 := hg6.c2; have k3 := hg6.c3; have k4 := hg6.c4))
  have HU6 := hid hg6.upd
  have hsz : (mkS (putB k 1 ++ (putB l 2 ++ (putB s 8 ++ (putB p 1 ++ putB n 1))))).size ≤ 13 := by simp [mkS_size, putB]
  have hz14 : (mkS [0, 0, 0, 0, 0, 0, 0, 0, 0, 0, 0, 0, 0, 0]).size ≤ 14 := by simp [mkS_size]
  clear hg1 hg2 hg3 hg4 hg5 hWe k0 k1 k2 k3 k4
  go_wp2_with fail
  refine (HRP.out _).mono ?_
  rintro e w7 ⟨rfl, hu7⟩
  have HU7 := hid hu7
  clear hu7
  go_wp2_with fail
  go_ret
  refine ⟨?_, HU6.out.trans' HU7.out⟩
  have e : ({ data := #[255] } : ByteArray) ++ mkS (putB k 1 ++ (putB l 2 ++ (putB s 8 ++ (putB p 1 ++ putB n 1)))) ++ mkS [0, 0, 0, 0, 0, 0, 0, 0, 0, 0, 0, 0, 0, 0] = mkS (Tag.bytes ⟨k, l, s, p, n⟩) := by
    refine bs_inj ?_
    rw [bs_append, bs_append, bs_mkS, bs_mkS, bs_mkS]
    simp [bs, Tag.bytes, List.replicate]
  exact congrArg (fun x => Ending.returned (Value.string x)) e

end Go.Proofs.Ytljphijjcagciaa

namespace Go.Proofs.Ytljphijjcagciaa
open Go.RowKit

theorem TagRight_any (t : Tag) (w : World) :
    Calls Try.prog 46 #[t.val] w fun e w' => e = .returned (.bool t.right) ∧ Upd noBlk w w' := by
  obtain ⟨k, l, s, p, n⟩ := t
  unfold Tag.val
  go_enter Try.func46, Try.ntmps46
  go_wp2_with fail
  all_goals
    go_ret
    refine ⟨ret_bool ?_, (Upd.refl _ _).alloc _⟩
    rw [Bool.eq_iff_iff]
    simp [Tag.right]
    omega

theorem sum_any (d off : Nat) (data beside : ByteArray) (h1 : data.size ≤ 100000) (h2 : beside.size ≤ 100000) (w : World) (ht : TabAt w d off) :
    Calls Try.prog 68 #[.pointer (some ⟨d, off, none⟩), .string data, .string beside] w fun e w' => e = .returned (.string (mkS (sumB data beside))) ∧ Upd noBlk w w' := by
  obtain ⟨x0, x1⟩ := crcMore_range (y := 4294967295) ⟨by omega, by omega⟩ (bs data)
  obtain ⟨y0, y1⟩ := crcMore_range ⟨x0, x1⟩ (bs beside)
  have H1 := hid (fun W (h : TabAt W d off) => More_any d off 4294967295 data h1 (by omega) (by omega) W h)
  have H2 := hid (fun W (h : TabAt W d off) => More_any d off _ beside h2 x0 x1 W h)
  have H3 := hid (fun W => Last_any (crcMore (crcMore 4294967295 (bs data)) (bs beside)) W)
  obtain ⟨z0, z1⟩ := bits_u32 .xor 4294967295 (crcMore (crcMore 4294967295 (bs data)) (bs beside))
  have hcr : crcLast (crcMore (crcMore 4294967295 (bs data)) (bs beside)) = crcOf data beside := rfl
  have hcr2 : bits .xor .u32 4294967295 (crcMore (crcMore 4294967295 (bs data)) (bs beside)) = crcOf data beside := rfl
  rw [hcr] at H3
  rw [hcr2] at z0 z1
  obtain ⟨N, hN⟩ : ∃ N : Nat, crcOf data beside = (N : Int) := ⟨(crcOf data beside).toNat, by omega⟩
  have H4 := hid (fun W => Put_any N 4 (by omega) (by omega) (by omega) W)
  have hsum : sumB data beside = putB N 4 := by unfold sumB; rw [hN]; rfl
  rw [hN] at H3 z0 z1
  rw [hsum]
  generalize crcMore 4294967295 (bs data) = X at *
  generalize crcMore X (bs beside) = Y at *
  clear hcr hcr2 hN hsum
  have HT := hid ht; clear ht
  go_enter Try.func68, Try.ntmps68
  go_wp2_with fail
  refine (First_any _).mono ?_; rintro e w1 ⟨rfl, rfl⟩
  go_wp2_with fail
  refine (H1.out _ HT.out).mono ?_; rintro e w1 ⟨rfl, m1, rfl⟩
  go_wp2_with fail
  refine (H2.out (w.drewN m1) HT.out).mono ?_; rintro e w1 ⟨rfl, m2, rfl⟩
  go_wp2_with fail
  refine (H3.out _).mono ?_; rintro e w1 ⟨rfl, rfl⟩
  go_wp2_with fail
  refine (H4.out _).mono ?_; rintro e w1 ⟨rfl, hu⟩
  have HU := hid hu; clear hu
  go_wp2_with fail
  go_ret
  exact ⟨rfl, ((Upd.refl _ _).drewN _).trans' HU.out⟩


theorem Tag.right_iff {t : Tag} : t.right = true ↔ 1 ≤ t.kind ∧ t.kind ≤ 3 ∧ 0 ≤ t.logical ∧ t.logical ≤ 65535 ∧ 1 ≤ t.len ∧ t.len ≤ 255 ∧ 0 ≤ t.pos ∧ t.pos < t.len := by
  simp [Tag.right, and_assoc]
theorem Tag.bytes_length (t : Tag) : t.bytes.length = 28 := by simp [Tag.bytes, putB]

theorem TagBytes_any (t : Tag) (h : t.right = true) (hs : 0 ≤ t.seq ∧ t.seq ≤ 18446744073709551615) (w : World) :
    Calls Try.prog 67 #[t.val] w fun e w' => e = .returned (.string (mkS t.bytes)) ∧ Upd noBlk w w' := by
  obtain ⟨r1, r2, r3, r4, r5, r6, r7, r8⟩ := Tag.right_iff.1 h
  obtain ⟨k, l, s, p, n⟩ := t
  simp only at *
  obtain ⟨k, rfl⟩ : ∃ k' : Nat, k = k' := ⟨k.toNat, by omega⟩
  obtain ⟨l, rfl⟩ : ∃ k' : Nat, l = k' := ⟨l.toNat, by omega⟩
  obtain ⟨s, rfl⟩ : ∃ k' : Nat, s = k' := ⟨s.toNat, by omega⟩
  obtain ⟨p, rfl⟩ : ∃ k' : Nat, p = k' := ⟨p.toNat, by omega⟩
  obtain ⟨n, rfl⟩ : ∃ k' : Nat, n = k' := ⟨n.toNat, by omega⟩
  exact bytes_any k l s p n (by omega) (by omega) (by omega) (by omega) (by omega) w

theorem Upd.tab {w w' : World} {d off : Nat} (hu : Upd noBlk w w') (h : TabAt w d off) : TabAt w' d off := fun j hj => hu.cell0 (h j hj)

theorem Frame_bad (d off : Nat) (t : Tag) (data : ByteArray) (w : World) (h : t.right = false) :
    Calls Try.prog 40 #[.pointer (some ⟨d, off, none⟩), t.val, .string data] w fun e w' => e = .returned (.tuple #[.string (mkS []), .int .i64 2]) ∧ Upd noBlk w w' := by
  have HR := hid (fun w => TagRight_any t w)
  rw [h] at HR
  obtain ⟨k, l, s, p, n⟩ := t
  unfold Tag.val at *
  clear h
  go_enter Try.func40, Try.ntmps40
  go_wp2_with fail
  refine (HR.out _).mono ?_; rintro e w1 ⟨rfl, hu⟩
  have HU := hid hu; clear hu
  go_wp2_with fail
  go_ret2
  exact ⟨rfl, ((Upd.refl _ _).alloc _).trans' HU.out⟩

theorem Frame_good (d off : Nat) (t : Tag) (data : ByteArray) (hd : data.size ≤ 100000) (w : World) (h : t.right = true) (hs : 0 ≤ t.seq ∧ t.seq ≤ 18446744073709551615) (ht : TabAt w d off) :
    Calls Try.prog 40 #[.pointer (some ⟨d, off, none⟩), t.val, .string data] w fun e w' => e = .returned (.tuple #[.string (t.beside data), .int .i64 0]) ∧ Upd noBlk w w' := by
  have HR := hid (fun w => TagRight_any t w)
  rw [h] at HR
  have HB := hid (fun w => TagBytes_any t h hs w)
  have hsz : (mkS t.bytes).size = 28 := by rw [mkS_size, Tag.bytes_length]
  have HSM := hid (fun W (hW : TabAt W d off) => sum_any d off data (mkS t.bytes) hd (by omega) W hW)
  have hss : (mkS (sumB data (mkS t.bytes))).size = 4 := by rw [mkS_size, sumB, putB_length]
  have hbe : t.beside data = mkS t.bytes ++ mkS (sumB data (mkS t.bytes)) := bs_inj (by rw [bs_append]; rfl)
  have HT := hid ht
  generalize mkS (sumB data (mkS t.bytes)) = SS at *
  generalize mkS t.bytes = TB at *
  have HBE := hid hbe
  have z1 : TB.size ≤ 28 := by omega
  have z2 : SS.size ≤ 4 := by omega
  clear hbe h hs ht hsz hss
  obtain ⟨k, l, s, p, n⟩ := t
  unfold Tag.val at *
  go_enter Try.func40, Try.ntmps40
  go_wp2_with fail
  refine (HR.out _).mono ?_; rintro e w1 ⟨rfl, hu⟩
  have e0 : w1.cell? ⟨w.heap.size, 0, none⟩ = some (.int .u8 k) := hu.cell0 (by simp)
  have e1 : w1.cell? ⟨w.heap.size, 1, none⟩ = some (.int .i64 l) := hu.cell0 (by simp)
  have e2 : w1.cell? ⟨w.heap.size, 2, none⟩ = some (.int .u64 s) := hu.cell0 (by simp)
  have e3 : w1.cell? ⟨w.heap.size, 3, none⟩ = some (.int .i64 p) := hu.cell0 (by simp)
  have e4 : w1.cell? ⟨w.heap.size, 4, none⟩ = some (.int .i64 n) := hu.cell0 (by simp)
  have HU := hid (((Upd.refl noBlk w).alloc (.cells #[.int .u8 k, .int .i64 l, .int .u64 s, .int .i64 p, .int .i64 n] 36)).trans' hu); clear hu
  go_wp2_with fail
  refine (HB.out _).mono ?_; rintro e w2 ⟨rfl, hu2⟩
  have HU2 := hid (HU.out.trans' hu2); clear hu2
  go_wp2_with fail
  refine (HSM.out _ (HU2.out.tab HT.out)).mono ?_; rintro e w3 ⟨rfl, hu3⟩
  have HU3 := hid hu3; clear hu3
  go_wp2_with fail
  go_ret2
  exact ⟨by rw [HBE.out]; rfl, HU2.out.trans' HU3.out⟩

end Go.Proofs.Ytljphijjcagciaa

namespace Go.Proofs.Ytljphijjcagciaa
open Go.RowKit

theorem or_add (y : Nat) (b : Nat) (hb : b < 256) : y * 256 ||| b = y * 256 + b := by
  have := Nat.two_pow_add_eq_or_of_lt (i := 8) (b := b) (by simpa using hb) y
  rw [Nat.mul_comm y 256]
  simpa using this.symm

theorem getB_snoc (l : List UInt8) (b : UInt8) : getB (l ++ [b]) = (getB l * 256 + b.toNat) % 18446744073709551616 := by simp [getB]
theorem getB_lt : ∀ (l : List UInt8), getB l < 18446744073709551616 := by
  intro l
  rcases List.eq_nil_or_concat l with rfl | ⟨l', b, rfl⟩
  · simp [getB]
  · rw [List.concat_eq_append, getB_snoc]; omega

theorem Get_any (s : ByteArray) (hs : s.size ≤ 1000000) (w : World) :
    Calls Try.prog 102 #[.string s] w fun e w' => e = .returned (.int .u64 (getB (bs s) : Nat)) ∧ w = w' := by
  go_enter Try.func102, Try.ntmps102
  go_wp2_with fail
  go_loop [3, 7] (fun n i => ∃ k : Nat, k ≤ s.size ∧ i = .int .i64 k ∧ n = .int .u64 (getB ((bs s).take k) : Nat)) (fun _ i => s.size - (intOf i).toNat)
  case atStart => exact ⟨0, by omega, rfl, rfl⟩
  case round =>
    obtain ⟨k, hk, rfl, rfl⟩ := hrel
    by_cases hlt : k < s.size
    · have hl : k < (bs s).length := by rw [bs_len]; exact hlt
      have hsn : (bs s).take (k + 1) = (bs s).take k ++ [s[k]] := by rw [List.take_succ_eq_append_getElem hl]; rfl
      have hnx := getB_snoc ((bs s).take k) s[k]
      rw [← hsn] at hnx
      have hy := getB_lt ((bs s).take k)
      have hb : s[k].toNat < 256 := UInt8.toNat_lt _
      generalize getB ((bs s).take k) = y at *
      have hor : bits .or .u64 (IntKind.u64.wrap ((y : Int) * 256)) (s[k].toNat : Int) = (getB ((bs s).take (k + 1)) : Nat) := by
        rw [IntKind.wrap_u64]
        have e : (y : Int) * 256 % 18446744073709551616 = ((y * 256 % 18446744073709551616 : Nat) : Int) := by omega
        rw [e, bits_or_u64_nat _ _ (Nat.mod_lt _ (by omega)) (by omega), hnx]
        have e2 : y * 256 % 18446744073709551616 = (y % 72057594037927936) * 256 := by omega
        rw [e2, or_add _ _ hb]
        omega
      have HO := hid hor
      clear hsn hnx hor
      go_wp2_with fail
      exact ⟨⟨k + 1, by omega, by go_num, congrArg (Value.int .u64) HO.out⟩, by simp [intOf]; omega⟩
    · go_wp2_with fail
      go_ret
      have e : k = s.size := by omega
      subst e
      exact ⟨by rw [List.take_of_length_le (by rw [bs_len]; omega)]; rfl, rfl⟩


/-- A reader at a has this left. -/
def RdAt (w : World) (a : Nat) (left : ByteArray) (wrong : Bool) : Prop := Row w a 159 [.string left, .bool wrong]
def at1 (a : Nat) (k : Nat) : Prop := k = a

theorem fail_any (a : Nat) (left : ByteArray) (wrong : Bool) (w : World) (h : RdAt w a left wrong) :
    Calls Try.prog 103 #[.pointer (some ⟨a, 0, none⟩)] w fun e w' => e = .returned (.tuple #[]) ∧ RdAt w' a (mkS []) true ∧ Upd (at1 a) w w' := by
  have c0 := h.cell 0; have c1 := h.cell 1
  simp only [List.getElem?_cons_zero, List.getElem?_cons_succ] at c0 c1
  have f0 := h.frozen 0; have f1 := h.frozen 1
  have g := (h.put (cs' := [.string left, .bool true]) 1 (.bool true) rfl).put (cs' := [.string (mkS []), .bool true]) 0 (.string (mkS [])) rfl
  have G := hid g; clear g h
  go_enter Try.func103, Try.ntmps103
  go_wp2_with fail
  go_end0
  exact ⟨rfl, G.out, ((Upd.refl (at1 a) w).setCell (p := ⟨a, 1, none⟩) (.inl (show at1 a a from rfl)) _).setCell (p := ⟨a, 0, none⟩) (.inl (show at1 a a from rfl)) _⟩

/-- As many bytes are there. -/
theorem take_yes (a : Nat) (left : ByteArray) (n : Nat) (hn : n ≤ left.size) (_hs : left.size ≤ 1000000) (w : World) (h : RdAt w a left false) :
    Calls Try.prog 101 #[.pointer (some ⟨a, 0, none⟩), .int .i64 n] w fun e w' => e = .returned (.tuple #[.string (left.extract 0 n), .bool true]) ∧ RdAt w' a (left.extract n left.size) false ∧ Upd (at1 a) w w' := by
  have c0 := h.cell 0; have c1 := h.cell 1
  simp only [List.getElem?_cons_zero, List.getElem?_cons_succ] at c0 c1
  have f0 := h.frozen 0; have f1 := h.frozen 1
  have g := h.put (cs' := [.string (left.extract n left.size), .bool false]) 0 (.string (left.extract n left.size)) rfl
  have G := hid g; clear g h
  go_enter Try.func101, Try.ntmps101
  go_wp2_with fail
  go_ret2
  exact ⟨rfl, G.out, (Upd.refl (at1 a) w).setCell (p := ⟨a, 0, none⟩) (.inl (show at1 a a from rfl)) _⟩

/-- They aren't. -/
theorem take_no (a : Nat) (left : ByteArray) (wrong : Bool) (n : Int) (hn : wrong = true ∨ n < 0 ∨ (left.size : Int) < n) (_hs : left.size ≤ 1000000) (w : World) (h : RdAt w a left wrong) :
    Calls Try.prog 101 #[.pointer (some ⟨a, 0, none⟩), .int .i64 n] w fun e w' => e = .returned (.tuple #[.string (mkS []), .bool false]) ∧ RdAt w' a (mkS []) true ∧ Upd (at1 a) w w' := by
  have c0 := h.cell 0; have c1 := h.cell 1
  simp only [List.getElem?_cons_zero, List.getElem?_cons_succ] at c0 c1
  have HF := hid (fail_any a left wrong w h)
  clear h
  cases wrong
  · have hn' : n < 0 ∨ (left.size : Int) < n := hn.resolve_left (by simp)
    clear hn
    rcases hn' with hn | hn
    all_goals
      go_enter Try.func101, Try.ntmps101
      go_wp2_with (go_at_call 103; refine HF.out.mono ?_; rintro e w1 ⟨rfl, hr, hu⟩; have HR := hid hr; have HU := hid hu; clear hr hu)
      all_goals
        go_ret2
        exact ⟨rfl, HR.out, HU.out⟩
  · clear hn
    go_enter Try.func101, Try.ntmps101
    go_wp2_with fail
    refine HF.out.mono ?_; rintro e w1 ⟨rfl, hr, hu⟩
    have HR := hid hr; have HU := hid hu; clear hr hu
    go_wp2_with fail
    go_ret2
    exact ⟨rfl, HR.out, HU.out⟩


theorem RNumber_yes (a : Nat) (left : ByteArray) (n : Nat) (h1 : 1 ≤ n) (h8 : n ≤ 8) (hn : n ≤ left.size) (hs : left.size ≤ 1000000) (w : World) (h : RdAt w a left false) :
    Calls Try.prog 99 #[.pointer (some ⟨a, 0, none⟩), .int .i64 n] w fun e w' => e = .returned (.int .u64 (getB ((bs left).take n) : Nat)) ∧ RdAt w' a (left.extract n left.size) false ∧ Upd (at1 a) w w' := by
  have HF := hid (fun w => Fits_yes 0 n h1 h8 (Nat.pow_pos (by omega)) w)
  have HT := hid (take_yes a left n hn hs w h)
  have hb : bs (left.extract 0 n) = (bs left).take n := by
    unfold bs
    rw [ByteArray.data_extract]
    simp
  have HG := hid (fun w => Get_any (left.extract 0 n) (by rw [ByteArray.size_extract]; omega) w)
  rw [hb] at HG
  clear h hb
  go_enter Try.func99, Try.ntmps99
  go_wp2_with fail
  refine (HF.out _).mono ?_; rintro e w1 ⟨rfl, rfl⟩
  go_wp2_with fail
  refine HT.out.mono ?_; rintro e w1 ⟨rfl, hr, hu⟩
  have HR := hid hr; have HU := hid hu; clear hr hu
  go_wp2_with fail
  refine (HG.out _).mono ?_; rintro e w2 ⟨rfl, rfl⟩
  go_wp2_with fail
  go_ret
  exact ⟨rfl, HR.out, HU.out⟩

theorem Read_new (s : ByteArray) (w : World) :
    Calls Try.prog 98 #[.string s] w fun e w' => e = .returned (.pointer (some ⟨w.heap.size, 0, none⟩)) ∧ RdAt w' w.heap.size s false ∧ w'.heap.size = w.heap.size + 1 ∧ Upd noBlk w w' := by
  go_enter Try.func98, Try.ntmps98
  go_wp2_with fail
  go_ret
  exact ⟨rfl, Row.new w [.string s, .bool false] _, by simp, (Upd.refl _ _).alloc _⟩

end Go.Proofs.Ytljphijjcagciaa

namespace Go.Proofs.Ytljphijjcagciaa
open Go.RowKit

theorem bs_extract (s : ByteArray) (a b : Nat) : bs (s.extract a b) = ((bs s).drop a).take (b - a) := by
  unfold bs
  rw [ByteArray.data_extract, Array.toList_extract, List.extract_eq_take_drop]
theorem getB_fold : ∀ (l : List UInt8) (n m : Nat), n < 256 ^ m → m + l.length ≤ 8 → l.foldl (fun n b => (n * 256 + b.toNat) % 18446744073709551616) n < 256 ^ (m + l.length)
  | [], n, m, h, _ => h
  | b :: l, n, m, h, h8 => by
    have hb : b.toNat < 256 := UInt8.toNat_lt _
    simp only [List.length_cons] at h8 ⊢
    have := getB_fold l ((n * 256 + b.toNat) % 18446744073709551616) (m + 1) (Nat.lt_of_le_of_lt (Nat.mod_le _ _) (by rw [Nat.pow_succ]; omega)) (by omega)
    rw [show m + (l.length + 1) = m + 1 + l.length by omega]
    exact this
theorem getB_le (l : List UInt8) (h : l.length ≤ 8) : getB l < 256 ^ l.length := by
  have := getB_fold l 0 0 (by simp) (by omega)
  rw [Nat.zero_add] at this
  exact this

theorem read_any (s : ByteArray) (hs : s.size = 32) (w : World) :
    Calls Try.prog 88 #[.string s] w fun e w' => e = .returned (Tag.read (bs s)).val ∧ Upd noBlk w w' := by
  have hlen : (bs s).length = 32 := by rw [bs_len]; exact hs
  have l0 : (s.extract 1 s.size).size = 31 := by rw [ByteArray.size_extract]; omega
  have b0 : bs (s.extract 1 s.size) = (bs s).drop 1 := by rw [bs_extract, List.take_of_length_le (by simp [hlen, hs])]
  generalize hs0 : s.extract 1 s.size = s0 at l0 b0
  have HS0 := hid hs0; clear hs0
  have l1 : (s0.extract 1 s0.size).size = 30 := by rw [ByteArray.size_extract]; omega
  have b1 : bs (s0.extract 1 s0.size) = (bs s).drop 2 := by rw [bs_extract, b0, List.drop_drop, List.take_of_length_le (by simp [hlen, l0])]
  have H1 := hid (fun a W (h : RdAt W a s0 false) => RNumber_yes a s0 1 (by omega) (by omega) (by omega) (by omega) W h)
  generalize s0.extract 1 s0.size = s1 at l1 b1 H1
  have l2 : (s1.extract 2 s1.size).size = 28 := by rw [ByteArray.size_extract]; omega
  have b2 : bs (s1.extract 2 s1.size) = (bs s).drop 4 := by rw [bs_extract, b1, List.drop_drop, List.take_of_length_le (by simp [hlen, l1])]
  have H2 := hid (fun a W (h : RdAt W a s1 false) => RNumber_yes a s1 2 (by omega) (by omega) (by omega) (by omega) W h)
  generalize s1.extract 2 s1.size = s2 at l2 b2 H2
  have l3 : (s2.extract 8 s2.size).size = 20 := by rw [ByteArray.size_extract]; omega
  have b3 : bs (s2.extract 8 s2.size) = (bs s).drop 12 := by rw [bs_extract, b2, List.drop_drop, List.take_of_length_le (by simp [hlen, l2])]
  have H3 := hid (fun a W (h : RdAt W a s2 false) => RNumber_yes a s2 8 (by omega) (by omega) (by omega) (by omega) W h)
  generalize s2.extract 8 s2.size = s3 at l3 b3 H3
  have l4 : (s3.extract 1 s3.size).size = 19 := by rw [ByteArray.size_extract]; omega
  have b4 : bs (s3.extract 1 s3.size) = (bs s).drop 13 := by rw [bs_extract, b3, List.drop_drop, List.take_of_length_le (by simp [hlen, l3])]
  have H4 := hid (fun a W (h : RdAt W a s3 false) => RNumber_yes a s3 1 (by omega) (by omega) (by omega) (by omega) W h)
  generalize s3.extract 1 s3.size = s4 at l4 b4 H4
  have H5 := hid (fun a W (h : RdAt W a s4 false) => RNumber_yes a s4 1 (by omega) (by omega) (by omega) (by omega) W h)
  rw [b0] at H1; rw [b1] at H2; rw [b2] at H3; rw [b3] at H4; rw [b4] at H5
  have m1 := getB_le (((bs s).drop 1).take 1) (by simp [hlen])
  have m2 := getB_le (((bs s).drop 2).take 2) (by simp [hlen])
  have m4 := getB_le (((bs s).drop 12).take 1) (by simp [hlen])
  have m5 := getB_le (((bs s).drop 13).take 1) (by simp [hlen])
  simp only [List.length_take, List.length_drop, hlen] at m1 m2 m4 m5
  have m1' : getB (((bs s).drop 1).take 1) < 256 := m1
  have m2' : getB (((bs s).drop 2).take 2) < 65536 := m2
  have m4' : getB (((bs s).drop 12).take 1) < 256 := m4
  have m5' : getB (((bs s).drop 13).take 1) < 256 := m5
  have hv : (Tag.read (bs s)).val = .agg #[.int .u8 (getB (((bs s).drop 1).take 1) : Nat), .int .i64 (getB (((bs s).drop 2).take 2) : Nat), .int .u64 (getB (((bs s).drop 4).take 8) : Nat), .int .i64 (getB (((bs s).drop 12).take 1) : Nat), .int .i64 (getB (((bs s).drop 13).take 1) : Nat)] := rfl
  rw [hv]
  generalize getB (((bs s).drop 1).take 1) = n1 at *
  generalize getB (((bs s).drop 2).take 2) = n2 at *
  generalize getB (((bs s).drop 4).take 8) = n3 at *
  generalize getB (((bs s).drop 12).take 1) = n4 at *
  generalize getB (((bs s).drop 13).take 1) = n5 at *
  clear m1 m2 m4 m5 b0 b1 b2 b3 b4 l0 l1 l2 l3 l4 hlen hv
  have HRD := hid (fun W => Read_new s0 W)
  have HS := hid hs; clear hs
  have hs1 : (s.size : Int) = 32 := by rw [HS.out]; rfl
  go_enter Try.func88, Try.ntmps88
  go_wp2_with fail
  rw [HS0.out]
  refine (HRD.out _).mono ?_
  rintro e w1 ⟨rfl, hr1, hz1, hu1⟩
  rw [World.size_alloc] at hr1 hz1
  rw [World.size_alloc]
  have R1 := hid ((Row.new w [.int .u8 0, .int .i64 0, .int .u64 0, .int .i64 0, .int .i64 0] 36).upd hu1 id)
  have HU1 := hid (((Upd.refl noBlk w).alloc _).trans' hu1); clear hu1
  have HZ1 := hid hz1; clear hz1
  go_wp2_with fail
  refine (H1.out _ _ hr1).mono ?_
  rintro e w2 ⟨rfl, hr2, hu2⟩
  have R2 := hid (R1.out.upd hu2 (fun e => by have : w.heap.size = w.heap.size + 1 := e; omega))
  have HU2 := hid (HU1.out.trans hu2 (fun i hi hk => by have : i = w.heap.size + 1 := hk; omega)); have HX2 := hid hu2; clear hu2 hr1
  go_wp2_with fail
  refine (H2.out _ _ hr2).mono ?_
  rintro e w3 ⟨rfl, hr3, hu3⟩
  have R3 := hid (R2.out.upd hu3 (fun e => by have : w.heap.size = w.heap.size + 1 := e; omega))
  have HU3 := hid (HU2.out.trans hu3 (fun i hi hk => by have : i = w.heap.size + 1 := hk; omega)); have HX3 := hid hu3; clear hu3 hr2
  go_wp2_with fail
  refine (H3.out _ _ hr3).mono ?_
  rintro e w4 ⟨rfl, hr4, hu4⟩
  have R4 := hid (R3.out.upd hu4 (fun e => by have : w.heap.size = w.heap.size + 1 := e; omega))
  have HU4 := hid (HU3.out.trans hu4 (fun i hi hk => by have : i = w.heap.size + 1 := hk; omega)); have HX4 := hid hu4; clear hu4 hr3
  have z4 : w.heap.size + 2 ≤ w4.heap.size := by have := HZ1.out; have := HX2.out.size; have := HX3.out.size; have := HX4.out.size; omega
  have r5 : RdAt (w4.alloc (.cells #[.int .u8 n1, .int .i64 n2, .int .u64 n3, .int .i64 0, .int .i64 0] 36)) (w.heap.size + 1) s3 false := hr4.alloc _
  clear hr4
  go_wp2_with fail
  refine (H4.out _ _ r5).mono ?_
  rintro e w5 ⟨rfl, hr5, hu5⟩
  have T5 : Row w5 w4.heap.size 36 [.int .u8 n1, .int .i64 n2, .int .u64 n3, .int .i64 0, .int .i64 0] := (Row.new w4 [.int .u8 n1, .int .i64 n2, .int .u64 n3, .int .i64 0, .int .i64 0] _).upd hu5 (fun e => by have : w4.heap.size = w.heap.size + 1 := e; omega)
  have R5 := hid ((R4.out.alloc _).upd hu5 (fun e => by have : w.heap.size = w.heap.size + 1 := e; omega))
  have HU5 := hid (((HU4.out.alloc (.cells #[.int .u8 n1, .int .i64 n2, .int .u64 n3, .int .i64 0, .int .i64 0] 36))).trans hu5 (fun i hi hk => by have : i = w.heap.size + 1 := hk; omega)); have z5 := hu5.size; clear hu5 r5
  rw [World.size_alloc] at z5
  have HT5 := hid T5; clear T5
  go_wp2_with fail
  refine (H5.out _ _ hr5).mono ?_
  rintro e w6 ⟨rfl, hr6, hu6⟩
  have T6 := HT5.out.upd hu6 (fun e => by have : w4.heap.size = w.heap.size + 1 := e; omega)
  have hres := R5.out.upd hu6 (fun e => by have : w.heap.size = w.heap.size + 1 := e; omega)
  have HU6 := hid (HU5.out.trans hu6 (fun i hi hk => by have : i = w.heap.size + 1 := hk; omega)); have z6 := hu6.size; clear hu6 hr5 hr6
  have t0 := T6.cell 0; have t1 := T6.cell 1; have t2 := T6.cell 2; have t3 := T6.cell 3; have t4 := T6.cell 4
  simp only [List.getElem?_cons_zero, List.getElem?_cons_succ] at t0 t1 t2 t3 t4
  have f3 := T6.frozen 3; have f4 := T6.frozen 4
  have q0 := hres.cell 0; have q1 := hres.cell 1; have q2 := hres.cell 2; have q3 := hres.cell 3; have q4 := hres.cell 4
  simp only [List.getElem?_cons_zero, List.getElem?_cons_succ] at q0 q1 q2 q3 q4
  have p0 := hres.frozen 0; have p1 := hres.frozen 1; have p2 := hres.frozen 2; have p3 := hres.frozen 3; have p4 := hres.frozen 4
  have hn1 : w.heap.size ≠ w4.heap.size := by omega
  have hn2 : w4.heap.size ≠ w.heap.size := by omega
  clear T6 hres
  go_wp2_with fail
  refine bodyPost_ret (v := .agg #[.int .u8 n1, .int .i64 n2, .int .u64 n3, .int .i64 n4, .int .i64 n5]) (by simp [results, Try.results88, go_sem, q0, q1, q2, q3, q4]) rfl ⟨rfl, ?_⟩
  exact ((((((HU6.out.setCell (.inr (by show w.heap.size ≤ w4.heap.size; omega)) _).setCell (.inr (by show w.heap.size ≤ w4.heap.size; omega)) _).setCell (.inr (Nat.le_refl _)) _).setCell (.inr (Nat.le_refl _)) _).setCell (.inr (Nat.le_refl _)) _).setCell (.inr (Nat.le_refl _)) _).setCell (.inr (Nat.le_refl _)) _

end Go.Proofs.Ytljphijjcagciaa

namespace Go.Proofs.Ytljphijjcagciaa
open Go.RowKit

theorem Blank_any (data beside : ByteArray) (h1 : data.size ≤ 10000) (h2 : beside.size ≤ 10000) (w : World) :
    Calls Try.prog 44 #[.string data, .string beside] w fun e w' => e = .returned (.bool (allFF (data ++ beside))) ∧ Upd noBlk w w' := by
  have hsz : (data ++ beside).size = data.size + beside.size := ByteArray.size_append
  have HP := hid (fun W => Repeat_any (mkS [255]) ((data.size : Int) + (beside.size : Int)) W (by omega) (by rw [show (mkS [255]).size = 1 from rfl]; omega))
  rw [show ((data.size : Int) + (beside.size : Int)).toNat = (data ++ beside).size by omega] at HP
  have hfin : ((data ++ beside).toList == (repS (mkS [255]) (data.size + beside.size)).toList) = allFF (data ++ beside) := by
    rw [← hsz]
    rw [Bool.eq_iff_iff]
    unfold allFF
    rw [decide_eq_true_eq, beq_iff_eq]
    exact ⟨toList_inj, fun h => by rw [← h]⟩
  have HF := hid hfin
  clear hfin hsz
  go_enter Try.func44, Try.ntmps44
  go_wp2_with fail
  refine (HP.out _).mono ?_; rintro e w1 ⟨rfl, hu⟩
  have HU := hid hu; clear hu
  go_wp2_with fail
  go_ret
  exact ⟨ret_bool HF.out, HU.out⟩

theorem HasPrefix_ff (s : ByteArray) (hs : s.size = 32) (w : World) :
    Calls Try.prog 54 #[.string s, .string (mkS [255])] w fun e w' => e = .returned (.bool (decide ((bs s).take 1 = [255]))) ∧ w = w' := by
  have hb : ((s.extract 0 1).toList == (mkS [255]).toList) = decide ((bs s).take 1 = [255]) := by
    rw [toList_bs, toList_bs, bs_extract, bs_mkS, Bool.eq_iff_iff]
    simp
  have HB := hid hb
  have h2 : (mkS [255]).size = 1 := rfl
  have hs1 : (1 : Int) ≤ (s.size : Int) := by omega
  clear hb hs
  go_enter Try.func54, Try.ntmps54
  go_wp2
  go_ret
  exact ⟨ret_bool HB.out, rfl⟩

theorem Factory_any (s : ByteArray) (hs : s.size = 32) (w : World) :
    Calls Try.prog 73 #[.string s] w fun e w' => e = .returned (.bool (factoryB s)) ∧ w = w' := by
  have HP := hid (fun W => HasPrefix_ff s hs W)
  have e : factoryB s = !decide ((bs s).take 1 = [255]) := rfl
  rw [e]
  have hs1 : (s.size : Int) = 32 := by omega
  generalize decide ((bs s).take 1 = [255]) = b at HP ⊢
  clear hs e
  go_enter Try.func73, Try.ntmps73
  go_wp2_with fail
  refine (HP.out _).mono ?_; rintro e w1 ⟨rfl, rfl⟩
  go_wp2_with fail
  go_ret
  exact ⟨rfl, rfl⟩

theorem Tag.read_seq (l : List UInt8) : 0 ≤ (Tag.read l).seq ∧ (Tag.read l).seq ≤ 18446744073709551615 := by
  have := getB_lt ((l.drop 4).take 8)
  show 0 ≤ ((getB ((l.drop 4).take 8) : Nat) : Int) ∧ ((getB ((l.drop 4).take 8) : Nat) : Int) ≤ 18446744073709551615
  omega

theorem Parse_any (d off : Nat) (data beside : ByteArray) (hd : data.size ≤ 100000) (hb : beside.size = 32) (w : World) (ht : TabAt w d off) :
    Calls Try.prog 72 #[.pointer (some ⟨d, off, none⟩), .string data, .string beside] w fun e w' => e = .returned (.tuple #[(Tag.parse data beside).1.val, .int .i64 (Tag.parse data beside).2]) ∧ Upd noBlk w w' := by
  have HRD := hid (fun W => read_any beside hb W)
  have HR := hid (fun W => TagRight_any (Tag.read (bs beside)) W)
  have hseq := Tag.read_seq (bs beside)
  have HB := hid (fun (h : (Tag.read (bs beside)).right = true) W => TagBytes_any (Tag.read (bs beside)) h hseq W)
  have hbz : (beside.size : Int) = 32 := by omega
  have hlen : (bs beside).length = 32 := by rw [bs_len]; exact hb
  have h28 : beside.extract 0 28 = mkS ((bs beside).take 28) := bs_inj (by rw [bs_extract, bs_mkS]; rfl)
  have HSM := hid (fun W (hW : TabAt W d off) => sum_any d off data (beside.extract 0 28) hd (by rw [ByteArray.size_extract]; omega) W hW)
  have hc1 : ((mkS (Tag.read (bs beside)).bytes).toList == (beside.extract 0 28).toList) = !decide ((Tag.read (bs beside)).bytes ≠ (bs beside).take 28) := by
    rw [h28, toList_bs, toList_bs, bs_mkS, bs_mkS, Bool.eq_iff_iff]; simp
  have hc2 : ((mkS (sumB data (beside.extract 0 28))).toList == (beside.extract 28 beside.size).toList) = !decide (sumB data (mkS ((bs beside).take 28)) ≠ (bs beside).drop 28) := by
    rw [← h28, toList_bs, toList_bs, bs_mkS, bs_extract, List.take_of_length_le (by simp [hlen]; omega), Bool.eq_iff_iff]; simp
  have hP : Tag.parse data beside = if (!(Tag.read (bs beside)).right || decide ((Tag.read (bs beside)).bytes ≠ (bs beside).take 28)) = true then (Tag.none, 4) else if decide (sumB data (mkS ((bs beside).take 28)) ≠ (bs beside).drop 28) = true then (Tag.none, 5) else (Tag.read (bs beside), 0) := by
    unfold Tag.parse; simp only [decide_eq_true_eq]
  generalize decide (sumB data (mkS ((bs beside).take 28)) ≠ (bs beside).drop 28) = q2 at hc2 hP
  generalize decide ((Tag.read (bs beside)).bytes ≠ (bs beside).take 28) = q1 at hc1 hP
  generalize mkS (Tag.read (bs beside)).bytes = TB at hc1 HB
  generalize mkS (sumB data (beside.extract 0 28)) = TS at hc2 HSM
  generalize (Tag.read (bs beside)).right = r at HR HB hP
  generalize Tag.read (bs beside) = t at HRD HR HB hP
  generalize Tag.parse data beside = pr at hP ⊢
  obtain ⟨k, l, s, p, n⟩ := t
  have HT := hid ht
  have HE := hid hP
  unfold Tag.val at HRD HR HB ⊢
  dsimp only at HRD HR HB
  have hz : (28 : Int) ≤ (beside.size : Int) := by omega
  clear hseq hb hlen h28 ht hP
  go_enter Try.func72, Try.ntmps72
  go_wp2_with fail
  have hW1 : Row (w.alloc (.cells #[.int .u8 0, .int .i64 0, .int .u64 0, .int .i64 0, .int .i64 0] 36)) w.heap.size 36 [.int .u8 0, .int .i64 0, .int .u64 0, .int .i64 0, .int .i64 0] := Row.new w _ _
  have hW2 : Upd noBlk w (w.alloc (.cells #[.int .u8 0, .int .i64 0, .int .u64 0, .int .i64 0, .int .i64 0] 36)) := (Upd.refl _ _).alloc _
  generalize w.alloc (.cells #[.int .u8 0, .int .i64 0, .int .u64 0, .int .i64 0, .int .i64 0] 36) = W at hW1 hW2 ⊢
  have HW1 := hid hW1; have HW2 := hid hW2; clear hW1 hW2
  go_region_with (go_at_call 88; refine (HRD.out _).mono ?_; rintro e w1 ⟨rfl, hu⟩; (first | (have hrow : Row w1 W.heap.size 36 [.int .u8 0, .int .i64 0, .int .u64 0, .int .i64 0, .int .i64 0] := Row.upd (S := noBlk) (show Row ((W.alloc (.cells (List.toArray [.int .u8 0, .int .i64 0, .int .u64 0, .int .i64 0, .int .i64 0]) 36)).drew) W.heap.size 36 [.int .u8 0, .int .i64 0, .int .u64 0, .int .i64 0, .int .i64 0] from Row.new W _ _) hu id; have e0 := hrow.cell 0; have e1 := hrow.cell 1; have e2 := hrow.cell 2; have e3 := hrow.cell 3; have e4 := hrow.cell 4; simp only [List.getElem?_cons_zero, List.getElem?_cons_succ] at e0 e1 e2 e3 e4; have f0 := hrow.frozen 0; have f1 := hrow.frozen 1; have f2 := hrow.frozen 2; have f3 := hrow.frozen 3; have f4 := hrow.frozen 4) | skip))
  all_goals (
    have hTop : w.heap.size < W.heap.size := HW1.out.lt
    first
    | (have hB : Row (w1.alloc (.cells #[.int .u8 k, .int .i64 l, .int .u64 s, .int .i64 p, .int .i64 n] 36)) w1.heap.size 36 [.int .u8 k, .int .i64 l, .int .u64 s, .int .i64 p, .int .i64 n] := Row.new w1 _ _
       have hA : Row (w1.alloc (.cells #[.int .u8 k, .int .i64 l, .int .u64 s, .int .i64 p, .int .i64 n] 36)) w.heap.size 36 [.int .u8 0, .int .i64 0, .int .u64 0, .int .i64 0, .int .i64 0] := (HW1.out.drew.upd hu id).alloc _
       have hU : Upd noBlk w (w1.alloc (.cells #[.int .u8 k, .int .i64 l, .int .u64 s, .int .i64 p, .int .i64 n] 36)) := (HW2.out.drew.trans' hu).alloc _
       have hne : w1.heap.size ≠ w.heap.size := by have := hu.size; have : W.heap.size ≤ w1.heap.size := this; omega
       generalize w1.alloc (.cells #[.int .u8 k, .int .i64 l, .int .u64 s, .int .i64 p, .int .i64 n] 36) = V at hB hA hU ⊢
       generalize w1.heap.size = B at hB hne ⊢)
    | (have hB : Row (((((w1.setCell ⟨W.heap.size, 0, none⟩ (.int .u8 k)).setCell ⟨W.heap.size, 1, none⟩ (.int .i64 l)).setCell ⟨W.heap.size, 2, none⟩ (.int .u64 s)).setCell ⟨W.heap.size, 3, none⟩ (.int .i64 p)).setCell ⟨W.heap.size, 4, none⟩ (.int .i64 n)) W.heap.size 36 [.int .u8 k, .int .i64 l, .int .u64 s, .int .i64 p, .int .i64 n] := ((((hrow.set 0 _).set 1 _).set 2 _).set 3 _).set 4 _
       have hne : W.heap.size ≠ w.heap.size := by omega
       have hu' : Upd noBlk W w1 := (((Upd.refl noBlk W).alloc (.cells #[.int .u8 0, .int .i64 0, .int .u64 0, .int .i64 0, .int .i64 0] 36)).drew.trans' hu)
       have hA : Row (((((w1.setCell ⟨W.heap.size, 0, none⟩ (.int .u8 k)).setCell ⟨W.heap.size, 1, none⟩ (.int .i64 l)).setCell ⟨W.heap.size, 2, none⟩ (.int .u64 s)).setCell ⟨W.heap.size, 3, none⟩ (.int .i64 p)).setCell ⟨W.heap.size, 4, none⟩ (.int .i64 n)) w.heap.size 36 [.int .u8 0, .int .i64 0, .int .u64 0, .int .i64 0, .int .i64 0] := (((((HW1.out.upd (S := noBlk) hu' id).far hne.symm _).far hne.symm _).far hne.symm _).far hne.symm _).far hne.symm _
       have hU : Upd noBlk w (((((w1.setCell ⟨W.heap.size, 0, none⟩ (.int .u8 k)).setCell ⟨W.heap.size, 1, none⟩ (.int .i64 l)).setCell ⟨W.heap.size, 2, none⟩ (.int .u64 s)).setCell ⟨W.heap.size, 3, none⟩ (.int .i64 p)).setCell ⟨W.heap.size, 4, none⟩ (.int .i64 n)) := (((((HW2.out.trans' hu').setCell (.inr (Nat.le_of_lt hTop)) _).setCell (.inr (Nat.le_of_lt hTop)) _).setCell (.inr (Nat.le_of_lt hTop)) _).setCell (.inr (Nat.le_of_lt hTop)) _).setCell (.inr (Nat.le_of_lt hTop)) _
       generalize ((((w1.setCell ⟨W.heap.size, 0, none⟩ (.int .u8 k)).setCell ⟨W.heap.size, 1, none⟩ (.int .i64 l)).setCell ⟨W.heap.size, 2, none⟩ (.int .u64 s)).setCell ⟨W.heap.size, 3, none⟩ (.int .i64 p)).setCell ⟨W.heap.size, 4, none⟩ (.int .i64 n) = V at hB hA hU ⊢
       clear hrow e0 e1 e2 e3 e4 f0 f1 f2 f3 f4
       generalize W.heap.size = B at hB hne ⊢)
    have HA := hid hA; have HBw := hid hB; have HU := hid hU; have HN := hid hne
    clear hA hB hU hne hu
    have e0 : V.cell? ⟨B, 0, none⟩ = some (.int .u8 k) := HBw.out.cell 0
    have e1 : V.cell? ⟨B, 1, none⟩ = some (.int .i64 l) := HBw.out.cell 1
    have e2 : V.cell? ⟨B, 2, none⟩ = some (.int .u64 s) := HBw.out.cell 2
    have e3 : V.cell? ⟨B, 3, none⟩ = some (.int .i64 p) := HBw.out.cell 3
    have e4 : V.cell? ⟨B, 4, none⟩ = some (.int .i64 n) := HBw.out.cell 4
    go_wp2_with fail
    refine (HR.out _).mono ?_; rintro e w2 ⟨rfl, hu2⟩
    have HA2 := hid (HA.out.upd hu2 id); have HB2 := hid (HBw.out.upd hu2 id); have HU2 := hid (HU.out.trans' hu2)
    clear e0 e1 e2 e3 e4 hu2
    cases r
    · have hn1 : w.heap.size ≠ B := fun h => HN.out h.symm
      have hn2 : B ≠ w.heap.size := HN.out
      have a0 : w2.cell? ⟨w.heap.size, 0, none⟩ = some (.int .u8 0) := HA2.out.cell 0
      have a1 : w2.cell? ⟨w.heap.size, 1, none⟩ = some (.int .i64 0) := HA2.out.cell 1
      have a2 : w2.cell? ⟨w.heap.size, 2, none⟩ = some (.int .u64 0) := HA2.out.cell 2
      have a3 : w2.cell? ⟨w.heap.size, 3, none⟩ = some (.int .i64 0) := HA2.out.cell 3
      have a4 : w2.cell? ⟨w.heap.size, 4, none⟩ = some (.int .i64 0) := HA2.out.cell 4
      have af0 : w2.frozen? ⟨w.heap.size, 0, none⟩ = false := HA2.out.frozen 0
      have af1 : w2.frozen? ⟨w.heap.size, 1, none⟩ = false := HA2.out.frozen 1
      have af2 : w2.frozen? ⟨w.heap.size, 2, none⟩ = false := HA2.out.frozen 2
      have af3 : w2.frozen? ⟨w.heap.size, 3, none⟩ = false := HA2.out.frozen 3
      have af4 : w2.frozen? ⟨w.heap.size, 4, none⟩ = false := HA2.out.frozen 4
      have b0 : w2.cell? ⟨B, 0, none⟩ = some (.int .u8 k) := HB2.out.cell 0
      have b1 : w2.cell? ⟨B, 1, none⟩ = some (.int .i64 l) := HB2.out.cell 1
      have b2 : w2.cell? ⟨B, 2, none⟩ = some (.int .u64 s) := HB2.out.cell 2
      have b3 : w2.cell? ⟨B, 3, none⟩ = some (.int .i64 p) := HB2.out.cell 3
      have b4 : w2.cell? ⟨B, 4, none⟩ = some (.int .i64 n) := HB2.out.cell 4
      go_wp2_with fail
      refine bodyPost_ret (v := .tuple #[.agg #[.int .u8 0, .int .i64 0, .int .u64 0, .int .i64 0, .int .i64 0], .int .i64 4]) (by simp [results, Try.results72, go_sem, a0, a1, a2, a3, a4]) rfl ⟨by rw [HE.out]; rfl, ?_⟩
      exact (((((HU2.out.setCell (.inr (Nat.le_refl _)) _).setCell (.inr (Nat.le_refl _)) _).setCell (.inr (Nat.le_refl _)) _).setCell (.inr (Nat.le_refl _)) _).setCell (.inr (Nat.le_refl _)) _)
    · have hn1 : w.heap.size ≠ B := fun h => HN.out h.symm
      have hn2 : B ≠ w.heap.size := HN.out
      have b0 : w2.cell? ⟨B, 0, none⟩ = some (.int .u8 k) := HB2.out.cell 0
      have b1 : w2.cell? ⟨B, 1, none⟩ = some (.int .i64 l) := HB2.out.cell 1
      have b2 : w2.cell? ⟨B, 2, none⟩ = some (.int .u64 s) := HB2.out.cell 2
      have b3 : w2.cell? ⟨B, 3, none⟩ = some (.int .i64 p) := HB2.out.cell 3
      have b4 : w2.cell? ⟨B, 4, none⟩ = some (.int .i64 n) := HB2.out.cell 4
      go_wp2_with fail
      refine (HB.out trivial _).mono ?_; rintro e w3 ⟨rfl, hu3⟩
      have HA3 := hid (HA2.out.upd hu3 id); have HB3 := hid (HB2.out.upd hu3 id); have HU3 := hid (HU2.out.trans' hu3)
      clear b0 b1 b2 b3 b4 hu3
      have a0 : w3.cell? ⟨w.heap.size, 0, none⟩ = some (.int .u8 0) := HA3.out.cell 0
      have a1 : w3.cell? ⟨w.heap.size, 1, none⟩ = some (.int .i64 0) := HA3.out.cell 1
      have a2 : w3.cell? ⟨w.heap.size, 2, none⟩ = some (.int .u64 0) := HA3.out.cell 2
      have a3 : w3.cell? ⟨w.heap.size, 3, none⟩ = some (.int .i64 0) := HA3.out.cell 3
      have a4 : w3.cell? ⟨w.heap.size, 4, none⟩ = some (.int .i64 0) := HA3.out.cell 4
      have af0 : w3.frozen? ⟨w.heap.size, 0, none⟩ = false := HA3.out.frozen 0
      have af1 : w3.frozen? ⟨w.heap.size, 1, none⟩ = false := HA3.out.frozen 1
      have af2 : w3.frozen? ⟨w.heap.size, 2, none⟩ = false := HA3.out.frozen 2
      have af3 : w3.frozen? ⟨w.heap.size, 3, none⟩ = false := HA3.out.frozen 3
      have af4 : w3.frozen? ⟨w.heap.size, 4, none⟩ = false := HA3.out.frozen 4
      have b0 : w3.cell? ⟨B, 0, none⟩ = some (.int .u8 k) := HB3.out.cell 0
      have b1 : w3.cell? ⟨B, 1, none⟩ = some (.int .i64 l) := HB3.out.cell 1
      have b2 : w3.cell? ⟨B, 2, none⟩ = some (.int .u64 s) := HB3.out.cell 2
      have b3 : w3.cell? ⟨B, 3, none⟩ = some (.int .i64 p) := HB3.out.cell 3
      have b4 : w3.cell? ⟨B, 4, none⟩ = some (.int .i64 n) := HB3.out.cell 4
      cases q1
      · go_wp2_with fail
        have HS := hid (fun n : UW w3 => UW.call (HSM.out n.w (n.upd.tab (HU3.out.tab HT.out))))
        clear a0 a1 a2 a3 a4 af0 af1 af2 af3 af4 b0 b1 b2 b3 b4
        refine wp_region_upd (by kernel_rfl) (by kernel_rfl) ?_
        repeat (go_big_quiet_step (exact HS.out _))
        refine wpQuiet_nil ?_
        rintro _ ⟨nq, rfl⟩
        have HA4 := hid (HA3.out.upd nq.upd id); have HB4 := hid (HB3.out.upd nq.upd id); have HU4 := hid (HU3.out.trans' nq.upd)
        have a0 : nq.w.cell? ⟨w.heap.size, 0, none⟩ = some (.int .u8 0) := HA4.out.cell 0
        have a1 : nq.w.cell? ⟨w.heap.size, 1, none⟩ = some (.int .i64 0) := HA4.out.cell 1
        have a2 : nq.w.cell? ⟨w.heap.size, 2, none⟩ = some (.int .u64 0) := HA4.out.cell 2
        have a3 : nq.w.cell? ⟨w.heap.size, 3, none⟩ = some (.int .i64 0) := HA4.out.cell 3
        have a4 : nq.w.cell? ⟨w.heap.size, 4, none⟩ = some (.int .i64 0) := HA4.out.cell 4
        have af0 : nq.w.frozen? ⟨w.heap.size, 0, none⟩ = false := HA4.out.frozen 0
        have af1 : nq.w.frozen? ⟨w.heap.size, 1, none⟩ = false := HA4.out.frozen 1
        have af2 : nq.w.frozen? ⟨w.heap.size, 2, none⟩ = false := HA4.out.frozen 2
        have af3 : nq.w.frozen? ⟨w.heap.size, 3, none⟩ = false := HA4.out.frozen 3
        have af4 : nq.w.frozen? ⟨w.heap.size, 4, none⟩ = false := HA4.out.frozen 4
        have b0 : nq.w.cell? ⟨B, 0, none⟩ = some (.int .u8 k) := HB4.out.cell 0
        have b1 : nq.w.cell? ⟨B, 1, none⟩ = some (.int .i64 l) := HB4.out.cell 1
        have b2 : nq.w.cell? ⟨B, 2, none⟩ = some (.int .u64 s) := HB4.out.cell 2
        have b3 : nq.w.cell? ⟨B, 3, none⟩ = some (.int .i64 p) := HB4.out.cell 3
        have b4 : nq.w.cell? ⟨B, 4, none⟩ = some (.int .i64 n) := HB4.out.cell 4
        cases q2
        · go_wp2_with fail
          refine bodyPost_ret (v := .tuple #[.agg #[.int .u8 k, .int .i64 l, .int .u64 s, .int .i64 p, .int .i64 n], .int .i64 0]) (by simp [results, Try.results72, go_sem, a0, a1, a2, a3, a4]) rfl ⟨by rw [HE.out]; rfl, ?_⟩
          exact (((((HU4.out.setCell (.inr (Nat.le_refl _)) _).setCell (.inr (Nat.le_refl _)) _).setCell (.inr (Nat.le_refl _)) _).setCell (.inr (Nat.le_refl _)) _).setCell (.inr (Nat.le_refl _)) _)
        · go_wp2_with fail
          refine bodyPost_ret (v := .tuple #[.agg #[.int .u8 0, .int .i64 0, .int .u64 0, .int .i64 0, .int .i64 0], .int .i64 5]) (by simp [results, Try.results72, go_sem, a0, a1, a2, a3, a4]) rfl ⟨by rw [HE.out]; rfl, ?_⟩
          exact (((((HU4.out.setCell (.inr (Nat.le_refl _)) _).setCell (.inr (Nat.le_refl _)) _).setCell (.inr (Nat.le_refl _)) _).setCell (.inr (Nat.le_refl _)) _).setCell (.inr (Nat.le_refl _)) _)
      · go_wp2_with fail
        refine bodyPost_ret (v := .tuple #[.agg #[.int .u8 0, .int .i64 0, .int .u64 0, .int .i64 0, .int .i64 0], .int .i64 4]) (by simp [results, Try.results72, go_sem, a0, a1, a2, a3, a4]) rfl ⟨by rw [HE.out]; rfl, ?_⟩
        exact (((((HU3.out.setCell (.inr (Nat.le_refl _)) _).setCell (.inr (Nat.le_refl _)) _).setCell (.inr (Nat.le_refl _)) _).setCell (.inr (Nat.le_refl _)) _).setCell (.inr (Nat.le_refl _)) _))

end Go.Proofs.Ytljphijjcagciaa
