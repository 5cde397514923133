/-
  What the program calls of Go's library.
  The walks over what a page's bytes are.
  The walks over a chip's Read and Program.
  The walk over a chip's Program.
  The walk over a chip's Program, where it is asked rightly, or sinned.
-/
import Derived.Test.YtljphijjcagciaaShelf
import Derived.Test.YtljphijjcagciaaCore
import Derived.Test.YtljphijjcagciaaNandS
namespace Go.Proofs.Ytljphijjcagciaa
open Go.RowKit

theorem repL_lib (l : List UInt8) : ∀ c, Lib.repeatL l c = repL l c
  | 0 => rfl
  | c + 1 => by rw [Lib.repeatL, repL, repL_lib l c]
theorem Repeat_any (s : ByteArray) (n : Int) (w : World) (h0 : 0 ≤ n) (h1 : (s.size : Int) * n ≤ 100000000) (h2 : n ≤ 9223372036854775807 := by omega) :
    Calls Try.prog 32 #[.string s, .int .i64 n] w fun e w' => e = .returned (.string (repS s n.toNat)) ∧ Upd noBlk w w' := by
  obtain ⟨c, rfl⟩ : ∃ c : Nat, n = c := ⟨n.toNat, by omega⟩
  have hb : s.size * c ≤ 140737488355328 := by
    have h3 : ((s.size * c : Nat) : Int) ≤ 100000000 := by rw [Int.natCast_mul]; exact h1
    omega
  refine (Try.strings_Repeat s c w (by omega) hb).mono ?_
  rintro e w' ⟨rfl, hw⟩
  refine ⟨?_, Upd.of_below hw _⟩
  rw [repL_lib, Int.toNat_natCast]; rfl

end Go.Proofs.Ytljphijjcagciaa

namespace Go.Proofs.Ytljphijjcagciaa
open Go.RowKit

theorem Upd.cell0 {w w' : World} (h : Upd noBlk w w') {a : Addr} {v : Value} (hc : w.cell? a = some v) : w'.cell? a = some v := UW.cell ⟨w', h⟩ hc

instance (w : World) : Nonempty (UW w) := ⟨⟨w, Upd.refl _ _⟩⟩

theorem mkS_size (l : List UInt8) : (mkS l).size = l.length := rfl
theorem repL_length (l : List UInt8) : ∀ n, (repL l n).length = n * l.length
  | 0 => by simp [repL]
  | n + 1 => by simp [repL, repL_length l n, Nat.succ_mul]; omega
theorem bs_length (s : ByteArray) : (bs s).length = s.size := by cases s; simp [bs, ByteArray.size]
theorem repS_size (s : ByteArray) (n : Nat) : (repS s n).size = n * s.size := by simp [repS, mkS_size, repL_length, bs_length]
theorem toList_bs (s : ByteArray) : s.toList = bs s := ByteArray.toList_eq s
theorem bs_inj {s t : ByteArray} (h : bs s = bs t) : s = t := by
  cases s; cases t; simp [bs] at h; simp [h]
theorem toList_inj {s t : ByteArray} (h : s.toList = t.toList) : s = t := bs_inj (by rw [← toList_bs, ← toList_bs, h])
theorem toList_nil {s : ByteArray} (h : s.size = 0) : s.toList = [] := by
  rw [toList_bs]; exact List.length_eq_zero_iff.1 (by rw [bs_length]; exact h)
theorem Chip.ff_size (c : Chip) : c.ff.size = c.whole := by simp [Chip.ff, repS_size, mkS_size]

theorem kept_any (L : CL) (c : Chip) (s : ByteArray) (w : World) (h : ChipAt w L c) :
    Calls Try.prog 71 #[.pointer (some ⟨L.a, 0, none⟩), .string s] w fun e w' => e = .returned (.string (c.kept s)) ∧ Upd noBlk w w' := by
  obtain ⟨c0, c1, c2, c3, c4, c5, c6, c7, c8, c9⟩ := h.cells
  have h1 := h.ok.sz32; have h2 := h.ok.sz1024
  have hr := fun w' => Repeat_any (mkS [255]) (c.sz + 32) w' (by omega) (by simp [mkS_size]; omega)
  have e : (c.sz + 32).toNat = c.whole := by unfold Chip.whole; omega
  rw [e] at hr
  have H := hid hr; clear hr e
  have HW := hid (whole_any c.nb c.np c.sz (by omega) h2)
  cases hk : (s.toList == (repS (mkS [255]) c.whole).toList)
  · have e : c.kept s = s := by unfold Chip.kept; rw [if_neg]; intro e; rw [e, Chip.ff] at hk; simp only [beq_self_eq_true, Bool.true_eq_false] at hk
    rw [e]
    go_enter Try.func71, Try.ntmps71
    go_wp2_with fail
    refine (HW.out _).mono ?_; rintro e w1 ⟨rfl, hu1⟩
    go_wp2_with fail
    refine (H.out _).mono ?_; rintro e w2 ⟨rfl, hu2⟩
    go_wp2_with fail
    go_ret
    exact ⟨rfl, hu1.trans' hu2⟩
  · have e : c.kept s = mkS [] := by unfold Chip.kept; rw [if_pos]; exact toList_inj (by simpa [Chip.ff] using hk)
    rw [e]
    go_enter Try.func71, Try.ntmps71
    go_wp2_with fail
    refine (HW.out _).mono ?_; rintro e w1 ⟨rfl, hu1⟩
    go_wp2_with fail
    refine (H.out _).mono ?_; rintro e w2 ⟨rfl, hu2⟩
    go_wp2_with fail
    go_ret
    exact ⟨rfl, hu1.trans' hu2⟩

theorem tear_any (L : CL) (c : Chip) (w : World) (h : ChipAt w L c) :
    Calls Try.prog 69 #[.pointer (some ⟨L.a, 0, none⟩)] w fun e w' => e = .returned (.string c.tear) ∧ Upd noBlk w w' := by
  obtain ⟨c0, c1, c2, c3, c4, c5, c6, c7, c8, c9⟩ := h.cells
  have h1 := h.ok.sz32; have h2 := h.ok.sz1024; have ht := h.ok.torn
  have HW := hid (whole_any c.nb c.np c.sz (by omega) h2)
  by_cases hz : c.torn.size = 0
  · have e : c.tear = mkS [] := by simp [Chip.tear, hz]
    have hz1 := toList_nil hz
    have hz2 : c.torn.toList.isEmpty = true := by rw [hz1]; rfl
    rw [e]
    go_enter Try.func69, Try.ntmps69
    go_wp2_with fail
    refine (HW.out _).mono ?_; rintro e w1 ⟨rfl, hu1⟩
    have d5 := hu1.cell0 c5
    go_wp2_with fail
    go_ret
    exact ⟨rfl, hu1⟩
  · have hz2 : c.torn.toList.isEmpty = false := by
      cases hh : c.torn.toList.isEmpty
      · rfl
      · exfalso; apply hz; have := List.isEmpty_iff.1 hh; rw [toList_bs] at this; rw [← bs_length, this]; rfl
    have HZ := hid hz; clear hz
    go_enter Try.func69, Try.ntmps69
    go_wp2_with fail
    refine (HW.out _).mono ?_; rintro e w1 ⟨rfl, hu1⟩
    have d5 := hu1.cell0 c5
    go_wp2_with fail
    have hpos : 0 < c.torn.size := by have := HZ.out; omega
    have hsum : 0 ≤ (c.sz + 32) / (c.torn.size : Int) := Int.ediv_nonneg (by omega) (by omega)
    have hle : (c.sz + 32) / (c.torn.size : Int) ≤ c.sz + 32 := Int.ediv_le_self _ (by omega)
    have D5 : ∀ n : UW w1, n.w.cell? ⟨L.a, 5, none⟩ = some (.string c.torn) := fun n => n.cell d5
    have ew : c.sz + 32 = (c.whole : Int) := by unfold Chip.whole; omega
    have em : ((c.sz + 32) / (c.torn.size : Int) + 1).toNat = c.whole / c.torn.size + 1 := by
      rw [ew, show ((c.whole : Int) / (c.torn.size : Int)) = ((c.whole / c.torn.size : Nat) : Int) from rfl]; generalize c.whole / c.torn.size = q; omega
    have hR : c.sz + 32 ≤ ((repS c.torn (c.whole / c.torn.size + 1)).size : Int) := by
      have g1 := Nat.div_add_mod c.whole c.torn.size
      have g2 := Nat.mod_lt c.whole hpos
      have g3 : c.whole ≤ (c.whole / c.torn.size + 1) * c.torn.size := by
        rw [Nat.succ_mul, Nat.mul_comm]; omega
      rw [repS_size, ew]; exact Int.ofNat_le.2 g3
    have hmul : (c.torn.size : Int) * ((c.sz + 32) / (c.torn.size : Int) + 1) ≤ 100000000 := by
      have := Int.mul_ediv_self_le (x := c.sz + 32) (k := (c.torn.size : Int)) (by omega)
      rw [Int.mul_add]; omega
    have HR : ∀ n : UW w1, Calls Try.prog 32 #[.string c.torn, .int .i64 ((c.sz + 32) / (c.torn.size : Int) + 1)] n.w fun e w' => e = .returned (.string (repS c.torn (c.whole / c.torn.size + 1))) ∧ ∃ m : UW w1, w' = m.w := fun n => by
      have := Repeat_any c.torn ((c.sz + 32) / (c.torn.size : Int) + 1) n.w (by omega) hmul
      rw [em] at this; exact UW.call this
    have HK : ∀ n : UW w1, Calls Try.prog 71 #[.pointer (some ⟨L.a, 0, none⟩), .string ((repS c.torn (c.whole / c.torn.size + 1)).extract 0 c.whole)] n.w fun e w' => e = .returned (.string c.tear) ∧ ∃ m : UW w1, w' = m.w := fun n => by
      have := kept_any L c ((repS c.torn (c.whole / c.torn.size + 1)).extract 0 c.whole) n.w (h.upd (hu1.trans' n.upd) (fun _ hk => hk.elim))
      have e : c.tear = c.kept ((repS c.torn (c.whole / c.torn.size + 1)).extract 0 c.whole) := by simp [Chip.tear, HZ.out]
      rw [e]; exact UW.call this
    have ew2 : (c.sz + 32).toNat = c.whole := by omega
    generalize repS c.torn (c.whole / c.torn.size + 1) = R at hR HR HK
    have HR' := hid HR; have HK' := hid HK; have hU := hid hu1; have E2 := hid ew2
    clear HR HK em ew ew2 hmul hu1
    refine wp_region_upd (by kernel_rfl) (by kernel_rfl) ?_
    repeat (go_big_quiet_step (first | exact HR'.out _ | (rw [E2.out]; exact HK'.out _)))
    refine wpQuiet_nil ?_
    rintro _ ⟨nq, rfl⟩
    go_wp2_with fail
    go_ret
    exact ⟨rfl, hU.out.trans' nq.upd⟩

end Go.Proofs.Ytljphijjcagciaa

namespace Go.Proofs.Ytljphijjcagciaa
open Go.RowKit

theorem Chip.ready_zero {c : Chip} {block page : Int} (h : c.ready block page = 0) : c.has block = true ∧ 0 ≤ page ∧ page < c.np := by
  unfold Chip.ready at h
  split at h
  · omega
  · split at h
    · omega
    · rename_i h2; simp at h2; exact ⟨h2.1.1, h2.1.2, h2.2⟩
theorem Chip.page_size {c : Chip} (h : c.Ok) {block page : Int} (hk : c.has block = true) (h0 : 0 ≤ page) (h1 : page < c.np) :
    ((c.at block).pages.getD page.toNat (mkS [])).size = 0 ∨ ((c.at block).pages.getD page.toNat (mkS [])).size = c.whole := by
  have r := h.blk (c.at block) (List.mem_of_getElem? (Chip.at_eq hk))
  have h2 : page.toNat < (c.at block).pages.length := by omega
  have := r.2 _ (List.getElem_mem h2)
  simpa [List.getD, List.getElem?_eq_getElem h2, Chip.whole] using this

theorem Read_any (L : CL) (c : Chip) (block page : Int) (w : World) (h : ChipAt w L c) :
    Calls Try.prog 43 #[.pointer (some ⟨L.a, 0, none⟩), .int .i64 block, .int .i64 page] w fun e w' =>
      e = .returned (.tuple #[.string (c.read block page).1, .string (c.read block page).2.1, .int .i64 (c.read block page).2.2]) ∧ Upd noBlk w w' := by
  have HR := hid (ready_any L c block page w h)
  by_cases hr : c.ready block page = 0
  · obtain ⟨hk, h0, h1⟩ := Chip.ready_zero hr
    obtain ⟨c0, c1, c2, c3, c4, c5, c6, c7, c8, c9⟩ := h.cells
    obtain ⟨b0, b1, b2, b3, b4, b5⟩ := h.blk hk
    have pg := h.page hk h0 h1
    have hs := Chip.page_size h.ok hk h0 h1
    have s1 := h.ok.sz32; have s2 := h.ok.sz1024; have q1 := h.ok.np2; have q2 := h.ok.np64
    have n1 := h.n; have n2 := h.ok.nb256
    obtain ⟨k1, k2⟩ := Chip.has_iff.1 hk
    have k3 : block < (L.n : Int) := by omega
    have k4 : (L.n : Int) ≤ 256 := by omega
    have k5 : page < (c.np.toNat : Int) := by omega
    have k6 : (c.np.toNat : Int) ≤ 64 := by omega
    have HW := hid (whole_any c.nb c.np c.sz (by omega) s2)
    have HP := hid (fun w' => Repeat_any (mkS [255]) (c.sz + 32) w' (by omega) (by simp [mkS_size]; omega))
    have e : (c.sz + 32).toNat = c.whole := by unfold Chip.whole; omega
    rw [e] at HP; clear e
    have he : c.read block page = ((if ((c.at block).pages.getD page.toNat (mkS [])).size = 0 then c.ff else (c.at block).pages.getD page.toNat (mkS [])).extract 0 c.sz.toNat,
        (if ((c.at block).pages.getD page.toNat (mkS [])).size = 0 then c.ff else (c.at block).pages.getD page.toNat (mkS [])).extract c.sz.toNat (if ((c.at block).pages.getD page.toNat (mkS [])).size = 0 then c.ff else (c.at block).pages.getD page.toNat (mkS [])).size, 0) := by
      simp [Chip.read, hr]
    rw [he]; clear he
    generalize (c.at block).pages.getD page.toNat (mkS []) = s at pg hs ⊢
    rw [hr] at HR
    clear hr n1 k2
    by_cases hz : s.size = 0
    · have z1 := toList_nil hz
      have z2 : s.toList.isEmpty = true := by rw [z1]; rfl
      rw [if_pos hz]
      have hf := c.ff_size
      rw [Chip.ff] at hf ⊢
      have hf2 : c.sz ≤ ((repS (mkS [255]) c.whole).size : Int) := by rw [hf]; unfold Chip.whole; omega
      generalize repS (mkS [255]) c.whole = ff at HP hf2 ⊢
      have HS := hid hs
      clear hs hz hf
      go_enter Try.func43, Try.ntmps43
      go_wp2_with fail
      refine HR.out.mono ?_; rintro e w1 ⟨rfl, rfl⟩
      go_wp2_with fail
      refine (HW.out _).mono ?_; rintro e w1 ⟨rfl, hu1⟩
      go_wp2_with fail
      refine (HP.out _).mono ?_; rintro e w2 ⟨rfl, hu2⟩
      have hu := hu1.trans' hu2
      have D2 : ∀ n : UW w2, n.w.cell? ⟨L.a, 2, none⟩ = some (.int .i64 c.sz) := fun n => n.cell (hu.cell0 c2)
      go_wp2_with fail
      refine wp_region_upd (by kernel_rfl) (by kernel_rfl) ?_
      repeat (go_big_quiet_step (fail))
      refine wpQuiet_nil ?_
      rintro _ ⟨nq, rfl⟩
      go_wp2_with fail
      go_ret3
      exact ⟨rfl, hu.trans' nq.upd⟩
    · have hsz : s.size = c.whole := hs.resolve_left hz
      have z2 : s.toList.isEmpty = false := by
        cases hh : s.toList.isEmpty
        · rfl
        · exfalso; apply hz; have := List.isEmpty_iff.1 hh; rw [toList_bs] at this; rw [← bs_length, this]; rfl
      rw [if_neg hz]
      have hf2 : c.sz ≤ (s.size : Int) := by rw [hsz]; unfold Chip.whole; omega
      clear hs hz hsz
      go_enter Try.func43, Try.ntmps43
      go_wp2_with fail
      refine HR.out.mono ?_; rintro e w1 ⟨rfl, rfl⟩
      go_wp2_with fail
      have D2 : ∀ n : UW w, n.w.cell? ⟨L.a, 2, none⟩ = some (.int .i64 c.sz) := fun n => n.cell c2
      refine wp_region_upd (by kernel_rfl) (by kernel_rfl) ?_
      repeat (go_big_quiet_step (fail))
      refine wpQuiet_nil ?_
      rintro _ ⟨nq, rfl⟩
      go_wp2_with fail
      go_ret3
      exact ⟨rfl, nq.upd⟩
  · have he : c.read block page = (mkS [], mkS [], c.ready block page) := by simp [Chip.read, hr]
    rw [he]; clear he
    have hr1 : (c.ready block page == 0) = false := by simp [hr]
    have hr2 : (c.ready block page != 0) = true := by simp [hr]
    generalize c.ready block page = r at HR hr1 hr2 ⊢
    clear hr
    go_enter Try.func43, Try.ntmps43
    go_wp2_with fail
    refine HR.out.mono ?_; rintro e w1 ⟨rfl, rfl⟩
    go_wp2_with fail
    go_ret3
    exact ⟨rfl, Upd.refl _ _⟩

end Go.Proofs.Ytljphijjcagciaa

namespace Go.Proofs.Ytljphijjcagciaa
open Go.RowKit

theorem Chip.burn_bl (c : Chip) (er : Bool) : (c.burn er).2.bl = c.bl := by unfold Chip.burn; cases er <;> simp only [Bool.false_eq_true, if_true, if_false] <;> split <;> rfl
theorem Chip.burn_np (c : Chip) (er : Bool) : (c.burn er).2.np = c.np := by unfold Chip.burn; cases er <;> simp only [Bool.false_eq_true, if_true, if_false] <;> split <;> rfl
theorem Chip.burn_sz (c : Chip) (er : Bool) : (c.burn er).2.sz = c.sz := by unfold Chip.burn; cases er <;> simp only [Bool.false_eq_true, if_true, if_false] <;> split <;> rfl
theorem Chip.burn_torn (c : Chip) (er : Bool) : (c.burn er).2.torn = c.torn := by unfold Chip.burn; cases er <;> simp only [Bool.false_eq_true, if_true, if_false] <;> split <;> rfl
theorem Chip.burn_at (c : Chip) (er : Bool) (k : Int) : (c.burn er).2.at k = c.at k := by unfold Chip.at; rw [Chip.burn_bl]
theorem Chip.burn_has (c : Chip) (er : Bool) (k : Int) : (c.burn er).2.has k = c.has k := by unfold Chip.has; rw [Chip.burn_bl]
theorem Chip.has_put (c : Chip) (k i : Int) (b : Blk) : (c.put k b).has i = c.has i := by simp [Chip.has, Chip.put]
theorem Chip.at_put {c : Chip} {k : Int} (hk : c.has k = true) (b : Blk) : (c.put k b).at k = b := by
  obtain ⟨h0, h1⟩ := Chip.has_iff.1 hk
  have : k.toNat < c.bl.length := by omega
  simp [Chip.at, Chip.put, List.getD, this]
theorem Chip.put_put (c : Chip) (k : Int) (b b' : Blk) : (c.put k b).put k b' = c.put k b' := by simp [Chip.put]
theorem Chip.kept_size (c : Chip) {s : ByteArray} (h : s.size = c.whole) : (c.kept s).size = 0 ∨ (c.kept s).size = c.whole := by
  unfold Chip.kept; split
  · left; rfl
  · right; exact h
theorem Chip.tear_size (c : Chip) : c.tear.size = 0 ∨ c.tear.size = c.whole := by
  unfold Chip.tear; split
  · left; rfl
  · rename_i h
    refine c.kept_size ?_
    have hp : 0 < c.torn.size := by omega
    have g1 := Nat.div_add_mod c.whole c.torn.size
    have g2 := Nat.mod_lt c.whole hp
    have g3 : c.whole ≤ (c.whole / c.torn.size + 1) * c.torn.size := by rw [Nat.succ_mul, Nat.mul_comm]; omega
    rw [ByteArray.size_extract, repS_size]; omega

/-- What a program that is asked rightly comes to. -/
theorem Chip.program_go {c : Chip} {block page : Int} {data beside : ByteArray} (hr : c.ready block page = 0) (h1 : (data.size : Int) = c.sz) (h2 : beside.size = 32) (h3 : (c.at block).failed = false) (h4 : page = (c.at block).next) :
    c.program block page data beside =
      (if ((c.put block { c.at block with next := inc (c.at block).next }).burn false).1 = true then
        (9, ((c.put block { c.at block with next := inc (c.at block).next }).burn false).2.put block { c.at block with next := inc (c.at block).next, pages := (c.at block).pages.set page.toNat ((c.put block { c.at block with next := inc (c.at block).next }).burn false).2.tear })
      else if (c.at block).weak = true then
        (10, ((c.put block { c.at block with next := inc (c.at block).next }).burn false).2.put block { c.at block with next := inc (c.at block).next, failed := true, pages := (c.at block).pages.set page.toNat (repS (mkS [0]) ((c.put block { c.at block with next := inc (c.at block).next }).burn false).2.whole) })
      else (0, ((c.put block { c.at block with next := inc (c.at block).next }).burn false).2.put block { c.at block with next := inc (c.at block).next, pages := (c.at block).pages.set page.toNat (((c.put block { c.at block with next := inc (c.at block).next }).burn false).2.kept (data ++ beside)) })) := by
  unfold Chip.program
  rw [if_neg (by omega)]
  simp only [h1, h2, h3, ← h4, ne_eq, not_true_eq_false, decide_false, Bool.or_self, Bool.false_eq_true, if_false]

theorem program_no (L : CL) (c : Chip) (block page : Int) (data beside : ByteArray) (w : World) (h : ChipAt w L c) (hr : c.ready block page ≠ 0) :
    Calls Try.prog 41 #[.pointer (some ⟨L.a, 0, none⟩), .int .i64 block, .int .i64 page, .string data, .string beside] w fun e w' =>
      e = .returned (.int .i64 (c.program block page data beside).1) ∧ ChipAt w' L (c.program block page data beside).2 ∧ Upd L.foot w w' := by
  have HR := hid (ready_any L c block page w h)
  have he : c.program block page data beside = (c.ready block page, c) := by simp [Chip.program, hr]
  rw [he]; clear he
  have hr1 : (c.ready block page == 0) = false := by simp [hr]
  have hr2 : (c.ready block page != 0) = true := by simp [hr]
  generalize c.ready block page = r at HR hr1 hr2 ⊢
  clear hr
  go_enter Try.func41, Try.ntmps41
  go_wp2_with fail
  refine HR.out.mono ?_; rintro e w1 ⟨rfl, rfl⟩
  go_wp2_with fail
  go_ret
  exact ⟨rfl, h, Upd.refl _ _⟩

theorem program_size (L : CL) (c : Chip) (block page : Int) (data beside : ByteArray) (w : World) (h : ChipAt w L c) (hr : c.ready block page = 0) (hs : (data.size : Int) ≠ c.sz ∨ beside.size ≠ 32) (_hd : data.size ≤ maxLen) (_hb : beside.size ≤ maxLen) :
    Calls Try.prog 41 #[.pointer (some ⟨L.a, 0, none⟩), .int .i64 block, .int .i64 page, .string data, .string beside] w fun e w' =>
      e = .returned (.int .i64 (c.program block page data beside).1) ∧ ChipAt w' L (c.program block page data beside).2 ∧ Upd L.foot w w' := by
  have HR := hid (ready_any L c block page w h)
  obtain ⟨hk, h0, h1⟩ := Chip.ready_zero hr
  obtain ⟨c0, c1, c2, c3, c4, c5, c6, c7, c8, c9⟩ := h.cells
  have n1 := h.n; have n2 := h.ok.nb256
  obtain ⟨k1, k2⟩ := Chip.has_iff.1 hk
  have k3 : block < (L.n : Int) := by omega
  have k4 : (L.n : Int) ≤ 256 := by omega
  have he : c.program block page data beside = (2, c) := by
    rcases hs with hs | hs <;> simp [Chip.program, hr, hs]
  rw [he]; clear he
  rw [hr] at HR
  clear hr n1 k2
  unfold maxLen at _hd _hb
  by_cases hs1 : (data.size : Int) = c.sz
  · have hs2 : ((beside.size : Int) == 32) = false := by rcases hs with hs | hs; · exact absurd hs1 hs
                                                         · simp; omega
    have hs3 : ((data.size : Int) == c.sz) = true := by simp [hs1]
    have hs4 : ((beside.size : Int) != 32) = true := by simpa using hs2
    have hs5 : ((data.size : Int) != c.sz) = false := by simp [hs1]
    clear hs hs1
    go_enter Try.func41, Try.ntmps41
    go_wp2_with fail
    refine HR.out.mono ?_; rintro e w1 ⟨rfl, rfl⟩
    go_wp2_with fail
    go_ret
    exact ⟨rfl, h, Upd.refl _ _⟩
  · have hs3 : ((data.size : Int) == c.sz) = false := by simp [hs1]
    have hs5 : ((data.size : Int) != c.sz) = true := by simp [hs1]
    clear hs hs1
    go_enter Try.func41, Try.ntmps41
    go_wp2_with fail
    refine HR.out.mono ?_; rintro e w1 ⟨rfl, rfl⟩
    go_wp2_with fail
    go_ret
    exact ⟨rfl, h, Upd.refl _ _⟩

end Go.Proofs.Ytljphijjcagciaa

namespace Go.Proofs.Ytljphijjcagciaa
open Go.RowKit

theorem program_sin (L : CL) (c : Chip) (block page : Int) (data beside : ByteArray) (w : World) (h : ChipAt w L c) (hr : c.ready block page = 0) (hs1 : (data.size : Int) = c.sz) (hs2 : beside.size = 32)
    (hf : (c.at block).failed = true ∨ page ≠ (c.at block).next) :
    Calls Try.prog 41 #[.pointer (some ⟨L.a, 0, none⟩), .int .i64 block, .int .i64 page, .string data, .string beside] w fun e w' =>
      e = .returned (.int .i64 (c.program block page data beside).1) ∧ ChipAt w' L (c.program block page data beside).2 ∧ Upd L.foot w w' := by
  have HR := hid (ready_any L c block page w h)
  have HS := hid (fun n => sin_any L c n w h)
  obtain ⟨hk, h0, h1⟩ := Chip.ready_zero hr
  obtain ⟨c0, c1, c2, c3, c4, c5, c6, c7, c8, c9⟩ := h.cells
  obtain ⟨b0, b1, b2, b3, b4, b5⟩ := h.blk hk
  have n1 := h.n; have n2 := h.ok.nb256
  obtain ⟨k1, k2⟩ := Chip.has_iff.1 hk
  have k3 : block < (L.n : Int) := by omega
  have k4 : (L.n : Int) ≤ 256 := by omega
  have hs3 : ((data.size : Int) == c.sz) = true := by simp [hs1]
  have hs5 : ((data.size : Int) != c.sz) = false := by simp [hs1]
  have hs4 : ((beside.size : Int) == 32) = true := by simp [hs2]
  have hs6 : ((beside.size : Int) != 32) = false := by simp [hs2]
  rw [hr] at HR
  by_cases hf1 : (c.at block).failed = true
  · have he : c.program block page data beside = (12, c.sin) := by simp [Chip.program, hr, hs1, hs2, hf1]
    rw [he]; clear he
    rw [hf1] at b5
    clear hr n1 k2 hs1 hs2 hf hf1
    go_enter Try.func41, Try.ntmps41
    go_wp2_with fail
    refine HR.out.mono ?_; rintro e w1 ⟨rfl, rfl⟩
    go_wp2_with fail
    refine (HS.out _).mono ?_; rintro e w1 ⟨rfl, hc, hu⟩
    go_wp2_with fail
    go_ret
    exact ⟨rfl, hc, hu⟩
  · have hf2 : (c.at block).failed = false := by simpa using hf1
    have hp : page ≠ (c.at block).next := hf.resolve_left hf1
    have he : c.program block page data beside = (11, c.sin) := by simp [Chip.program, hr, hs1, hs2, hf2, hp]
    rw [he]; clear he
    rw [hf2] at b5
    have hp1 : (page == (c.at block).next) = false := by simp [hp]
    have hp2 : (page != (c.at block).next) = true := by simp [hp]
    clear hr n1 k2 hs1 hs2 hf hf1 hf2 hp
    go_enter Try.func41, Try.ntmps41
    go_wp2_with fail
    refine HR.out.mono ?_; rintro e w1 ⟨rfl, rfl⟩
    go_wp2_with fail
    refine (HS.out _).mono ?_; rintro e w1 ⟨rfl, hc, hu⟩
    go_wp2_with fail
    go_ret
    exact ⟨rfl, hc, hu⟩

theorem program_good (L : CL) (c : Chip) (block page : Int) (data beside : ByteArray) (w : World) (h : ChipAt w L c) (hfu : c.fuse ≤ 1000000) (hr : c.ready block page = 0) (hs1 : (data.size : Int) = c.sz) (hs2 : beside.size = 32)
    (hf : (c.at block).failed = false) (hp : page = (c.at block).next) :
    Calls Try.prog 41 #[.pointer (some ⟨L.a, 0, none⟩), .int .i64 block, .int .i64 page, .string data, .string beside] w fun e w' =>
      e = .returned (.int .i64 (c.program block page data beside).1) ∧ ChipAt w' L (c.program block page data beside).2 ∧ Upd L.foot w w' := by
  have HR := hid (ready_any L c block page w h)
  obtain ⟨hk, h0, h1⟩ := Chip.ready_zero hr
  obtain ⟨c0, c1, c2, c3, c4, c5, c6, c7, c8, c9⟩ := h.cells
  obtain ⟨b0, b1, b2, b3, b4, b5⟩ := h.blk hk
  have fb1 := h.frb (block.toNat * 6 + 1)
  have n1 := h.n; have n2 := h.ok.nb256; have z1 := h.ok.sz32; have z2 := h.ok.sz1024; have z3 := h.ok.np64
  obtain ⟨k1, k2⟩ := Chip.has_iff.1 hk
  have k3 : block < (L.n : Int) := by omega
  have k4 : (L.n : Int) ≤ 256 := by omega
  have k5 : page < (c.np.toNat : Int) := by omega
  have k6 : (c.np.toNat : Int) ≤ 64 := by omega
  have hs3 : ((data.size : Int) == c.sz) = true := by simp [hs1]
  have hs5 : ((data.size : Int) != c.sz) = false := by simp [hs1]
  have hs4 : ((beside.size : Int) == 32) = true := by simp [hs2]
  have hs6 : ((beside.size : Int) != 32) = false := by simp [hs2]
  have hp1 : (page == (c.at block).next) = true := by simp [hp]
  have hp2 : (page != (c.at block).next) = false := by simp [hp]
  have hdb : data.size + beside.size ≤ 2000 := by omega
  -- the next page is counted
  have g1 := h.blk_set hk 1 (by omega) (.int .i64 (wrap64 ((c.at block).next + 1))) { c.at block with next := inc (c.at block).next } rfl rfl
  have he := Chip.program_go hr hs1 hs2 hf hp
  rw [he]; clear he
  rw [hr] at HR
  rw [hf] at b5
  have hcat := Chip.burn_at (c.put block { c.at block with next := inc (c.at block).next }) false block
  rw [Chip.at_put hk] at hcat
  have hchas := Chip.burn_has (c.put block { c.at block with next := inc (c.at block).next }) false block
  rw [Chip.has_put, hk] at hchas
  have hcnp : ((c.put block { c.at block with next := inc (c.at block).next }).burn false).2.np = c.np := Chip.burn_np _ _
  have hcsz : ((c.put block { c.at block with next := inc (c.at block).next }).burn false).2.sz = c.sz := Chip.burn_sz _ _
  have HB := hid (fun w' hw => burn_any L (c.put block { c.at block with next := inc (c.at block).next }) false w' hw hfu)
  simp only [Bool.false_eq_true, if_false] at HB
  have hfail : (c.at block).failed = false := hf
  have hpn : (c.at block).next = page := hp.symm
  generalize hB : c.at block = b at *
  generalize c.put block { b with next := inc b.next } = cc at *
  generalize hq : cc.burn false = q at *
  obtain ⟨cut, q⟩ := q
  simp only at hcat hchas hcnp hcsz HB ⊢
  have HN := hid hcnp; have HAT := hid hcat; have HSZ := hid hcsz; have HQ := hid hq; have HBB := hid hB; have HF := hid hfail; have HDS := hid (And.intro hs1 hs2); have HPN := hid hpn
  have G1 := hid g1; have HHAS := hid hchas; have HHK := hid hk
  clear hr n1 k2 hs1 hs2 hf hcnp hcat hcsz hq hB hfail hpn g1 hp hchas hk
  have hin : L.foot (L.p + block.toNat) := .inr (.inr ⟨by omega, by omega⟩)
  have hu0 : Upd L.foot w (w.setCell ⟨L.bb, block.toNat * 6 + 1, none⟩ (.int .i64 (wrap64 (b.next + 1)))) := (Upd.refl _ _).setCell (.inl (.inr (.inl rfl))) _
  have HU0 := hid hu0; clear hu0
  cases hcut : cut
  · rw [hcut] at HB
    cases hw : b.weak
    · -- it is programmed
      simp only [Bool.false_eq_true, if_false]
      go_enter Try.func41, Try.ntmps41
      go_wp2_with fail
      refine HR.out.mono ?_; rintro e w1 ⟨rfl, rfl⟩
      go_wp2_with fail
      refine (HB.out _ G1.out).mono ?_; rintro e w1 ⟨rfl, hc1, hu1⟩
      obtain ⟨d0, d1, d2, d3, d4, d5⟩ := hc1.blk HHAS.out
      rw [HN.out] at d0; rw [HAT.out] at d1 d2 d3 d4 d5
      simp only [hw] at d3
      have HC1 := hid hc1; have HW := hid hw; clear hc1 hcut hw
      have D0 : ∀ n : UW w1, n.w.cell? ⟨L.bb, block.toNat * 6, none⟩ = some (.slice (some ⟨L.p + block.toNat, 0, none⟩) c.np.toNat c.np.toNat) := fun n => n.cell d0
      have HK := hid (fun n : UW w1 => UW.call (kept_any L q (data ++ beside) n.w (HC1.out.upd n.upd (fun _ hk => hk.elim))))
      go_wp2_with fail
      refine wp_region_upd_tail 10 (by kernel_rfl) (by kernel_rfl) ?_
      simp only [List.take_succ_cons, List.take_zero, List.drop_succ_cons, List.drop_zero]
      repeat (go_big_quiet_step (exact HK.out _))
      refine wpQuiet_nil ?_
      rintro _ ⟨nq, rfl⟩
      have HC2 := HC1.out.upd nq.upd (fun _ hk => hk.elim)
      have pg := HC2.page HHAS.out h0 (by rw [HN.out]; exact h1)
      have fp := HC2.frp HHAS.out page.toNat
      have g2 := HC2.page_set (i := page) HHAS.out (q.kept (data ++ beside)) (q.kept_size (by rw [ByteArray.size_append]; unfold Chip.whole; rw [HSZ.out]; have := HDS.out; omega))
      rw [HAT.out] at g2
      have G2 := hid g2; have HU1 := hid hu1
      clear g2 HC2 hu1
      go_wp2_with fail
      go_ret
      exact ⟨rfl, by have := G2.out; simpa only [HW.out] using this, ((HU0.out.trans' HU1.out).trans nq.upd (fun _ _ hk => hk.elim)).setCell (.inl hin) _⟩
    · -- it is weak
      simp only [Bool.false_eq_true, if_false, if_true]
      go_enter Try.func41, Try.ntmps41
      go_wp2_with fail
      refine HR.out.mono ?_; rintro e w1 ⟨rfl, rfl⟩
      go_wp2_with fail
      refine (HB.out _ G1.out).mono ?_; rintro e w1 ⟨rfl, hc1, hu1⟩
      obtain ⟨d0, d1, d2, d3, d4, d5⟩ := hc1.blk HHAS.out
      have fb5 := hc1.frb (block.toNat * 6 + 5)
      have g3 := hc1.blk_set HHAS.out 5 (by omega) (.bool true) { b with next := inc b.next, failed := true } (by rw [HAT.out]) (by rw [HAT.out]; rfl)
      rw [HN.out] at d0; rw [HAT.out] at d1 d2 d3 d4 d5
      simp only [hw] at d3
      have HC1 := hid g3; have HW := hid hw; clear hc1 hcut hw g3
      go_wp2_with fail
      generalize hw2 : w1.setCell { block := L.bb, off := block.toNat * 6 + 5 } (Value.bool true) = w2 at *
      have HC2 := HC1.out
      obtain ⟨t0, t1, t2, t3, t4, t5, t6, t7, t8, t9⟩ := HC2.cells
      have hhas2 : (q.put block { b with next := inc b.next, failed := true }).has block = true := by rw [Chip.has_put]; exact HHAS.out
      obtain ⟨e0, e1, e2, e3, e4, e5⟩ := HC2.blk hhas2
      have hnp2 : (q.put block { b with next := inc b.next, failed := true }).np = c.np := HN.out
      have hsz2 : (q.put block { b with next := inc b.next, failed := true }).sz = c.sz := HSZ.out
      rw [hnp2] at e0
      have D0 : ∀ n : UW w2, n.w.cell? ⟨L.bb, block.toNat * 6, none⟩ = some (.slice (some ⟨L.p + block.toNat, 0, none⟩) c.np.toNat c.np.toNat) := fun n => n.cell e0
      have T0 : ∀ n : UW w2, n.w.cell? ⟨L.a, 0, none⟩ = some (.int .i64 q.nb) := fun n => n.cell t0
      have T1 : ∀ n : UW w2, n.w.cell? ⟨L.a, 1, none⟩ = some (.int .i64 q.np) := fun n => n.cell t1
      have T2 : ∀ n : UW w2, n.w.cell? ⟨L.a, 2, none⟩ = some (.int .i64 c.sz) := fun n => n.cell (by rw [hsz2] at t2; exact t2)
      have HWh := hid (fun n : UW w2 => UW.call (whole_any q.nb q.np c.sz (by omega) z2 n.w))
      have ew : (c.sz + 32).toNat = q.whole := by unfold Chip.whole; rw [HSZ.out]; omega
      have HRp := hid (fun n : UW w2 => UW.call (Repeat_any (mkS [0]) (c.sz + 32) n.w (by omega) (by simp [mkS_size]; omega)))
      rw [ew] at HRp
      have HNP2 := hid hnp2; have HH2 := hid hhas2
      have HC2' := hid HC2; have HW2 := hid hw2
      clear e0 e1 e2 e3 e4 e5 t0 t1 t2 t3 t4 t5 t6 t7 t8 t9 d0 d1 d2 d3 d4 d5 hnp2 hsz2 hhas2 HC2 hw2 ew
      refine wp_region_upd_tail 11 (by kernel_rfl) (by kernel_rfl) ?_
      simp only [List.take_succ_cons, List.take_zero, List.drop_succ_cons, List.drop_zero]
      repeat (go_big_quiet_step (first | exact HWh.out _ | exact HRp.out _))
      refine wpQuiet_nil ?_
      rintro _ ⟨nq, rfl⟩
      have HC3 := HC2'.out.upd nq.upd (fun _ hk => hk.elim)
      have pg := HC3.page HH2.out h0 (by rw [HNP2.out]; exact h1)
      have fp := HC3.frp HH2.out page.toNat
      have g2 := HC3.page_set (i := page) HH2.out (repS (mkS [0]) q.whole) (.inr (by rw [repS_size]; show _ = q.sz.toNat + 32; simp [mkS_size, Chip.whole]))
      rw [Chip.at_put HHAS.out, Chip.put_put] at g2
      have G2 := hid g2; have HU1 := hid hu1
      clear g2 HC3 hu1
      go_wp2_with fail
      go_ret
      have hu2 : Upd L.foot w w2 := by rw [← HW2.out]; exact (HU0.out.trans' HU1.out).setCell (.inl (.inr (.inl rfl))) _
      exact ⟨rfl, by have := G2.out; simpa only [HW.out] using this, (hu2.trans nq.upd (fun _ _ hk => hk.elim)).setCell (.inl hin) _⟩
  · rw [hcut] at HB
    simp only [if_true]
    go_enter Try.func41, Try.ntmps41
    go_wp2_with fail
    refine HR.out.mono ?_; rintro e w1 ⟨rfl, rfl⟩
    go_wp2_with fail
    refine (HB.out _ G1.out).mono ?_; rintro e w1 ⟨rfl, hc1, hu1⟩
    obtain ⟨d0, d1, d2, d3, d4, d5⟩ := hc1.blk HHAS.out
    rw [HN.out] at d0
    have HC1 := hid hc1; clear hc1 hcut
    have D0 : ∀ n : UW w1, n.w.cell? ⟨L.bb, block.toNat * 6, none⟩ = some (.slice (some ⟨L.p + block.toNat, 0, none⟩) c.np.toNat c.np.toNat) := fun n => n.cell d0
    have HK := hid (fun n : UW w1 => UW.call (tear_any L q n.w (HC1.out.upd n.upd (fun _ hk => hk.elim))))
    go_wp2_with fail
    refine wp_region_upd_tail 7 (by kernel_rfl) (by kernel_rfl) ?_
    simp only [List.take_succ_cons, List.take_zero, List.drop_succ_cons, List.drop_zero]
    repeat (go_big_quiet_step (exact HK.out _))
    refine wpQuiet_nil ?_
    rintro _ ⟨nq, rfl⟩
    have HC2 := HC1.out.upd nq.upd (fun _ hk => hk.elim)
    have pg := HC2.page HHAS.out h0 (by rw [HN.out]; exact h1)
    have fp := HC2.frp HHAS.out page.toNat
    have g2 := HC2.page_set (i := page) HHAS.out q.tear q.tear_size
    rw [HAT.out] at g2
    have G2 := hid g2; have HU1 := hid hu1
    clear g2 HC2 hu1
    go_wp2_with fail
    go_ret
    exact ⟨rfl, G2.out, ((HU0.out.trans' HU1.out).trans nq.upd (fun _ _ hk => hk.elim)).setCell (.inl hin) _⟩

theorem Program_any (L : CL) (c : Chip) (block page : Int) (data beside : ByteArray) (w : World) (h : ChipAt w L c) (hfu : c.fuse ≤ 1000000) (hd : data.size ≤ maxLen) (hb : beside.size ≤ maxLen) :
    Calls Try.prog 41 #[.pointer (some ⟨L.a, 0, none⟩), .int .i64 block, .int .i64 page, .string data, .string beside] w fun e w' =>
      e = .returned (.int .i64 (c.program block page data beside).1) ∧ ChipAt w' L (c.program block page data beside).2 ∧ Upd L.foot w w' := by
  by_cases hr : c.ready block page = 0
  · by_cases hs : (data.size : Int) = c.sz ∧ beside.size = 32
    · by_cases hf : (c.at block).failed = false ∧ page = (c.at block).next
      · exact program_good L c block page data beside w h hfu hr hs.1 hs.2 hf.1 hf.2
      · refine program_sin L c block page data beside w h hr hs.1 hs.2 ?_
        by_cases h1 : (c.at block).failed = true
        · exact .inl h1
        · exact .inr fun e => hf ⟨by simpa using h1, e⟩
    · refine program_size L c block page data beside w h hr ?_ hd hb
      by_cases h1 : (data.size : Int) = c.sz
      · exact .inr fun e => hs ⟨h1, e⟩
      · exact .inl h1
  · exact program_no L c block page data beside w h hr

end Go.Proofs.Ytljphijjcagciaa
