/-
  The walks over what a page's bytes are.
-/
import Derived.Test.YtljphijjcagciaaNand2
import Derived.Test.YtljphijjcagciaaLib
namespace Go.Proofs.Ytljphijjcagciaa
open Go.RowKit

theorem Upd.cell0 {w w' : World} (h : Upd noBlk w w') {a : Addr} {v : Value} (hc : w.cell? a = some v) : w'.cell? a = some v := UW.cell ⟨w', h⟩ hc

instance (w : World) : Nonempty (UW w) := ⟨⟨w, Upd.refl _ _⟩⟩

theorem mkS_size (l : List UInt8) : (mkS l).size = l.length := rfl
theorem repL_length (l : List UInt8) : ∀ n, (repL l n).length = n * l.length
  | 0 => by simp [repL]
  | n + 1 => by simp [repL, repL_length l n, Nat.succ_mul]; omega
theorem bs_length (s : ByteArray) : (bs s).length = s.size := by cases s; simp [bs, ByteArray.size]
theorem repS_size (s : ByteArray) (n : Nat) : (repS s n).size = n * s.size := by simp [repS, mkS_size, repL_length, bs_length]
theorem toList_bs (s : ByteArray) : s.toList = bs s := ByteArray.toList_eq s
theorem bs_inj {s t : ByteArray} (h : bs s = bs t) : s = t := by
  cases s; cases t; simp [bs] at h; simp [h]
theorem toList_inj {s t : ByteArray} (h : s.toList = t.toList) : s = t := bs_inj (by rw [← toList_bs, ← toList_bs, h])
theorem toList_nil {s : ByteArray} (h : s.size = 0) : s.toList = [] := by
  rw [toList_bs]; exact List.length_eq_zero_iff.1 (by rw [bs_length]; exact h)
theorem Chip.ff_size (c : Chip) : c.ff.size = c.whole := by simp [Chip.ff, repS_size, mkS_size]

theorem kept_any (L : CL) (c : Chip) (s : ByteArray) (w : World) (h : ChipAt w L c) :
    Calls Try.prog 71 #[.pointer (some ⟨L.a, 0, none⟩), .string s] w fun e w' => e = .returned (.string (c.kept s)) ∧ Upd noBlk w w' := by
  obtain ⟨c0, c1, c2, c3, c4, c5, c6, c7, c8, c9⟩ := h.cells
  have h1 := h.ok.sz32; have h2 := h.ok.sz1024
  have hr := fun w' => Repeat_any (mkS [255]) (c.sz + 32) w' (by omega) (by simp [mkS_size]; omega)
  have e : (c.sz + 32).toNat = c.whole := by unfold Chip.whole; omega
  rw [e] at hr
  have H := hid hr; clear hr e
  have HW := hid (whole_any c.nb c.np c.sz (by omega) h2)
  cases hk : (s.toList == (repS (mkS [255]) c.whole).toList)
  · have e : c.kept s = s := by unfold Chip.kept; rw [if_neg]; intro e; rw [e, Chip.ff] at hk; simp only [beq_self_eq_true, Bool.true_eq_false] at hk
    rw [e]
    go_enter Try.func71, Try.ntmps71
    go_wp2_with fail
    refine (HW.out _).mono ?_; rintro e w1 ⟨rfl, hu1⟩
    go_wp2_with fail
    refine (H.out _).mono ?_; rintro e w2 ⟨rfl, hu2⟩
    go_wp2_with fail
    go_ret
    exact ⟨rfl, hu1.trans' hu2⟩
  · have e : c.kept s = mkS [] := by unfold Chip.kept; rw [if_pos]; exact toList_inj (by simpa [Chip.ff] using hk)
    rw [e]
    go_enter Try.func71, Try.ntmps71
    go_wp2_with fail
    refine (HW.out _).mono ?_; rintro e w1 ⟨rfl, hu1⟩
    go_wp2_with fail
    refine (H.out _).mono ?_; rintro e w2 ⟨rfl, hu2⟩
    go_wp2_with fail
    go_ret
    exact ⟨rfl, hu1.trans' hu2⟩

theorem tear_any (L : CL) (c : Chip) (w : World) (h : ChipAt w L c) :
    Calls Try.prog 69 #[.pointer (some ⟨L.a, 0, none⟩)] w fun e w' => e = .returned (.string c.tear) ∧ Upd noBlk w w' := by
  obtain ⟨c0, c1, c2, c3, c4, c5, c6, c7, c8, c9⟩ := h.cells
  have h1 := h.ok.sz32; have h2 := h.ok.sz1024; have ht := h.ok.torn
  have HW := hid (whole_any c.nb c.np c.sz (by omega) h2)
  by_cases hz : c.torn.size = 0
  · have e : c.tear = mkS [] := by simp [Chip.tear, hz]
    have hz1 := toList_nil hz
    have hz2 : c.torn.toList.isEmpty = true := by rw [hz1]; rfl
    rw [e]
    go_enter Try.func69, Try.ntmps69
    go_wp2_with fail
    refine (HW.out _).mono ?_; rintro e w1 ⟨rfl, hu1⟩
    have d5 := hu1.cell0 c5
    go_wp2_with fail
    go_ret
    exact ⟨rfl, hu1⟩
  · have hz2 : c.torn.toList.isEmpty = false := by
      cases hh : c.torn.toList.isEmpty
      · rfl
      · exfalso; apply hz; have := List.isEmpty_iff.1 hh; rw [toList_bs] at this; rw [← bs_length, this]; rfl
    have HZ := hid hz; clear hz
    go_enter Try.func69, Try.ntmps69
    go_wp2_with fail
    refine (HW.out _).mono ?_; rintro e w1 ⟨rfl, hu1⟩
    have d5 := hu1.cell0 c5
    go_wp2_with fail
    have hpos : 0 < c.torn.size := by have := HZ.out; omega
    have hsum : 0 ≤ (c.sz + 32) / (c.torn.size : Int) := Int.ediv_nonneg (by omega) (by omega)
    have hle : (c.sz + 32) / (c.torn.size : Int) ≤ c.sz + 32 := Int.ediv_le_self _ (by omega)
    have D5 : ∀ n : UW w1, n.w.cell? ⟨L.a, 5, none⟩ = some (.string c.torn) := fun n => n.cell d5
    have ew : c.sz + 32 = (c.whole : Int) := by unfold Chip.whole; omega
    have em : ((c.sz + 32) / (c.torn.size : Int) + 1).toNat = c.whole / c.torn.size + 1 := by
      rw [ew, show ((c.whole : Int) / (c.torn.size : Int)) = ((c.whole / c.torn.size : Nat) : Int) from rfl]; generalize c.whole / c.torn.size = q; omega
    have hR : c.sz + 32 ≤ ((repS c.torn (c.whole / c.torn.size + 1)).size : Int) := by
      have g1 := Nat.div_add_mod c.whole c.torn.size
      have g2 := Nat.mod_lt c.whole hpos
      have g3 : c.whole ≤ (c.whole / c.torn.size + 1) * c.torn.size := by
        rw [Nat.succ_mul, Nat.mul_comm]; omega
      rw [repS_size, ew]; exact Int.ofNat_le.2 g3
    have hmul : (c.torn.size : Int) * ((c.sz + 32) / (c.torn.size : Int) + 1) ≤ 100000000 := by
      have := Int.mul_ediv_self_le (x := c.sz + 32) (k := (c.torn.size : Int)) (by omega)
      rw [Int.mul_add]; omega
    have HR : ∀ n : UW w1, Calls Try.prog 32 #[.string c.torn, .int .i64 ((c.sz + 32) / (c.torn.size : Int) + 1)] n.w fun e w' => e = .returned (.string (repS c.torn (c.whole / c.torn.size + 1))) ∧ ∃ m : UW w1, w' = m.w := fun n => by
      have := Repeat_any c.torn ((c.sz + 32) / (c.torn.size : Int) + 1) n.w (by omega) hmul
      rw [em] at this; exact UW.call this
    have HK : ∀ n : UW w1, Calls Try.prog 71 #[.pointer (some ⟨L.a, 0, none⟩), .string ((repS c.torn (c.whole / c.torn.size + 1)).extract 0 c.whole)] n.w fun e w' => e = .returned (.string c.tear) ∧ ∃ m : UW w1, w' = m.w := fun n => by
      have := kept_any L c ((repS c.torn (c.whole / c.torn.size + 1)).extract 0 c.whole) n.w (h.upd (hu1.trans' n.upd) (fun _ hk => hk.elim))
      have e : c.tear = c.kept ((repS c.torn (c.whole / c.torn.size + 1)).extract 0 c.whole) := by simp [Chip.tear, HZ.out]
      rw [e]; exact UW.call this
    have ew2 : (c.sz + 32).toNat = c.whole := by omega
    generalize repS c.torn (c.whole / c.torn.size + 1) = R at hR HR HK
    have HR' := hid HR; have HK' := hid HK; have hU := hid hu1; have E2 := hid ew2
    clear HR HK em ew ew2 hmul hu1
    refine wp_region_upd (by kernel_rfl) (by kernel_rfl) ?_
    repeat (go_big_quiet_step (first | exact HR'.out _ | (rw [E2.out]; exact HK'.out _)))
    refine wpQuiet_nil ?_
    rintro _ ⟨nq, rfl⟩
    go_wp2_with fail
    go_ret
    exact ⟨rfl, hU.out.trans' nq.upd⟩

end Go.Proofs.Ytljphijjcagciaa
