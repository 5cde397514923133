/-
  The walks over a reader of fields.
-/
import Derived.Test.YtljphijjcagciaaTag2
namespace Go.Proofs.Ytljphijjcagciaa
open Go.RowKit

theorem or_add (y : Nat) (b : Nat) (hb : b < 256) : y * 256 ||| b = y * 256 + b := by
  have := Nat.two_pow_add_eq_or_of_lt (i := 8) (b := b) (by simpa using hb) y
  rw [Nat.mul_comm y 256]
  simpa using this.symm

theorem getB_snoc (l : List UInt8) (b : UInt8) : getB (l ++ [b]) = (getB l * 256 + b.toNat) % 18446744073709551616 := by simp [getB]
theorem getB_lt : ∀ (l : List UInt8), getB l < 18446744073709551616 := by
  intro l
  rcases List.eq_nil_or_concat l with rfl | ⟨l', b, rfl⟩
  · simp [getB]
  · rw [List.concat_eq_append, getB_snoc]; omega

theorem Get_any (s : ByteArray) (hs : s.size ≤ 1000000) (w : World) :
    Calls Try.prog 102 #[.string s] w fun e w' => e = .returned (.int .u64 (getB (bs s) : Nat)) ∧ w = w' := by
  go_enter Try.func102, Try.ntmps102
  go_wp2_with fail
  go_loop [3, 7] (fun n i => ∃ k : Nat, k ≤ s.size ∧ i = .int .i64 k ∧ n = .int .u64 (getB ((bs s).take k) : Nat)) (fun _ i => s.size - (intOf i).toNat)
  case atStart => exact ⟨0, by omega, rfl, rfl⟩
  case round =>
    obtain ⟨k, hk, rfl, rfl⟩ := hrel
    by_cases hlt : k < s.size
    · have hl : k < (bs s).length := by rw [bs_len]; exact hlt
      have hsn : (bs s).take (k + 1) = (bs s).take k ++ [s[k]] := by rw [List.take_succ_eq_append_getElem hl]; rfl
      have hnx := getB_snoc ((bs s).take k) s[k]
      rw [← hsn] at hnx
      have hy := getB_lt ((bs s).take k)
      have hb : s[k].toNat < 256 := UInt8.toNat_lt _
      generalize getB ((bs s).take k) = y at *
      have hor : bits .or .u64 (IntKind.u64.wrap ((y : Int) * 256)) (s[k].toNat : Int) = (getB ((bs s).take (k + 1)) : Nat) := by
        rw [IntKind.wrap_u64]
        have e : (y : Int) * 256 % 18446744073709551616 = ((y * 256 % 18446744073709551616 : Nat) : Int) := by omega
        rw [e, bits_or_u64_nat _ _ (Nat.mod_lt _ (by omega)) (by omega), hnx]
        have e2 : y * 256 % 18446744073709551616 = (y % 72057594037927936) * 256 := by omega
        rw [e2, or_add _ _ hb]
        omega
      have HO := hid hor
      clear hsn hnx hor
      go_wp2_with fail
      exact ⟨⟨k + 1, by omega, by go_num, congrArg (Value.int .u64) HO.out⟩, by simp [intOf]; omega⟩
    · go_wp2_with fail
      go_ret
      have e : k = s.size := by omega
      subst e
      exact ⟨by rw [List.take_of_length_le (by rw [bs_len]; omega)]; rfl, rfl⟩


/-- A reader at a has this left. -/
def RdAt (w : World) (a : Nat) (left : ByteArray) (wrong : Bool) : Prop := Row w a 159 [.string left, .bool wrong]
def at1 (a : Nat) (k : Nat) : Prop := k = a

theorem fail_any (a : Nat) (left : ByteArray) (wrong : Bool) (w : World) (h : RdAt w a left wrong) :
    Calls Try.prog 103 #[.pointer (some ⟨a, 0, none⟩)] w fun e w' => e = .returned (.tuple #[]) ∧ RdAt w' a (mkS []) true ∧ Upd (at1 a) w w' := by
  have c0 := h.cell 0; have c1 := h.cell 1
  simp only [List.getElem?_cons_zero, List.getElem?_cons_succ] at c0 c1
  have f0 := h.frozen 0; have f1 := h.frozen 1
  have g := (h.put (cs' := [.string left, .bool true]) 1 (.bool true) rfl).put (cs' := [.string (mkS []), .bool true]) 0 (.string (mkS [])) rfl
  have G := hid g; clear g h
  go_enter Try.func103, Try.ntmps103
  go_wp2_with fail
  go_end0
  exact ⟨rfl, G.out, ((Upd.refl (at1 a) w).setCell (p := ⟨a, 1, none⟩) (.inl (show at1 a a from rfl)) _).setCell (p := ⟨a, 0, none⟩) (.inl (show at1 a a from rfl)) _⟩

/-- As many bytes are there. -/
theorem take_yes (a : Nat) (left : ByteArray) (n : Nat) (hn : n ≤ left.size) (_hs : left.size ≤ 1000000) (w : World) (h : RdAt w a left false) :
    Calls Try.prog 101 #[.pointer (some ⟨a, 0, none⟩), .int .i64 n] w fun e w' => e = .returned (.tuple #[.string (left.extract 0 n), .bool true]) ∧ RdAt w' a (left.extract n left.size) false ∧ Upd (at1 a) w w' := by
  have c0 := h.cell 0; have c1 := h.cell 1
  simp only [List.getElem?_cons_zero, List.getElem?_cons_succ] at c0 c1
  have f0 := h.frozen 0; have f1 := h.frozen 1
  have g := h.put (cs' := [.string (left.extract n left.size), .bool false]) 0 (.string (left.extract n left.size)) rfl
  have G := hid g; clear g h
  go_enter Try.func101, Try.ntmps101
  go_wp2_with fail
  go_ret2
  exact ⟨rfl, G.out, (Upd.refl (at1 a) w).setCell (p := ⟨a, 0, none⟩) (.inl (show at1 a a from rfl)) _⟩

/-- They aren't. -/
theorem take_no (a : Nat) (left : ByteArray) (wrong : Bool) (n : Int) (hn : wrong = true ∨ n < 0 ∨ (left.size : Int) < n) (_hs : left.size ≤ 1000000) (w : World) (h : RdAt w a left wrong) :
    Calls Try.prog 101 #[.pointer (some ⟨a, 0, none⟩), .int .i64 n] w fun e w' => e = .returned (.tuple #[.string (mkS []), .bool false]) ∧ RdAt w' a (mkS []) true ∧ Upd (at1 a) w w' := by
  have c0 := h.cell 0; have c1 := h.cell 1
  simp only [List.getElem?_cons_zero, List.getElem?_cons_succ] at c0 c1
  have HF := hid (fail_any a left wrong w h)
  clear h
  cases wrong
  · have hn' : n < 0 ∨ (left.size : Int) < n := hn.resolve_left (by simp)
    clear hn
    rcases hn' with hn | hn
    all_goals
      go_enter Try.func101, Try.ntmps101
      go_wp2_with (go_at_call 103; refine HF.out.mono ?_; rintro e w1 ⟨rfl, hr, hu⟩; have HR := hid hr; have HU := hid hu; clear hr hu)
      all_goals
        go_ret2
        exact ⟨rfl, HR.out, HU.out⟩
  · clear hn
    go_enter Try.func101, Try.ntmps101
    go_wp2_with fail
    refine HF.out.mono ?_; rintro e w1 ⟨rfl, hr, hu⟩
    have HR := hid hr; have HU := hid hu; clear hr hu
    go_wp2_with fail
    go_ret2
    exact ⟨rfl, HR.out, HU.out⟩


theorem RNumber_yes (a : Nat) (left : ByteArray) (n : Nat) (h1 : 1 ≤ n) (h8 : n ≤ 8) (hn : n ≤ left.size) (hs : left.size ≤ 1000000) (w : World) (h : RdAt w a left false) :
    Calls Try.prog 99 #[.pointer (some ⟨a, 0, none⟩), .int .i64 n] w fun e w' => e = .returned (.int .u64 (getB ((bs left).take n) : Nat)) ∧ RdAt w' a (left.extract n left.size) false ∧ Upd (at1 a) w w' := by
  have HF := hid (fun w => Fits_yes 0 n h1 h8 (Nat.pow_pos (by omega)) w)
  have HT := hid (take_yes a left n hn hs w h)
  have hb : bs (left.extract 0 n) = (bs left).take n := by
    unfold bs
    rw [ByteArray.data_extract]
    simp
  have HG := hid (fun w => Get_any (left.extract 0 n) (by rw [ByteArray.size_extract]; omega) w)
  rw [hb] at HG
  clear h hb
  go_enter Try.func99, Try.ntmps99
  go_wp2_with fail
  refine (HF.out _).mono ?_; rintro e w1 ⟨rfl, rfl⟩
  go_wp2_with fail
  refine HT.out.mono ?_; rintro e w1 ⟨rfl, hr, hu⟩
  have HR := hid hr; have HU := hid hu; clear hr hu
  go_wp2_with fail
  refine (HG.out _).mono ?_; rintro e w2 ⟨rfl, rfl⟩
  go_wp2_with fail
  go_ret
  exact ⟨rfl, HR.out, HU.out⟩

theorem Read_new (s : ByteArray) (w : World) :
    Calls Try.prog 98 #[.string s] w fun e w' => e = .returned (.pointer (some ⟨w.heap.size, 0, none⟩)) ∧ RdAt w' w.heap.size s false ∧ w'.heap.size = w.heap.size + 1 ∧ Upd noBlk w w' := by
  go_enter Try.func98, Try.ntmps98
  go_wp2_with fail
  go_ret
  exact ⟨rfl, Row.new w [.string s, .bool false] _, by simp, (Upd.refl _ _).alloc _⟩

end Go.Proofs.Ytljphijjcagciaa

