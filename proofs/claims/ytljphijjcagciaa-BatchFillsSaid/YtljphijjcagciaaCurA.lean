/-
  The walks over a writer of fields.
  The walks over numbers as bytes.
-/
import Derived.Test.YtljphijjcagciaaCore
import Derived.Test.YtljphijjcagciaaPolyA
import Derived.Lib.AppendStr
namespace Go.Proofs.Ytljphijjcagciaa
open Go.RowKit

def byteV (b : UInt8) : Value := .int .u8 b.toNat
theorem strCells_eq (s : ByteArray) : Lib.strCells s = (bs s).map byteV := rfl

/-- A writer at a has written l; its bytes lie in a block from B on. -/
def WrAt (w : World) (a B : Nat) (l : List UInt8) (wrong : Bool) : Prop :=
  a < B ∧ ∃ v, Row w a 139 [v, .bool wrong] ∧ w.ownsRow B 5 1 v l.length (l.map byteV)
def wrFoot (a B : Nat) (k : Nat) : Prop := k = a ∨ B ≤ k

theorem ownsRow_val {w : World} {B e size n : Nat} {v : Value} {xs : List Value} (h : w.ownsRow B e size v n xs) : v = .slice none 0 0 ∨ ∃ g cap, v = .slice (some ⟨g, 0, none⟩) n cap ∧ n ≤ cap ∧ cap ≤ maxLen ∧ B ≤ g := by
  rcases h.2 with ⟨h1, _⟩ | ⟨g, cap, cur, h1, h2, _, h3, h4, _⟩
  · exact .inl h1
  · exact .inr ⟨g, cap, h1, h3, h4, h2⟩

theorem ownsRow_slice {w : World} {B e size n : Nat} {v : Value} {xs : List Value} (h : w.ownsRow B e size v n xs) : ∃ ao cap, v = .slice ao n cap := by
  rcases h.2 with ⟨h1, h2⟩ | ⟨g, cap, cur, h1, _⟩
  · subst h2; exact ⟨none, 0, h1⟩
  · exact ⟨_, _, h1⟩
theorem Row.grown {w w' : World} {b : Nat} {t : TypeId} {cs : List Value} {row : Option Nat} (h : Row w b t cs) (hg : w.grownBy w' row) (hne : some b ≠ row) : Row w' b t cs := (hg.block b h.lt hne).trans h

theorem Try.info_u8 : (Try.prog.info? 5).map (fun i => (i.zero, i.size, i.bytes)) = some (some (.int .u8 0), 1, 1) := by kernel_rfl

theorem Upd.grown {S : Nat → Prop} {a w w' : World} {row : Option Nat} (h : Upd S a w) (hg : w.grownBy w' row) (hr : ∀ k, row = some k → S k ∨ a.heap.size ≤ k) : Upd S a w' :=
  ⟨hg.os.trans h.os, hg.tape.trans h.tape, hg.output.trans h.output, Nat.le_trans h.size hg.size, fun k hk hn =>
    (hg.block k (Nat.lt_of_lt_of_le hk h.size) (fun e => by rcases hr k e.symm with h1 | h1; · exact hn h1
                                                            · omega)).trans (h.block k hk hn)⟩

theorem put_any (a B : Nat) (l : List UInt8) (wrong may : Bool) (s : ByteArray) (w : World) (h : WrAt w a B l wrong) (hsz : l.length + s.size ≤ 1000000) (hB : B ≤ w.heap.size) :
    Calls Try.prog 95 #[.pointer (some ⟨a, 0, none⟩), .string s, .bool may] w fun e w' => e = .returned (.pointer (some ⟨a, 0, none⟩)) ∧ WrAt w' a B (l ++ bs s) (wrong || !may) ∧ Upd (wrFoot a B) w w' := by
  obtain ⟨hab, v, hr, ho⟩ := h
  obtain ⟨i0, hi, hz0, hz1, hz2⟩ := info_parts Try.info_u8
  have c0 := hr.cell 0
  have c1 := hr.cell 1
  simp only [List.getElem?_cons_zero, List.getElem?_cons_succ] at c0 c1
  have f0 := hr.frozen 0; have f1 := hr.frozen 1
  have hr1 := hr.put (cs' := [v, .bool (wrong || !may)]) 1 (.bool (wrong || !may)) rfl
  have ho1 := ho.kept (w' := w.setCell ⟨a, 1, none⟩ (.bool (wrong || !may))) (row := some a) ⟨rfl, rfl, rfl, by simp, fun k hk hn => Below.heap_setCell _ _ _ _ (fun e => hn (by rw [e]))⟩ (by
    rcases ownsRow_val ho with rfl | ⟨g, cap, rfl, _, _, hg⟩
    · left; rfl
    · right; simp [Value.ownBlock]; omega)
  have HR1 := hid hr1; have HO1 := hid ho1; have HAB := hid hab
  clear hr1 ho1
  have hne : some a ≠ v.ownBlock := by
    rcases ownsRow_val ho with rfl | ⟨g, cap, rfl, _, _, hg⟩
    · simp [Value.ownBlock]
    · simp [Value.ownBlock]; omega
  have hvl : ∀ k, v.ownBlock = some k → wrFoot a B k := by
    rcases ownsRow_val ho with rfl | ⟨g, cap, rfl, _, _, hg⟩
    · intro k hk; simp [Value.ownBlock] at hk
    · intro k hk; simp [Value.ownBlock] at hk; subst hk; exact .inr hg
  have b1 : l.length + s.size ≤ maxLen := by unfold maxLen; omega
  have b2 : l.length + s.size ≤ 140737488355328 := by omega
  have HNE := hid hne; have HVL := hid hvl
  have B1 := hid b1; have B2 := hid b2; have HI := hid hi; have HZ0 := hid hz0; have HZ1 := hid hz1; have HZ2 := hid hz2; have HO := hid ho; have HR := hid hr
  clear b1 b2 hi hz0 hz1 hz2 ho hr hne hvl
  cases wrong <;> cases may
  all_goals
    (try simp at HO1 HR1)
    go_enter Try.func95, Try.ntmps95
    go_wp2_with (at_builtin; refine Lib.wpList_append_own_string _ rfl _ _ 114 9 rfl B 5 i0 Try.underlying114 Try.underlying9 HI.out HZ0.out HZ1.out HZ2.out v _ _ rfl HO1.out s rfl B1.out B2.out (by rw [World.size_setCell]; exact hB) ?_; intro v' w1 hown' hgrow hnil; have hr2 := HR1.out.grown hgrow HNE.out; have d0 := hr2.cell 0; simp only [List.getElem?_cons_zero] at d0; have e0 := hr2.frozen 0; obtain ⟨ao, cap, hv'⟩ := ownsRow_slice hown'; rw [hv']; have HOW := hid hown'; have HGR := hid hgrow; have HR2 := hid hr2; have HV := hid hv'; clear hown' hgrow hr2 hv' hnil)
    go_ret
    refine ⟨rfl, ⟨HAB.out, .slice ao (l.length + s.size) cap, HR2.out.put 0 _ rfl, ?_⟩, ?_⟩
    · have h1 := HOW.out
      rw [HV.out] at h1
      have h2 := ownsRow_setCell_below h1 (a := ⟨a, 0, none⟩) HAB.out (.slice ao (l.length + s.size) cap)
      rw [List.length_append, bs_len, List.map_append]
      exact h2
    · exact (((Upd.refl _ _).setCell (p := ⟨a, 1, none⟩) (.inl (.inl rfl)) _).grown HGR.out (fun k hk => .inl (HVL.out k hk))).setCell (p := ⟨a, 0, none⟩) (.inl (.inl rfl)) _

theorem Bytes_any (a B : Nat) (l : List UInt8) (w : World) (h : WrAt w a B l false) :
    Calls Try.prog 83 #[.pointer (some ⟨a, 0, none⟩)] w fun e w' => e = .returned (.tuple #[.string (mkS l), .int .i64 0]) ∧ Upd noBlk w w' := by
  obtain ⟨hab, v, hr, ho⟩ := h
  have c0 := hr.cell 0
  have c1 := hr.cell 1
  simp only [List.getElem?_cons_zero, List.getElem?_cons_succ] at c0 c1
  rcases ownsRow_val ho with rfl | ⟨g, cap, rfl, _, _, _⟩
  · have hl : l = [] := by
      rcases ho.2 with ⟨_, h2⟩ | ⟨g, cap, cur, h1, _⟩
      · exact List.length_eq_zero_iff.1 h2
      · simp at h1
    subst hl
    have hcv : (convert 114 9 (.slice none 0 0)).run Try.prog w = .ok (.string ⟨#[]⟩) w := by
      rw [run_convert_bytes_string w 114 9 5 none 0 0 Try.underlying114 Try.underlying5 Try.underlying9]
      rfl
    clear ho hr
    go_enter Try.func83, Try.ntmps83
    go_wp2_with fail
    go_ret2
    exact ⟨rfl, Upd.refl _ _⟩
  · have hcv := run_convert_bytes_back (P := Try.prog) w 114 9 5 ⟨g, 0, none⟩ cap l Try.underlying114 Try.underlying5 Try.underlying9 (fun j hj => ho.cells (g := g) rfl j _ (by simp [hj, byteV]))
    clear ho hr
    go_enter Try.func83, Try.ntmps83
    go_wp2_with fail
    go_ret2
    exact ⟨rfl, Upd.refl _ _⟩

end Go.Proofs.Ytljphijjcagciaa

namespace Go.Proofs.Ytljphijjcagciaa
open Go.RowKit

theorem ret_bool {a b : Bool} (h : a = b) : Ending.returned (.bool a) = .returned (.bool b) := by rw [h]

theorem Fits_may (n : Nat) (w : Int) (h : mayB w = false) (wd : World) : Calls Try.prog 96 #[.int .u64 n, .int .i64 w] wd fun e w' => e = .returned (.bool false) ∧ wd = w' := by
  have H := hid (fun wd => may_any w wd)
  rw [h] at H
  go_enter Try.func96, Try.ntmps96
  go_wp2_with (go_at_call 97; refine (H.out _).mono ?_; rintro e w' ⟨rfl, rfl⟩)
  go_ret
  exact ⟨rfl, rfl⟩

/-- Of a number that has room. -/
theorem Fits_yes (n : Nat) (w : Nat) (h1 : 1 ≤ w) (h8 : w ≤ 8) (hn : n < 256 ^ w) (wd : World) : Calls Try.prog 96 #[.int .u64 n, .int .i64 w] wd fun e w' => e = .returned (.bool true) ∧ wd = w' := by
  have H := hid (fun wd => may_any w wd)
  rw [show mayB w = true by simp [mayB]; omega] at H
  have hw : w = 1 ∨ w = 2 ∨ w = 3 ∨ w = 4 ∨ w = 5 ∨ w = 6 ∨ w = 7 ∨ w = 8 := by omega
  have hn64 : (n : Int) ≤ 18446744073709551615 := by
    have : n < 256 ^ 8 := Nat.lt_of_lt_of_le hn (Nat.pow_le_pow_right (by omega) h8)
    omega
  rcases hw with rfl | rfl | rfl | rfl | rfl | rfl | rfl | rfl
  all_goals
    go_enter Try.func96, Try.ntmps96
    go_wp2_with (go_at_call 97; refine (H.out _).mono ?_; rintro e w' ⟨rfl, rfl⟩)
    go_ret
    first | exact ⟨rfl, rfl⟩ | exact ⟨ret_bool (by rw [beq_iff_eq]; omega), rfl⟩

/-- The array as far as it is filled, from its end. -/
def putWay (n k : Nat) : List Value := (List.range 8).map fun j => .int .u8 (if 7 - j < k then ((n / 256 ^ (7 - j) % 256 : Nat) : Int) else 0)
theorem putWay_length (n k : Nat) : (putWay n k).length = 8 := by simp [putWay]
theorem putWay_get (n k j : Nat) (hj : j < 8) : (putWay n k)[j]? = some (.int .u8 (if 7 - j < k then ((n / 256 ^ (7 - j) % 256 : Nat) : Int) else 0)) := by
  simp [putWay, hj]
theorem putWay_set (n k : Nat) (hk : k < 8) : (putWay n k).set (7 - k) (.int .u8 ((n / 256 ^ k % 256 : Nat) : Int)) = putWay n (k + 1) := by
  refine List.ext_getElem? fun j => ?_
  rw [List.getElem?_set]
  by_cases hj : j < 8
  · rw [putWay_get _ _ _ hj, putWay_get _ _ _ hj]
    by_cases e : 7 - k = j
    · subst e
      have e2 : 7 - (7 - k) = k := by omega
      rw [if_pos rfl, if_pos (by rw [putWay_length]; exact hj), e2, if_pos (Nat.lt_succ_self k)]
    · rw [if_neg e]
      have : (7 - j < k) = (7 - j < k + 1) := by rw [eq_iff_iff]; omega
      simp only [this]
  · rw [if_neg (by omega), List.getElem?_eq_none (by rw [putWay_length]; omega), List.getElem?_eq_none (by rw [putWay_length]; omega)]

set_option maxRecDepth 100000 in
theorem Put_any (n w : Nat) (h1 : 1 ≤ w) (h8 : w ≤ 8) (hn : n < 18446744073709551616) (wd : World) :
    Calls Try.prog 86 #[.int .u64 n, .int .i64 w] wd fun e w' => e = .returned (.string (mkS (putB n w))) ∧ Upd noBlk wd w' := by
  have H := hid (fun wd => may_any w wd)
  rw [show mayB w = true by simp [mayB]; omega] at H
  have hn2 : (n : Int) ≤ 18446744073709551615 := by omega
  have h8' : (w : Int) ≤ 8 := by omega
  have h1' : 1 ≤ (w : Int) := by omega
  have HN := hid hn; clear hn
  go_enter Try.func86, Try.ntmps86
  go_wp2_with (go_at_call 97; refine (H.out _).mono ?_; rintro e w' ⟨rfl, rfl⟩)
  go_loopw [10] (fun i wr => ∃ k : Nat, k ≤ 8 ∧ i = .int .i64 k ∧ Row wr wd.heap.size 154 (putWay n k) ∧ Upd noBlk wd wr) (fun i _ => 8 - (intOf i).toNat)
  case atStart => exact ⟨0, by omega, rfl, Row.new wd (putWay n 0) _, (Upd.refl _ _).alloc _⟩
  case round =>
    obtain ⟨k, hk, rfl, hr, hu⟩ := hrel
    by_cases hlt : k < 8
    · have hc := hr.get (putWay_get n k (7 - k) (by omega))
      have hf := hr.frozen (7 - k)
      have hset := hr.put _ _ (putWay_set n k hlt)
      have HU := hid (hu.setCell (p := ⟨wd.heap.size, 7 - k, none⟩) (.inr (Nat.le_refl _)) (.int .u8 ((n / 256 ^ k % 256 : Nat) : Int)))
      have HS := hid hset
      clear hset hr hu
      have hk8 : k = 0 ∨ k = 1 ∨ k = 2 ∨ k = 3 ∨ k = 4 ∨ k = 5 ∨ k = 6 ∨ k = 7 := by omega
      rcases hk8 with rfl | rfl | rfl | rfl | rfl | rfl | rfl | rfl
      all_goals
        simp at HS HU
        (try rw [show ((n : Int) / 72057594037927936 % 256) = (n : Int) / 72057594037927936 by omega] at HS HU)
        go_wp2_with fail
        exact ⟨⟨_, by decide, rfl, HS.out, HU.out⟩, by simp [intOf]⟩
    · have e : k = 8 := by omega
      subst e
      have hw : w = 1 ∨ w = 2 ∨ w = 3 ∨ w = 4 ∨ w = 5 ∨ w = 6 ∨ w = 7 ∨ w = 8 := by omega
      have hcs := fun j hj => hr.get (putWay_get n 8 j hj)
      have HU := hid hu; have HR := hid hr; clear hu hr
      have hcv := run_convert_bytes_back (P := Try.prog) wr 114 9 5 ⟨wd.heap.size, 8 - w, none⟩ w (putB n w) Try.underlying114 Try.underlying5 Try.underlying9 (fun j hj => by
        have hj' : j < w := by simpa [putB] using hj
        rw [Addr.add_lit, hcs (8 - w + j) (by omega), if_pos (by omega)]
        simp only [putB, List.getElem_map, List.getElem_range]
        rw [show 7 - (8 - w + j) = w - 1 - j by omega]
        rfl)
      rw [show (putB n w).length = w by simp [putB]] at hcv
      clear hcs
      rcases hw with rfl | rfl | rfl | rfl | rfl | rfl | rfl | rfl
      all_goals
        simp at hcv
        go_wp2_with fail
        go_ret
        exact ⟨rfl, HU.out⟩

theorem putB_length (n w : Nat) : (putB n w).length = w := by simp [putB]

theorem Number_any (a B : Nat) (l : List UInt8) (n width : Nat) (w : World) (h : WrAt w a B l false) (h1 : 1 ≤ width) (h8 : width ≤ 8) (hn : n < 256 ^ width) (hsz : l.length ≤ 900000) (hB : B ≤ w.heap.size) :
    Calls Try.prog 82 #[.pointer (some ⟨a, 0, none⟩), .int .u64 n, .int .i64 width] w fun e w' => e = .returned (.pointer (some ⟨a, 0, none⟩)) ∧ WrAt w' a B (l ++ putB n width) false ∧ Upd (wrFoot a B) w w' ∧ B ≤ w'.heap.size := by
  have hn64 : n < 18446744073709551616 := by
    have : n < 256 ^ 8 := Nat.lt_of_lt_of_le hn (Nat.pow_le_pow_right (by omega) h8)
    omega
  have HP := hid (fun w => Put_any n width h1 h8 hn64 w)
  have HF := hid (fun w => Fits_yes n width h1 h8 hn w)
  have HW := hid h; have HN := hid hn; have HN64 := hid hn64
  clear h hn hn64
  go_enter Try.func82, Try.ntmps82
  go_wp2_with fail
  refine (HP.out _).mono ?_; rintro e w1 ⟨rfl, hu1⟩
  have HU1 := hid hu1
  clear hu1
  go_wp2_with fail
  refine (HF.out _).mono ?_; rintro e w2 ⟨rfl, rfl⟩
  have h2 : WrAt w1 a B l false := by
    obtain ⟨g1, v, g2, g3⟩ := HW.out
    exact ⟨g1, v, g2.upd HU1.out id, g3.kept (row := none) ⟨HU1.out.os, HU1.out.tape, HU1.out.output, HU1.out.size, fun k hk _ => HU1.out.block k hk id⟩ (by cases v.ownBlock <;> simp)⟩
  have HPU := hid (put_any a B l false true (mkS (putB n width)) w1 h2 (by rw [show (mkS (putB n width)).size = (putB n width).length from rfl, putB_length]; omega) (Nat.le_trans hB HU1.out.size))
  clear h2
  go_wp2_with fail
  refine HPU.out.mono ?_; rintro e w3 ⟨rfl, h3, hu3⟩
  go_wp2_with fail
  go_ret
  have h3' : WrAt w3 a B (l ++ putB n width) false := h3
  exact ⟨rfl, h3', (HU1.out.mono (fun _ _ hk => hk.elim)).trans' hu3, Nat.le_trans hB (Nat.le_trans HU1.out.size hu3.size)⟩

end Go.Proofs.Ytljphijjcagciaa
