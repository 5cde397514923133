/-
  How a pool lies in memory, and the walks over its small methods.
  The walks over a pool's making, counting and choosing.
-/
import Derived.Test.YtljphijjcagciaaCore
import Derived.Test.YtljphijjcagciaaDriveA
import Derived.Test.YtljphijjcagciaaNandA
namespace Go.Proofs.Ytljphijjcagciaa
open Go.RowKit

def pblk (_ : Nat) (b : PBlk) : List Value := [.int .i64 b.st, .int .i64 b.wear]
theorem pblk_length (p : Nat) (b : PBlk) : (pblk p b).length = 2 := rfl
structure PL where
  a : Nat
  b : Nat
def PL.foot (L : PL) (k : Nat) : Prop := k = L.a ∨ k = L.b
structure PoolAt (w : World) (L : PL) (p : Pool) : Prop where
  top : Row w L.a 107 [.slice (some ⟨L.b, 0, none⟩) p.bl.length p.bl.length]
  bls : Row w L.b 104 (flat pblk 0 p.bl)
  ne : L.a ≠ L.b
  n1 : 1 ≤ p.bl.length
  n256 : p.bl.length ≤ 256
theorem PoolAt.upd {w w' : World} {L : PL} {p : Pool} {S : Nat → Prop} (h : PoolAt w L p) (hu : Upd S w w') (hs : ∀ k, S k → ¬ L.foot k) : PoolAt w' L p :=
  ⟨h.top.upd hu (fun k => hs _ k (.inl rfl)), h.bls.upd hu (fun k => hs _ k (.inr rfl)), h.ne, h.n1, h.n256⟩
theorem PoolAt.foot_lt {w : World} {L : PL} {p : Pool} (h : PoolAt w L p) {k : Nat} (hk : L.foot k) : k < w.heap.size := by
  rcases hk with hk | hk
  · rw [hk]; exact h.top.lt
  · rw [hk]; exact h.bls.lt
theorem Pool.has_iff {p : Pool} {k : Int} : p.has k = true ↔ 0 ≤ k ∧ k < p.bl.length := by simp [Pool.has]
theorem Pool.at_eq {p : Pool} {k : Int} (hk : p.has k = true) : p.bl[k.toNat]? = some (p.at k) := by
  rw [Pool.has_iff] at hk
  have h2 : k.toNat < p.bl.length := by omega
  simp [Pool.at, List.getD, List.getElem?_eq_getElem h2]
theorem PoolAt.blk {w : World} {L : PL} {p : Pool} (h : PoolAt w L p) {k : Int} (hk : p.has k = true) :
    w.cell? ⟨L.b, k.toNat * 2, none⟩ = some (.int .i64 (p.at k).st) ∧ w.cell? ⟨L.b, k.toNat * 2 + 1, none⟩ = some (.int .i64 (p.at k).wear) := by
  have g := fun j hj => (h.bls.cell (k.toNat * 2 + j)).trans (flat_get (n := 2) pblk_length 0 p.bl k.toNat j (p.at k) (Pool.at_eq hk) hj)
  exact ⟨g 0 (by omega), g 1 (by omega)⟩
theorem PoolAt.blk_set {w : World} {L : PL} {p : Pool} (h : PoolAt w L p) {k : Int} (hk : p.has k = true) (j : Nat) (hj : j < 2) (u : Value) (b' : PBlk) (he : (pblk 0 (p.at k)).set j u = pblk 0 b') :
    PoolAt (w.setCell ⟨L.b, k.toNat * 2 + j, none⟩ u) L ⟨p.bl.set k.toNat b'⟩ := by
  have hl : (p.bl.set k.toNat b').length = p.bl.length := by simp
  refine ⟨?_, ?_, h.ne, by simpa using h.n1, by simpa using h.n256⟩
  · show Row _ _ _ [.slice (some ⟨L.b, 0, none⟩) (p.bl.set k.toNat b').length (p.bl.set k.toNat b').length]
    rw [hl]; exact h.top.far h.ne u
  · exact h.bls.put _ _ (flat_set (n := 2) pblk_length 0 p.bl k.toNat j (p.at k) b' u (Pool.at_eq hk) hj he)

theorem get_none (L : PL) (p : Pool) (k : Int) (w : World) (h : PoolAt w L p) (hk : p.has k = false) :
    Calls Try.prog 50 #[.pointer (some ⟨L.a, 0, none⟩), .int .i64 k] w fun e w' => e = .returned (.pointer none) ∧ w = w' := by
  have c0 := h.top.get (i := 0) rfl
  have h256 : (p.bl.length : Int) ≤ 256 := by have := h.n256; omega
  have hk' : k < 0 ∨ (p.bl.length : Int) ≤ k := by
    rcases Int.lt_or_le k 0 with h1 | h1
    · exact .inl h1
    · right; simp [Pool.has, h1] at hk; omega
  generalize p.bl.length = n at *
  clear h hk
  rcases hk' with h1 | h1
  · go_enter Try.func50, Try.ntmps50
    go_wp2
    go_ret
    exact ⟨rfl, rfl⟩
  · go_enter Try.func50, Try.ntmps50
    go_wp2
    all_goals
      go_ret
      exact ⟨rfl, rfl⟩
theorem get_some (L : PL) (p : Pool) (k : Int) (w : World) (h : PoolAt w L p) (hk : p.has k = true) :
    Calls Try.prog 50 #[.pointer (some ⟨L.a, 0, none⟩), .int .i64 k] w fun e w' => e = .returned (.pointer (some ⟨L.b, k.toNat * 2, none⟩)) ∧ w = w' := by
  have c0 := h.top.get (i := 0) rfl
  have h256 : (p.bl.length : Int) ≤ 256 := by have := h.n256; omega
  obtain ⟨h1, h2⟩ := Pool.has_iff.1 hk
  generalize p.bl.length = n at *
  clear h hk
  go_enter Try.func50, Try.ntmps50
  go_wp2
  go_ret
  exact ⟨rfl, rfl⟩
theorem Wear_any (L : PL) (p : Pool) (k : Int) (w : World) (h : PoolAt w L p) :
    Calls Try.prog 22 #[.pointer (some ⟨L.a, 0, none⟩), .int .i64 k] w fun e w' => e = .returned (.int .i64 (p.wear k)) ∧ w = w' := by
  cases hk : p.has k
  · have H := hid (get_none L p k w h hk)
    have e : p.wear k = 0 := by simp [Pool.wear, hk]
    rw [e]; clear e hk
    go_enter Try.func22, Try.ntmps22
    go_wp2_with (go_at_call 50; refine H.out.mono ?_; rintro e w' ⟨rfl, rfl⟩)
    go_ret
    exact ⟨rfl, rfl⟩
  · have H := hid (get_some L p k w h hk)
    obtain ⟨b0, b1⟩ := h.blk hk
    have e : p.wear k = (p.at k).wear := by simp [Pool.wear, hk]
    rw [e]; clear e hk
    go_enter Try.func22, Try.ntmps22
    go_wp2_with (go_at_call 50; refine H.out.mono ?_; rintro e w' ⟨rfl, rfl⟩)
    go_ret
    exact ⟨rfl, rfl⟩
theorem check_any (L : PL) (p : Pool) (k : Int) (w : World) (h : PoolAt w L p) :
    Calls Try.prog 92 #[.pointer (some ⟨L.a, 0, none⟩), .int .i64 k] w fun e w' => e = .returned (.int .i64 (if p.has k then 0 else 3)) ∧ w = w' := by
  cases hk : p.has k
  · have H := hid (get_none L p k w h hk)
    clear hk
    go_enter Try.func92, Try.ntmps92
    go_wp2_with (go_at_call 50; refine H.out.mono ?_; rintro e w' ⟨rfl, rfl⟩)
    go_ret
    exact ⟨rfl, rfl⟩
  · have H := hid (get_some L p k w h hk)
    clear hk
    go_enter Try.func92, Try.ntmps92
    go_wp2_with (go_at_call 50; refine H.out.mono ?_; rintro e w' ⟨rfl, rfl⟩)
    go_ret
    exact ⟨rfl, rfl⟩

theorem poolSet_any (L : PL) (p : Pool) (k s : Int) (w : World) (h : PoolAt w L p) (hs : 1 ≤ s ∧ s ≤ 3) :
    Calls Try.prog 76 #[.pointer (some ⟨L.a, 0, none⟩), .int .i64 k, .int .i64 s] w fun e w' => e = .returned (.int .i64 (p.set k s).1) ∧ PoolAt w' L (p.set k s).2 ∧ Upd L.foot w w' := by
  have H := hid (check_any L p k w h)
  obtain ⟨s1, s2⟩ := hs
  have G := hid h
  cases hk : p.has k
  · have e : p.set k s = (3, p) := by simp [Pool.set, hk]
    rw [e]; rw [hk] at H; clear e hk h
    go_enter Try.func76, Try.ntmps76
    go_wp2_with (go_at_call 92; refine H.out.mono ?_; rintro e w' ⟨rfl, rfl⟩)
    go_ret
    exact ⟨rfl, G.out, Upd.refl _ _⟩
  · have hsb : (decide (s < 1) || decide (3 < s)) = false := by simp; omega
    obtain ⟨b0, b1⟩ := h.blk hk
    have c0 := h.top.get (i := 0) rfl
    have f0 := h.bls.frozen (k.toNat * 2)
    have h256 : (p.bl.length : Int) ≤ 256 := by have := h.n256; omega
    obtain ⟨h1, h2⟩ := Pool.has_iff.1 hk
    rw [hk] at H
    by_cases h3 : (p.at k).st = 3
    · have e : p.set k s = (12, p) := by simp [Pool.set, hk, hsb, h3]
      rw [e]; rw [h3] at b0
      clear e hk h h3 hsb b1
      go_enter Try.func76, Try.ntmps76
      go_wp2_with (go_at_call 92; refine H.out.mono ?_; rintro e w' ⟨rfl, rfl⟩)
      go_ret
      exact ⟨rfl, G.out, Upd.refl _ _⟩
    · have e : p.set k s = (0, ⟨p.bl.set k.toNat { p.at k with st := s }⟩) := by simp [Pool.set, hk, hsb, h3]
      have g := h.blk_set hk 0 (by omega) (.int .i64 s) { p.at k with st := s } rfl
      have GS := hid g
      rw [e]
      have b3 : ((p.at k).st == 3) = false := by simpa using h3
      clear e hk h h3 hsb b1 g
      go_enter Try.func76, Try.ntmps76
      go_wp2_with (go_at_call 92; refine H.out.mono ?_; rintro e w' ⟨rfl, rfl⟩)
      go_ret
      exact ⟨rfl, GS.out, (Upd.refl _ _).setCell (.inl (.inr rfl)) _⟩

theorem Worn_any (L : PL) (p : Pool) (k n : Int) (w : World) (h : PoolAt w L p) (hn : 0 ≤ n) :
    Calls Try.prog 91 #[.pointer (some ⟨L.a, 0, none⟩), .int .i64 k, .int .i64 n] w fun e w' => e = .returned (.int .i64 (p.worn k n).1) ∧ PoolAt w' L (p.worn k n).2 ∧ Upd L.foot w w' := by
  have H := hid (check_any L p k w h)
  have G := hid h
  cases hk : p.has k
  · have e : p.worn k n = (3, p) := by simp [Pool.worn, hk]
    rw [e]; rw [hk] at H; clear e hk h
    go_enter Try.func91, Try.ntmps91
    go_wp2_with (go_at_call 92; refine H.out.mono ?_; rintro e w' ⟨rfl, rfl⟩)
    go_ret
    exact ⟨rfl, G.out, Upd.refl _ _⟩
  · obtain ⟨b0, b1⟩ := h.blk hk
    have c0 := h.top.get (i := 0) rfl
    have f1 := h.bls.frozen (k.toNat * 2 + 1)
    have h256 : (p.bl.length : Int) ≤ 256 := by have := h.n256; omega
    obtain ⟨h1, h2⟩ := Pool.has_iff.1 hk
    rw [hk] at H
    have e : p.worn k n = (0, ⟨p.bl.set k.toNat { p.at k with wear := n }⟩) := by simp [Pool.worn, hk]; omega
    have g := h.blk_set hk 1 (by omega) (.int .i64 n) { p.at k with wear := n } rfl
    have GS := hid g
    rw [e]
    clear e hk h b0 g
    go_enter Try.func91, Try.ntmps91
    go_wp2_with (go_at_call 92; refine H.out.mono ?_; rintro e w' ⟨rfl, rfl⟩)
    go_ret
    exact ⟨rfl, GS.out, (Upd.refl _ _).setCell (.inl (.inr rfl)) _⟩

end Go.Proofs.Ytljphijjcagciaa

namespace Go.Proofs.Ytljphijjcagciaa
open Go.RowKit

def okP (lt : Int → Int → Bool) (b : Option (Nat × Int)) (x : PBlk) : Bool := decide (x.st = 1) && (match b with | none => true | some (_, w) => lt x.wear w)
def stepP (lt : Int → Int → Bool) (b : Option (Nat × Int)) (k : Nat) (x : PBlk) : Option (Nat × Int) := if okP lt b x = true then some (k, x.wear) else b
theorem bestP_cons (lt : Int → Int → Bool) (x : PBlk) (l : List PBlk) (k : Nat) (b : Option (Nat × Int)) : bestP lt (x :: l) k b = bestP lt l (k + 1) (stepP lt b k x) := rfl
theorem bestP_snoc (lt : Int → Int → Bool) (x : PBlk) : ∀ (l : List PBlk) (k : Nat) (b : Option (Nat × Int)), bestP lt (l ++ [x]) k b = stepP lt (bestP lt l k b) (k + l.length) x
  | [], _, _ => rfl
  | y :: r, k, b => by
    rw [List.cons_append, bestP_cons, bestP_cons, bestP_snoc lt x r (k + 1)]
    rw [List.length_cons, show k + 1 + r.length = k + (r.length + 1) by omega]
def bidx : Option (Nat × Int) → Int
  | none => -1
  | some (i, _) => i
theorem bestP_spec (lt : Int → Int → Bool) (l : List PBlk) : ∀ k, k ≤ l.length → ∀ i w, bestP lt (l.take k) 0 none = some (i, w) → i < k ∧ (l.getD i default).wear = w ∧ (l.getD i default).st = 1
  | 0, _, i, w, h => by simp [bestP] at h
  | k + 1, hk, i, w, h => by
    have hl : k < l.length := by omega
    rw [List.take_succ_eq_append_getElem hl, bestP_snoc, List.length_take, Nat.zero_add, Nat.min_eq_left (by omega)] at h
    have ih := bestP_spec lt l k (by omega)
    generalize bestP lt (l.take k) 0 none = B at ih h
    unfold stepP at h
    by_cases hc : okP lt B l[k] = true
    · rw [if_pos hc] at h
      obtain ⟨h1, h2⟩ := Prod.mk.inj (Option.some.inj h)
      subst h1
      unfold okP at hc
      rw [Bool.and_eq_true, decide_eq_true_eq] at hc
      exact ⟨by omega, by rw [← h2]; simp [List.getD_eq_getElem?_getD, hl], by rw [← hc.1]; simp [List.getD_eq_getElem?_getD, hl]⟩
    · rw [if_neg hc] at h
      obtain ⟨a, b⟩ := ih i w h
      exact ⟨by omega, b⟩

set_option maxHeartbeats 1000000 in
theorem choose_any (L : PL) (p : Pool) (lt : Int → Int → Bool) (cmp : Int → Int → Int) (hlt : ∀ x y, lt x y = decide (cmp x y < 0))
    (HC : Hid (∀ x y W, Calls Try.prog 90 #[.int .i64 x, .int .i64 y] W fun e w' => e = .returned (.int .i64 (cmp x y)) ∧ W = w')) (w : World) (h : PoolAt w L p) :
    Calls Try.prog 89 #[.pointer (some ⟨L.a, 0, none⟩), .func (.func 90) #[] #[]] w fun e w' => e = .returned (.tuple #[.int .i64 (p.choose lt).1, .int .i64 (p.choose lt).2.1]) ∧ PoolAt w' L (p.choose lt).2.2 ∧ Upd L.foot w w' := by
  have c0 := h.top.get (i := 0) rfl
  have h256 : (p.bl.length : Int) ≤ 256 := by have := h.n256; omega
  have HLT := hid hlt
  have HP := hid h
  have HPC : Hid (p.choose lt = match bestP lt p.bl 0 none with | none => (0, 13, p) | some (k, _) => (k, 0, ⟨p.bl.set k { p.at k with st := 2 }⟩)) := hid rfl
  obtain ⟨n, hn⟩ : ∃ n, n = p.bl.length := ⟨_, rfl⟩
  rw [← hn] at c0 h256
  have HN := hid hn
  generalize p.choose lt = res at HPC ⊢
  clear h hlt hn
  go_enter Try.func89, Try.ntmps89
  go_wp2_with fail
  go_loopw [6, 16] (fun b i wr => ∃ k : Nat, k ≤ n ∧ i = .int .i64 k ∧ b = .int .i64 (bidx (bestP lt (p.bl.take k) 0 none)) ∧ PoolAt wr L p ∧ Upd noBlk w wr) (fun _ i _ => n - (intOf i).toNat)
  case atStart => exact ⟨0, Nat.zero_le _, rfl, rfl, HP.out, Upd.refl _ _⟩
  case round =>
    obtain ⟨k, hk, rfl, rfl, hp, hu⟩ := hrel
    have HP1 := hid hp; have HU1 := hid hu
    clear hp hu
    by_cases hlt : k < n
    · have hkl : k < p.bl.length := by have := HN.out; omega
      have hhas : p.has (k : Int) = true := Pool.has_iff.2 ⟨by omega, by omega⟩
      obtain ⟨b0, b1⟩ := HP1.out.blk hhas
      have HS := hid (bestP_snoc lt p.bl[k] (p.bl.take k) 0 none)
      rw [← List.take_succ_eq_append_getElem hkl, List.length_take, Nat.zero_add, Nat.min_eq_left (by omega)] at HS
      have hat : p.at (k : Int) = p.bl[k] := by simp [Pool.at, List.getD_eq_getElem?_getD, hkl]
      rw [hat] at b0 b1
      simp only [Int.toNat_natCast] at b0 b1
      have hspec := bestP_spec lt p.bl k (by omega)
      clear hhas hat
      generalize p.bl[k] = x at *
      generalize bestP lt (p.bl.take k) 0 none = B at *
      have hB : Row (wr.alloc (.cells #[.int .i64 x.st, .int .i64 x.wear] 104)) wr.heap.size 104 [.int .i64 x.st, .int .i64 x.wear] := Row.new wr _ _
      have HB := hid hB
      have hbound : -1 ≤ bidx B ∧ bidx B < (n : Int) := by
        rcases B with _ | ⟨i, v⟩
        · exact ⟨by decide, by show (-1 : Int) < n; omega⟩
        · have := (hspec i v rfl).1; exact ⟨by show (-1 : Int) ≤ i; omega, by show (i : Int) < n; omega⟩
      have HSP := hid hspec
      clear hspec hB
      by_cases hst : x.st = 1
      · cases hb : B with
        | none =>
          have HE : Hid (bestP lt (p.bl.take (k + 1)) 0 none = some (k, x.wear)) := hid (by rw [HS.out, hb]; unfold stepP okP; simp [hst])
          rw [hb] at hbound
          clear hb
          simp only [bidx] at hbound ⊢
          have hB : Row (wr.alloc (.cells #[.int .i64 1, .int .i64 x.wear] 104)) wr.heap.size 104 [.int .i64 1, .int .i64 x.wear] := Row.new wr _ _
          have hU := HU1.out.alloc (.cells #[.int .i64 1, .int .i64 x.wear] 104)
          have hP := HP1.out.upd ((Upd.refl noBlk wr).alloc (.cells #[.int .i64 1, .int .i64 x.wear] 104)) fun _ h => h.elim
          go_wp2_with fail
          generalize wr.alloc (.cells #[.int .i64 1, .int .i64 x.wear] 104) = W at hB hU hP ⊢
          have E0 := Row.uw (i := 0) hB rfl; have E1 := Row.uw (i := 1) hB rfl
          have HU2 := hid hU; have HP2 := hid hP
          clear hB hU hP
          clear hst
          refine wp_region_upd (by kernel_rfl) (by kernel_rfl) ?_
          repeat (go_big_quiet_step (fail))
          refine wpQuiet_nil ?_
          rintro _ ⟨nq, rfl⟩
          have HP3 := hid (HP2.out.upd nq.upd fun _ h => h.elim); have HU3 := hid (HU2.out.trans' nq.upd)
          clear E0 E1 HP2 HU2 HP1 HU1
          go_wp2_with fail
          exact ⟨⟨k + 1, by omega, by go_num, by show _ = Value.int .i64 (bidx _); rw [HE.out]; rfl, HP3.out, HU3.out⟩, by simp [intOf]; omega⟩
        | some iw =>
          obtain ⟨i, v⟩ := iw
          obtain ⟨hi, hv, _⟩ := HSP.out i v hb
          have hil : i < p.bl.length := by have := HN.out; omega
          have hhi : p.has (i : Int) = true := Pool.has_iff.2 ⟨by omega, by omega⟩
          rw [hb] at hbound HS
          have hok : okP lt (some (i, v)) x = lt x.wear v := by unfold okP; simp [hst]
          clear hb
          simp only [bidx] at hbound ⊢
          have hwi : ∀ W', PoolAt W' L p → W'.cell? ⟨L.b, i * 2 + 1, none⟩ = some (.int .i64 v) := fun W' hW' => by
            have := (hW'.blk hhi).2
            simp only [Int.toNat_natCast] at this
            rw [this]
            simp only [Pool.at, Int.toNat_natCast]; rw [hv]
          have HWI := hid hwi
          have hc3 := HLT.out x.wear v
          have HHI := hid hhi; have HV := hid hv
          clear hwi hhi hv hil
          have hin : (i : Int) < (n : Int) := hbound.2
          have q0 : decide ((i : Int) < 0) = false := by simp
          have hB : Row (wr.alloc (.cells #[.int .i64 1, .int .i64 x.wear] 104)) wr.heap.size 104 [.int .i64 1, .int .i64 x.wear] := Row.new wr _ _
          have hU := HU1.out.alloc (.cells #[.int .i64 1, .int .i64 x.wear] 104)
          have hP := HP1.out.upd ((Upd.refl noBlk wr).alloc (.cells #[.int .i64 1, .int .i64 x.wear] 104)) fun _ h => h.elim
          go_wp2_with fail
          generalize wr.alloc (.cells #[.int .i64 1, .int .i64 x.wear] 104) = W at hB hU hP ⊢
          have E0 := Row.uw (i := 0) hB rfl; have E1 := Row.uw (i := 1) hB rfl
          have HU2 := hid hU; have HP2 := hid hP
          clear hB hU hP
          have E2 : ∀ n0 : UW W, n0.w.cell? ⟨L.b, i * 2 + 1, none⟩ = some (.int .i64 v) := fun n0 => HWI.out _ (HP2.out.upd n0.upd fun _ h => h.elim)
          have E3 : ∀ n0 : UW W, n0.w.cell? ⟨L.a, 0, none⟩ = some (.slice (some ⟨L.b, 0, none⟩) n n) := fun n0 => n0.cell (by have := HP2.out.top.get (i := 0) rfl; rw [← HN.out] at this; exact this)
          have HCU := hid (fun n0 : UW W => UW.call_same (HC.out x.wear v n0.w))
          have HOK := hid hok
          clear hst hok
          by_cases hlt2 : cmp x.wear v < 0
          · have HE : Hid (bestP lt (p.bl.take (k + 1)) 0 none = some (k, x.wear)) := hid (by rw [HS.out]; unfold stepP; rw [HOK.out, hc3]; simp [hlt2])
            have q1 : decide (cmp x.wear v < 0) = true := by simpa using hlt2
            clear hc3
            refine wp_region_upd (by kernel_rfl) (by kernel_rfl) ?_
            repeat (go_big_quiet_step (exact HCU.out _))
            refine wpQuiet_nil ?_
            rintro _ ⟨nq, rfl⟩
            have HP3 := hid (HP2.out.upd nq.upd fun _ h => h.elim); have HU3 := hid (HU2.out.trans' nq.upd)
            clear E0 E1 E2 E3 HP2 HU2 HP1 HU1
            go_wp2_with fail
            exact ⟨⟨k + 1, by omega, by go_num, by show _ = Value.int .i64 (bidx _); rw [HE.out]; rfl, HP3.out, HU3.out⟩, by simp [intOf]; omega⟩
          · have HE : Hid (bestP lt (p.bl.take (k + 1)) 0 none = some (i, v)) := hid (by rw [HS.out]; unfold stepP; rw [HOK.out, hc3]; simp [hlt2])
            have q1 : decide (cmp x.wear v < 0) = false := by simpa using hlt2
            clear hc3
            refine wp_region_upd (by kernel_rfl) (by kernel_rfl) ?_
            repeat (go_big_quiet_step (exact HCU.out _))
            refine wpQuiet_nil ?_
            rintro _ ⟨nq, rfl⟩
            have HP3 := hid (HP2.out.upd nq.upd fun _ h => h.elim); have HU3 := hid (HU2.out.trans' nq.upd)
            clear E0 E1 E2 E3 HP2 HU2 HP1 HU1
            go_wp2_with fail
            exact ⟨⟨k + 1, by omega, by go_num, by show _ = Value.int .i64 (bidx _); rw [HE.out]; rfl, HP3.out, HU3.out⟩, by simp [intOf]; omega⟩
      · have hst2 : (x.st == 1) = false := by simpa using hst
        have HE : Hid (bestP lt (p.bl.take (k + 1)) 0 none = B) := hid (by rw [HS.out]; unfold stepP okP; simp [hst])
        clear hst
        have hB : Row (wr.alloc (.cells #[.int .i64 x.st, .int .i64 x.wear] 104)) wr.heap.size 104 [.int .i64 x.st, .int .i64 x.wear] := Row.new wr _ _
        have hU := HU1.out.alloc (.cells #[.int .i64 x.st, .int .i64 x.wear] 104)
        have hP := HP1.out.upd ((Upd.refl noBlk wr).alloc (.cells #[.int .i64 x.st, .int .i64 x.wear] 104)) fun _ h => h.elim
        go_wp2_with fail
        generalize wr.alloc (.cells #[.int .i64 x.st, .int .i64 x.wear] 104) = W at hB hU hP ⊢
        have E0 := Row.uw (i := 0) hB rfl; have E1 := Row.uw (i := 1) hB rfl
        have HU2 := hid hU; have HP2 := hid hP
        clear hB hU hP
        refine wp_region_upd (by kernel_rfl) (by kernel_rfl) ?_
        repeat (go_big_quiet_step (fail))
        refine wpQuiet_nil ?_
        rintro _ ⟨nq, rfl⟩
        have HP3 := hid (HP2.out.upd nq.upd fun _ h => h.elim); have HU3 := hid (HU2.out.trans' nq.upd)
        clear E0 E1 HP2 HU2 HP1 HU1
        go_wp2_with fail
        exact ⟨⟨k + 1, by omega, by go_num, by show _ = Value.int .i64 (bidx _); rw [HE.out], HP3.out, HU3.out⟩, by simp [intOf]; omega⟩
    · have e : k = n := by omega
      subst e
      have et : p.bl.take k = p.bl := by rw [HN.out]; exact List.take_length
      have hspec := bestP_spec lt p.bl k (by have := HN.out; omega)
      rw [et] at hspec ⊢
      have HR := HPC.out
      clear et
      generalize bestP lt p.bl 0 none = B at *
      rcases B with _ | ⟨i, v⟩
      · have hres : res = (0, 13, p) := HR
        subst hres
        clear HR hspec
        simp only [bidx]
        go_wp2_with fail
        go_ret2
        exact ⟨rfl, HP1.out, HU1.out.mono fun _ _ h => h.elim⟩
      · have hres : res = ((i : Int), 0, ⟨p.bl.set i { p.at i with st := 2 }⟩) := HR
        obtain ⟨hi, _, hst⟩ := hspec i v rfl
        have hhi : p.has (i : Int) = true := Pool.has_iff.2 ⟨by omega, by have := HN.out; omega⟩
        obtain ⟨b0, b1⟩ := HP1.out.blk hhi
        have f0 := HP1.out.bls.frozen (i * 2)
        have d0 := HP1.out.top.get (i := 0) rfl
        have g := HP1.out.blk_set hhi 0 (by omega) (.int .i64 2) { p.at (i : Int) with st := 2 } rfl
        simp only [Int.toNat_natCast, Nat.add_zero] at b0 g
        rw [← HN.out] at d0
        have hii : (i : Int) < (k : Int) := by omega
        have GS := hid g
        subst hres
        clear HR hst hhi b1 g
        simp only [bidx]
        go_wp2_with fail
        go_ret2
        exact ⟨rfl, GS.out, (HU1.out.mono fun _ _ h => h.elim).setCell (.inl (.inr rfl)) _⟩

theorem Take_any (L : PL) (p : Pool) (w : World) (h : PoolAt w L p) :
    Calls Try.prog 74 #[.pointer (some ⟨L.a, 0, none⟩)] w fun e w' => e = .returned (.tuple #[.int .i64 p.take.1, .int .i64 p.take.2.1]) ∧ PoolAt w' L p.take.2.2 ∧ Upd L.foot w w' := by
  have HC : Hid (∀ x y W, Calls Try.prog 90 #[.int .i64 x, .int .i64 y] W fun e w' => e = .returned (.int .i64 (Lib.compareInt x y)) ∧ W = w') := hid (fun x y W => (Try.cmp_Compare_int x y W).mono fun _ _ h => ⟨h.1, h.2.symm⟩)
  have hlt : ∀ x y : Int, (fun a b : Int => decide (a < b)) x y = decide (Lib.compareInt x y < 0) := fun x y => by
    unfold Lib.compareInt; dsimp only
    by_cases h : x < y
    · rw [if_pos h]; simp [h]
    · rw [if_neg h]; split <;> simp [h]
  have H := hid (choose_any L p (fun a b => decide (a < b)) Lib.compareInt hlt HC w h)
  change Hid (Calls _ _ _ _ fun e w' => e = .returned (.tuple #[.int .i64 p.take.1, .int .i64 p.take.2.1]) ∧ PoolAt w' L p.take.2.2 ∧ Upd L.foot w w') at H
  generalize p.take = r at H ⊢
  clear hlt
  go_enter Try.func74, Try.ntmps74
  go_wp2_with fail
  refine H.out.mono ?_; rintro e w1 ⟨rfl, hp, hu⟩
  have HP := hid hp; have HU := hid hu
  clear hp hu
  go_wp2_with fail
  go_ret2
  exact ⟨rfl, HP.out, HU.out⟩

theorem poolCount_any (L : PL) (p : Pool) (s : Int) (w : World) (h : PoolAt w L p) :
    Calls Try.prog 51 #[.pointer (some ⟨L.a, 0, none⟩), .int .i64 s] w fun e w' => e = .returned (.int .i64 (p.count s)) ∧ Upd noBlk w w' := by
  have c0 := h.top.get (i := 0) rfl
  have h256 : (p.bl.length : Int) ≤ 256 := by have := h.n256; omega
  have HP := hid h
  obtain ⟨n, hn⟩ : ∃ n, n = p.bl.length := ⟨_, rfl⟩
  rw [← hn] at c0 h256
  have HN := hid hn
  clear h hn
  go_enter Try.func51, Try.ntmps51
  go_wp2_with fail
  go_loopw [5, 16] (fun b i wr => ∃ k : Nat, k ≤ n ∧ i = .int .i64 k ∧ b = .int .i64 (((p.bl.take k).filter fun b => decide (b.st = s)).length : Nat) ∧ Upd noBlk w wr) (fun _ i _ => n - (intOf i).toNat)
  case atStart => exact ⟨0, Nat.zero_le _, rfl, rfl, Upd.refl _ _⟩
  case round =>
    obtain ⟨k, hk, rfl, rfl, hu⟩ := hrel
    have HP1 := hid (HP.out.upd hu fun _ h => h.elim); have HU1 := hid hu
    clear hu
    have hfl : (((p.bl.take k).filter fun b => decide (b.st = s)).length : Nat) ≤ k := Nat.le_trans (List.length_filter_le _ _) (by rw [List.length_take]; omega)
    by_cases hlt : k < n
    · have hkl : k < p.bl.length := by have := HN.out; omega
      have hhas : p.has (k : Int) = true := Pool.has_iff.2 ⟨by omega, by omega⟩
      obtain ⟨b0, b1⟩ := HP1.out.blk hhas
      have HS : Hid (((p.bl.take (k + 1)).filter fun b => decide (b.st = s)).length = ((p.bl.take k).filter fun b => decide (b.st = s)).length + if p.bl[k].st = s then 1 else 0) := hid (by
        rw [List.take_succ_eq_append_getElem hkl, List.filter_append, List.length_append]
        by_cases h : p.bl[k].st = s <;> simp [h])
      have hat : p.at (k : Int) = p.bl[k] := by simp [Pool.at, List.getD_eq_getElem?_getD, hkl]
      rw [hat] at b0 b1
      simp only [Int.toNat_natCast] at b0 b1
      clear hhas hat
      generalize p.bl[k] = x at *
      generalize ((p.bl.take k).filter fun b => decide (b.st = s)).length = m at *
      by_cases hst : x.st = s
      · have q1 : (x.st == s) = true := by simpa using hst
        have HE : Hid (((p.bl.take (k + 1)).filter fun b => decide (b.st = s)).length = m + 1) := hid (by rw [HS.out, if_pos hst])
        clear hst
        go_wp2_with fail
        exact ⟨⟨k + 1, by omega, by go_num, by rw [HE.out]; go_num, HU1.out.alloc _⟩, by simp [intOf]; omega⟩
      · have q1 : (x.st == s) = false := by simpa using hst
        have HE : Hid (((p.bl.take (k + 1)).filter fun b => decide (b.st = s)).length = m) := hid (by rw [HS.out, if_neg hst]; rfl)
        clear hst
        go_wp2_with fail
        exact ⟨⟨k + 1, by omega, by go_num, by rw [HE.out], HU1.out.alloc _⟩, by simp [intOf]; omega⟩
    · have e : k = n := by omega
      subst e
      have HE : Hid (p.count s = (((p.bl.take k).filter fun b => decide (b.st = s)).length : Nat)) := hid (by rw [HN.out, List.take_length]; rfl)
      go_wp2_with fail
      go_ret
      exact ⟨by rw [HE.out]; rfl, HU1.out⟩

theorem Try.info_pblk : (Try.prog.info? 104).map (fun i => (i.zero, i.size, i.bytes)) = some (some (.agg #[.int .i64 0, .int .i64 0]), 2, 16) := by kernel_rfl
def pway (n k : Nat) : List PBlk := List.replicate k ⟨1, 0⟩ ++ List.replicate (n - k) ⟨0, 0⟩
theorem make_pblk (n : Nat) (h1 : n ≤ 256) (w : World) :
    (Instr.makeSlice 105 (.int .i64 (n : Int)) (.int .i64 (n : Int))).run Try.prog w = .ok (.slice (some ⟨w.heap.size, 0, none⟩) n n)
      (w.alloc (.cells (flat pblk 0 (pway n 0)).toArray 104)) := by
  obtain ⟨i, hi, hz0, hz1, hz2⟩ := info_parts Try.info_pblk
  have := run_make_list _ _ i _ Try.underlying105 hi hz0 [.int .i64 0, .int .i64 0] rfl hz1 (by simp) n (by omega) (by rw [hz2]; omega) (by omega) w
  rw [Int.toNat_natCast] at this
  rw [this]
  unfold pway
  rw [List.replicate_zero, List.nil_append, Nat.sub_zero, flat_const pblk [.int .i64 0, .int .i64 0] _ (fun _ => rfl)]
theorem pway_length {n k : Nat} (h : k ≤ n) : (pway n k).length = n := by simp [pway]; omega
theorem pway_get {n k : Nat} (h : k < n) : (pway n k)[k]? = some ⟨0, 0⟩ := by
  unfold pway
  rw [List.getElem?_append_right (by simp), List.length_replicate, Nat.sub_self, List.getElem?_replicate, if_pos (by omega)]
theorem pway_set {n k : Nat} (h : k < n) : (pway n k).set k ⟨1, 0⟩ = pway n (k + 1) := by
  unfold pway
  rw [List.set_append_right _ _ (by simp), List.length_replicate, Nat.sub_self]
  obtain ⟨m, hm⟩ : ∃ m, n - k = m + 1 := ⟨n - k - 1, by omega⟩
  rw [hm, List.replicate_succ, List.set_cons_zero, List.replicate_succ', show n - (k + 1) = m by omega]
  simp
theorem pway_all (n : Nat) : pway n n = List.replicate n ⟨1, 0⟩ := by simp [pway]

theorem poolNew_any (n : Nat) (h1 : 1 ≤ n) (h256 : n ≤ 256) (w : World) :
    Calls Try.prog 23 #[.int .i64 (n : Int)] w fun e w' => ∃ L : PL, (∀ k, L.foot k → w.heap.size ≤ k) ∧ e = .returned (.tuple #[.pointer (some ⟨L.a, 0, none⟩), .int .i64 0]) ∧ PoolAt w' L (Pool.new n) ∧ Upd noBlk w w' := by
  have hmk := make_pblk n h256
  have i1 : (1 : Int) ≤ n := by omega
  have i2 : (n : Int) ≤ 256 := by omega
  go_enter Try.func23, Try.ntmps23
  go_wp2_with fail
  clear hmk
  go_loopw [21] (fun i wr => ∃ k : Nat, k ≤ n ∧ i = .int .i64 k ∧ Row wr (w.heap.size + 1) 107 [.slice (some ⟨w.heap.size, 0, none⟩) n n] ∧ Row wr w.heap.size 104 (flat pblk 0 (pway n k)) ∧ Upd noBlk w wr) (fun i _ => n - (intOf i).toNat)
  case atStart =>
    refine ⟨0, Nat.zero_le _, rfl, ?_, (Row.new w _ _).alloc _, ((Upd.refl _ _).alloc _).alloc _⟩
    have := Row.new (w.alloc (.cells (flat pblk 0 (pway n 0)).toArray 104)) [.slice (some ⟨w.heap.size, 0, none⟩) n n] 107
    rw [World.size_alloc] at this
    exact this
  case round =>
    obtain ⟨k, hk, rfl, ha, hb, hu⟩ := hrel
    have HA := hid ha; have HB := hid hb; have HU := hid hu
    have c0 := ha.get (i := 0) rfl
    by_cases hlt : k < n
    · have b0 := hb.get (flat_get (n := 2) pblk_length 0 (pway n k) k 0 ⟨0, 0⟩ (pway_get hlt) (by omega))
      have f0 := hb.frozen (k * 2)
      have hset := flat_set (n := 2) pblk_length 0 (pway n k) k 0 ⟨0, 0⟩ ⟨1, 0⟩ (.int .i64 1) (pway_get hlt) (by omega) rfl
      rw [pway_set hlt] at hset
      simp only [Nat.add_zero] at b0 hset
      have HS := hid hset
      clear ha hb hu hset
      go_wp2_with fail
      exact ⟨⟨k + 1, by omega, by go_num, HA.out.far (p := ⟨w.heap.size, k * 2, none⟩) (by show w.heap.size + 1 ≠ w.heap.size; omega) _, HB.out.put _ _ HS.out, HU.out.setCell (.inr (Nat.le_refl _)) _⟩, by simp [intOf]; omega⟩
    · have e : k = n := by omega
      subst e
      clear ha hb hu
      go_wp2_with fail
      go_ret2
      have hb := HB.out
      rw [pway_all] at hb
      refine ⟨⟨w.heap.size + 1, w.heap.size⟩, ?_, rfl, ⟨?_, ?_, ?_, ?_, ?_⟩, HU.out⟩
      · rintro i (hi | hi) <;> simp only at hi <;> omega
      · simpa [Pool.new] using HA.out
      · simpa [Pool.new] using hb
      · show w.heap.size + 1 ≠ w.heap.size; omega
      · simpa [Pool.new] using h1
      · simpa [Pool.new] using h256

end Go.Proofs.Ytljphijjcagciaa
