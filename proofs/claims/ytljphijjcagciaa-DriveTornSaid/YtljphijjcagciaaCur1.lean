/-
  The walks over a writer of fields.
-/
import Derived.Test.YtljphijjcagciaaMade
import Derived.Test.YtljphijjcagciaaPoly2
import Derived.Lib.AppendStr
namespace Go.Proofs.Ytljphijjcagciaa
open Go.RowKit

def byteV (b : UInt8) : Value := .int .u8 b.toNat
theorem strCells_eq (s : ByteArray) : Lib.strCells s = (bs s).map byteV := rfl

/-- A writer at a has written l; its bytes lie in a block from B on. -/
def WrAt (w : World) (a B : Nat) (l : List UInt8) (wrong : Bool) : Prop :=
  a < B ∧ ∃ v, Row w a 139 [v, .bool wrong] ∧ w.ownsRow B 5 1 v l.length (l.map byteV)
def wrFoot (a B : Nat) (k : Nat) : Prop := k = a ∨ B ≤ k

theorem ownsRow_val {w : World} {B e size n : Nat} {v : Value} {xs : List Value} (h : w.ownsRow B e size v n xs) : v = .slice none 0 0 ∨ ∃ g cap, v = .slice (some ⟨g, 0, none⟩) n cap ∧ n ≤ cap ∧ cap ≤ maxLen ∧ B ≤ g := by
  rcases h.2 with ⟨h1, _⟩ | ⟨g, cap, cur, h1, h2, _, h3, h4, _⟩
  · exact .inl h1
  · exact .inr ⟨g, cap, h1, h3, h4, h2⟩

theorem ownsRow_slice {w : World} {B e size n : Nat} {v : Value} {xs : List Value} (h : w.ownsRow B e size v n xs) : ∃ ao cap, v = .slice ao n cap := by
  rcases h.2 with ⟨h1, h2⟩ | ⟨g, cap, cur, h1, _⟩
  · subst h2; exact ⟨none, 0, h1⟩
  · exact ⟨_, _, h1⟩
theorem Row.grown {w w' : World} {b : Nat} {t : TypeId} {cs : List Value} {row : Option Nat} (h : Row w b t cs) (hg : w.grownBy w' row) (hne : some b ≠ row) : Row w' b t cs := (hg.block b h.lt hne).trans h

theorem Try.info_u8 : (Try.prog.info? 5).map (fun i => (i.zero, i.size, i.bytes)) = some (some (.int .u8 0), 1, 1) := by kernel_rfl

theorem Upd.grown {S : Nat → Prop} {a w w' : World} {row : Option Nat} (h : Upd S a w) (hg : w.grownBy w' row) (hr : ∀ k, row = some k → S k ∨ a.heap.size ≤ k) : Upd S a w' :=
  ⟨hg.os.trans h.os, hg.tape.trans h.tape, hg.output.trans h.output, Nat.le_trans h.size hg.size, fun k hk hn =>
    (hg.block k (Nat.lt_of_lt_of_le hk h.size) (fun e => by rcases hr k e.symm with h1 | h1; · exact hn h1
                                                            · omega)).trans (h.block k hk hn)⟩

theorem put_any (a B : Nat) (l : List UInt8) (wrong may : Bool) (s : ByteArray) (w : World) (h : WrAt w a B l wrong) (hsz : l.length + s.size ≤ 1000000) (hB : B ≤ w.heap.size) :
    Calls Try.prog 95 #[.pointer (some ⟨a, 0, none⟩), .string s, .bool may] w fun e w' => e = .returned (.pointer (some ⟨a, 0, none⟩)) ∧ WrAt w' a B (l ++ bs s) (wrong || !may) ∧ Upd (wrFoot a B) w w' := by
  obtain ⟨hab, v, hr, ho⟩ := h
  obtain ⟨i0, hi, hz0, hz1, hz2⟩ := info_parts Try.info_u8
  have c0 := hr.cell 0
  have c1 := hr.cell 1
  simp only [List.getElem?_cons_zero, List.getElem?_cons_succ] at c0 c1
  have f0 := hr.frozen 0; have f1 := hr.frozen 1
  have hr1 := hr.put (cs' := [v, .bool (wrong || !may)]) 1 (.bool (wrong || !may)) rfl
  have ho1 := ho.kept (w' := w.setCell ⟨a, 1, none⟩ (.bool (wrong || !may))) (row := some a) ⟨rfl, rfl, rfl, by simp, fun k hk hn => Below.heap_setCell _ _ _ _ (fun e => hn (by rw [e]))⟩ (by
    rcases ownsRow_val ho with rfl | ⟨g, cap, rfl, _, _, hg⟩
    · left; rfl
    · right; simp [Value.ownBlock]; omega)
  have HR1 := hid hr1; have HO1 := hid ho1; have HAB := hid hab
  clear hr1 ho1
  have hne : some a ≠ v.ownBlock := by
    rcases ownsRow_val ho with rfl | ⟨g, cap, rfl, _, _, hg⟩
    · simp [Value.ownBlock]
    · simp [Value.ownBlock]; omega
  have hvl : ∀ k, v.ownBlock = some k → wrFoot a B k := by
    rcases ownsRow_val ho with rfl | ⟨g, cap, rfl, _, _, hg⟩
    · intro k hk; simp [Value.ownBlock] at hk
    · intro k hk; simp [Value.ownBlock] at hk; subst hk; exact .inr hg
  have b1 : l.length + s.size ≤ maxLen := by unfold maxLen; omega
  have b2 : l.length + s.size ≤ 140737488355328 := by omega
  have HNE := hid hne; have HVL := hid hvl
  have B1 := hid b1; have B2 := hid b2; have HI := hid hi; have HZ0 := hid hz0; have HZ1 := hid hz1; have HZ2 := hid hz2; have HO := hid ho; have HR := hid hr
  clear b1 b2 hi hz0 hz1 hz2 ho hr hne hvl
  cases wrong <;> cases may
  all_goals
    (try simp at HO1 HR1)
    go_enter Try.func95, Try.ntmps95
    go_wp2_with (at_builtin; refine Lib.wpList_append_own_string _ rfl _ _ 114 9 rfl B 5 i0 Try.underlying114 Try.underlying9 HI.out HZ0.out HZ1.out HZ2.out v _ _ rfl HO1.out s rfl B1.out B2.out (by rw [World.size_setCell]; exact hB) ?_; intro v' w1 hown' hgrow hnil; have hr2 := HR1.out.grown hgrow HNE.out; have d0 := hr2.cell 0; simp only [List.getElem?_cons_zero] at d0; have e0 := hr2.frozen 0; obtain ⟨ao, cap, hv'⟩ := ownsRow_slice hown'; rw [hv']; have HOW := hid hown'; have HGR := hid hgrow; have HR2 := hid hr2; have HV := hid hv'; clear hown' hgrow hr2 hv' hnil)
    go_ret
    refine ⟨rfl, ⟨HAB.out, .slice ao (l.length + s.size) cap, HR2.out.put 0 _ rfl, ?_⟩, ?_⟩
    · have h1 := HOW.out
      rw [HV.out] at h1
      have h2 := ownsRow_setCell_below h1 (a := ⟨a, 0, none⟩) HAB.out (.slice ao (l.length + s.size) cap)
      rw [List.length_append, bs_len, List.map_append]
      exact h2
    · exact (((Upd.refl _ _).setCell (p := ⟨a, 1, none⟩) (.inl (.inl rfl)) _).grown HGR.out (fun k hk => .inl (HVL.out k hk))).setCell (p := ⟨a, 0, none⟩) (.inl (.inl rfl)) _

theorem Bytes_any (a B : Nat) (l : List UInt8) (w : World) (h : WrAt w a B l false) :
    Calls Try.prog 83 #[.pointer (some ⟨a, 0, none⟩)] w fun e w' => e = .returned (.tuple #[.string (mkS l), .int .i64 0]) ∧ Upd noBlk w w' := by
  obtain ⟨hab, v, hr, ho⟩ := h
  have c0 := hr.cell 0
  have c1 := hr.cell 1
  simp only [List.getElem?_cons_zero, List.getElem?_cons_succ] at c0 c1
  rcases ownsRow_val ho with rfl | ⟨g, cap, rfl, _, _, _⟩
  · have hl : l = [] := by
      rcases ho.2 with ⟨_, h2⟩ | ⟨g, cap, cur, h1, _⟩
      · exact List.length_eq_zero_iff.1 h2
      · simp at h1
    subst hl
    have hcv : (convert 114 9 (.slice none 0 0)).run Try.prog w = .ok (.string ⟨#[]⟩) w := by
      rw [run_convert_bytes_string w 114 9 5 none 0 0 Try.underlying114 Try.underlying5 Try.underlying9]
      rfl
    clear ho hr
    go_enter Try.func83, Try.ntmps83
    go_wp2_with fail
    go_ret2
    exact ⟨rfl, Upd.refl _ _⟩
  · have hcv := run_convert_bytes_back (P := Try.prog) w 114 9 5 ⟨g, 0, none⟩ cap l Try.underlying114 Try.underlying5 Try.underlying9 (fun j hj => ho.cells (g := g) rfl j _ (by simp [hj, byteV]))
    clear ho hr
    go_enter Try.func83, Try.ntmps83
    go_wp2_with fail
    go_ret2
    exact ⟨rfl, Upd.refl _ _⟩

end Go.Proofs.Ytljphijjcagciaa
