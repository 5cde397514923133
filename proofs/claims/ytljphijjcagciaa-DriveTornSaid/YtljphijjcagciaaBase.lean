/-
  What all walks of this seat lean on: which blocks a call may write ('Upd'), rows of cells known whole ('Row'), and rows of structs laid flat.
-/
import Derived.WalkKit
import Derived.WalkLawsBesides
import Derived.WalkSpells
import Derived.BigQuiet
import Derived.Deep.QuietTactic
namespace Go.Proofs.Ytljphijjcagciaa
open Go.RowKit

/-- From w to w' only blocks of S, and new ones, were written. -/
structure Upd (S : Nat → Prop) (w w' : World) : Prop where
  os : w'.os = w.os
  tape : w'.tape = w.tape
  output : w'.output = w.output
  size : w.heap.size ≤ w'.heap.size
  block : ∀ k, k < w.heap.size → ¬ S k → w'.heap[k]? = w.heap[k]?

def noBlk : Nat → Prop := fun _ => False

theorem Upd.refl (S : Nat → Prop) (w : World) : Upd S w w := ⟨rfl, rfl, rfl, Nat.le_refl _, fun _ _ _ => rfl⟩
theorem Upd.mono {S T : Nat → Prop} {w w' : World} (h : Upd S w w') (hs : ∀ k, k < w.heap.size → S k → T k) : Upd T w w' :=
  ⟨h.os, h.tape, h.output, h.size, fun k hk hn => h.block k hk fun hs' => hn (hs k hk hs')⟩
theorem Upd.trans {S T : Nat → Prop} {a b c : World} (h : Upd S a b) (k : Upd T b c) (hs : ∀ i, i < a.heap.size → T i → S i) : Upd S a c :=
  ⟨k.os.trans h.os, k.tape.trans h.tape, k.output.trans h.output, Nat.le_trans h.size k.size,
    fun i hi hn => (k.block i (Nat.lt_of_lt_of_le hi h.size) fun ht => hn (hs i hi ht)).trans (h.block i hi hn)⟩
theorem Upd.trans' {S : Nat → Prop} {a b c : World} (h : Upd S a b) (k : Upd S b c) : Upd S a c := h.trans k fun _ _ h => h
theorem Upd.alloc {S : Nat → Prop} {a w : World} (h : Upd S a w) (o : Obj) : Upd S a (w.alloc o) :=
  ⟨h.os, h.tape, h.output, by have := h.size; simp; omega, fun k hk hn => (heap_alloc_old w o (Nat.lt_of_lt_of_le hk h.size)).trans (h.block k hk hn)⟩
theorem Upd.drew {S : Nat → Prop} {a w : World} (h : Upd S a w) : Upd S a w.drew := ⟨h.os, h.tape, h.output, h.size, h.block⟩
theorem Upd.drewN {S : Nat → Prop} {a w : World} (h : Upd S a w) (n : Nat) : Upd S a (w.drewN n) := ⟨h.os, h.tape, h.output, h.size, h.block⟩
theorem Upd.setCell {S : Nat → Prop} {a w : World} (h : Upd S a w) {p : Addr} (hp : S p.block ∨ a.heap.size ≤ p.block) (u : Value) : Upd S a (w.setCell p u) :=
  ⟨h.os, h.tape, h.output, by have := h.size; simpa using this, fun k hk hn => by
    rw [Below.heap_setCell w p u k (fun e => by subst e; rcases hp with hp | hp; · exact hn hp
                                                · omega)]
    exact h.block k hk hn⟩
theorem Upd.of_below {w w' : World} (h : Below w.heap.size w w') (S : Nat → Prop) : Upd S w w' := ⟨h.os, h.tape, h.output, h.size, fun k hk _ => h.block k hk⟩
theorem Upd.below {w w' : World} {S : Nat → Prop} (h : Upd S w w') (hs : ∀ k, k < w.heap.size → ¬ S k) : Below w.heap.size w w' := ⟨h.os, h.tape, h.output, h.size, fun k hk => h.block k hk (hs k hk)⟩

/-- The whole block b: these cells, of element type t, none frozen. -/
def Row (w : World) (b : Nat) (t : TypeId) (cs : List Value) : Prop := w.heap[b]? = some (.cells cs.toArray t (0, 0))

theorem Row.lt {w : World} {b : Nat} {t : TypeId} {cs : List Value} (h : Row w b t cs) : b < w.heap.size := (Array.getElem?_eq_some_iff.1 h).1
theorem Row.cell {w : World} {b : Nat} {t : TypeId} {cs : List Value} (h : Row w b t cs) (i : Nat) : w.cell? ⟨b, i, none⟩ = cs[i]? := by
  have := cell_of_row w b i cs.toArray t (0, 0) h; simpa using this
theorem Row.get {w : World} {b : Nat} {t : TypeId} {cs : List Value} (h : Row w b t cs) {i : Nat} {v : Value} (hv : cs[i]? = some v) : w.cell? ⟨b, i, none⟩ = some v := (h.cell i).trans hv
theorem Row.frozen {w : World} {b : Nat} {t : TypeId} {cs : List Value} (h : Row w b t cs) (i : Nat) : w.frozen? ⟨b, i, none⟩ = false := by
  simp [World.frozen?, Row] at h ⊢; rw [h]; simp
theorem Row.set {w : World} {b : Nat} {t : TypeId} {cs : List Value} (h : Row w b t cs) (i : Nat) (u : Value) : Row (w.setCell ⟨b, i, none⟩ u) b t (cs.set i u) := by
  unfold Row at *
  simp [World.setCell, Array.getElem?_modify, h]
theorem Row.put {w : World} {b : Nat} {t : TypeId} {cs cs' : List Value} (h : Row w b t cs) (i : Nat) (u : Value) (e : cs.set i u = cs') : Row (w.setCell ⟨b, i, none⟩ u) b t cs' := e ▸ h.set i u
theorem Row.far {w : World} {b : Nat} {t : TypeId} {cs : List Value} (h : Row w b t cs) {p : Addr} (hp : b ≠ p.block) (u : Value) : Row (w.setCell p u) b t cs := by
  unfold Row at *; rw [Below.heap_setCell w p u b hp]; exact h
theorem Row.alloc {w : World} {b : Nat} {t : TypeId} {cs : List Value} (h : Row w b t cs) (o : Obj) : Row (w.alloc o) b t cs := (heap_alloc_old w o h.lt).trans h
theorem Row.drew {w : World} {b : Nat} {t : TypeId} {cs : List Value} (h : Row w b t cs) : Row w.drew b t cs := h
theorem Row.drewN {w : World} {b : Nat} {t : TypeId} {cs : List Value} (h : Row w b t cs) (n : Nat) : Row (w.drewN n) b t cs := h
theorem Row.upd {w w' : World} {S : Nat → Prop} {b : Nat} {t : TypeId} {cs : List Value} (h : Row w b t cs) (hu : Upd S w w') (hn : ¬ S b) : Row w' b t cs := (hu.block b h.lt hn).trans h
theorem Row.new (w : World) (cs : List Value) (t : TypeId) : Row (w.alloc (.cells cs.toArray t)) w.heap.size t cs := heap_alloc_new w _
theorem Row.ne {w : World} {b b' : Nat} {t t' : TypeId} {cs cs' : List Value} (h : Row w b t cs) (h' : Row w b' t' cs') (ht : t ≠ t') : b ≠ b' := by
  rintro rfl; unfold Row at h h'; rw [h] at h'; simp at h'; exact ht h'.2
theorem Row.inj {w : World} {b : Nat} {t t' : TypeId} {cs cs' : List Value} (h : Row w b t cs) (h' : Row w b t' cs') : cs = cs' := by
  unfold Row at h h'; rw [h] at h'; simp at h'; exact h'.1

/-- Structs laid flat, the p-th onward. -/
def flat {α : Type} (f : Nat → α → List Value) : Nat → List α → List Value
  | _, [] => []
  | p, x :: r => f p x ++ flat f (p + 1) r

theorem flat_length {α : Type} {f : Nat → α → List Value} {n : Nat} (hf : ∀ p x, (f p x).length = n) : ∀ (p : Nat) (xs : List α), (flat f p xs).length = xs.length * n
  | _, [] => by simp [flat]
  | p, x :: r => by simp [flat, hf, flat_length hf, Nat.succ_mul]; omega
theorem flat_get {α : Type} {f : Nat → α → List Value} {n : Nat} (hf : ∀ p x, (f p x).length = n) : ∀ (p : Nat) (xs : List α) (k j : Nat) (x : α), xs[k]? = some x → j < n → (flat f p xs)[k * n + j]? = (f (p + k) x)[j]?
  | _, [], k, _, _, h, _ => by simp at h
  | p, y :: r, 0, j, x, h, hj => by
    simp at h; subst h
    simp [flat, List.getElem?_append_left (show j < (f p y).length by rw [hf]; exact hj)]
  | p, y :: r, k + 1, j, x, h, hj => by
    have ih := flat_get hf (p + 1) r k j x (by simpa using h) hj
    have e : (k + 1) * n + j = n + (k * n + j) := by rw [Nat.succ_mul]; omega
    rw [e, flat, List.getElem?_append_right (by rw [hf]; omega), hf, Nat.add_sub_cancel_left, ih]
    congr 2; omega
theorem flat_set {α : Type} {f : Nat → α → List Value} {n : Nat} (hf : ∀ p x, (f p x).length = n) : ∀ (p : Nat) (xs : List α) (k j : Nat) (x x' : α) (u : Value), xs[k]? = some x → j < n → (f (p + k) x).set j u = f (p + k) x' → (flat f p xs).set (k * n + j) u = flat f p (xs.set k x')
  | _, [], k, _, _, _, _, h, _, _ => by simp at h
  | p, y :: r, 0, j, x, x', u, h, hj, e => by
    simp at h; subst h
    simp only [Nat.add_zero] at e
    simp only [Nat.zero_mul, Nat.zero_add, flat, List.set_cons_zero]
    rw [List.set_append_left _ _ (by rw [hf]; exact hj), e]
  | p, y :: r, k + 1, j, x, x', u, h, hj, e => by
    have ih := flat_set hf (p + 1) r k j x x' u (by simpa using h) hj (by rw [show p + 1 + k = p + (k + 1) by omega]; exact e)
    have e2 : (k + 1) * n + j = n + (k * n + j) := by rw [Nat.succ_mul]; omega
    rw [e2]
    simp only [flat, List.set_cons_succ]
    rw [List.set_append_right _ _ (by rw [hf]; omega), hf, Nat.add_sub_cancel_left, ih]

/-- The worlds in which nothing that w has was written. -/
def UW (w : World) : Type := { w' : World // Upd noBlk w w' }
def UW.w {w0 : World} (x : UW w0) : World := x.1
theorem UW.upd {w0 : World} (x : UW w0) : Upd noBlk w0 x.w := x.2
theorem UW.cell {w0 : World} (x : UW w0) {a : Addr} {v : Value} (h : w0.cell? a = some v) : x.w.cell? a = some v :=
  (World.cell?_of_block (x.2.block a.block (World.block_lt_of_cell? w0 a h) id)).trans h
theorem UW.call {P : Program} {f : FuncId} {args : Array Value} {w0 : World} {n : UW w0} {v : Value} (h : Calls P f args n.w fun e w' => e = .returned v ∧ Upd noBlk n.w w') :
    Calls P f args n.w fun e w' => e = .returned v ∧ ∃ m : UW w0, w' = m.w :=
  h.mono fun _ w' ⟨he, hu⟩ => ⟨he, ⟨w', n.2.trans' hu⟩, rfl⟩
theorem UW.call_same {P : Program} {f : FuncId} {args : Array Value} {w0 : World} {n : UW w0} {v : Value} (h : Calls P f args n.w fun e w' => e = .returned v ∧ n.w = w') :
    Calls P f args n.w fun e w' => e = .returned v ∧ ∃ m : UW w0, w' = m.w :=
  h.mono fun _ w' ⟨he, hu⟩ => ⟨he, ⟨w', by rw [← hu]; exact n.2⟩, rfl⟩
/-- A region that draws its order, whose operations only read and whose callees make new memory alone: walked once, in the order of the text. -/
theorem wp_region_upd {P : Program} {id : Nat} {Q : Exit → Act → World → Prop} {a : Act} {w : World} {l : List Oper} (hm : P.follows .mixedOrders = true) (hB : Region.lexB .any l.toArray = true)
    (h : wpQuiet P l.toArray (fun w' => ∃ n : UW w, w' = n.w) (fun a' => ∀ w', (∃ n : UW w, w' = n.w) → Q .normal a' w') l a) : (Code.region id l.toArray true).wp P Q a w :=
  wp_region_quiet (C := fun w' => ∃ n : UW w, w' = n.w) hm hB ⟨⟨{ w with drawn := w.drawn + 1 }, ⟨rfl, rfl, rfl, Nat.le_refl _, fun _ _ _ => rfl⟩⟩, rfl⟩ (by simpa using h)

/-- A fact put where the walk does not take it for a rule. -/
theorem hid {p : Prop} (h : p) : Hid p := h

end Go.Proofs.Ytljphijjcagciaa
