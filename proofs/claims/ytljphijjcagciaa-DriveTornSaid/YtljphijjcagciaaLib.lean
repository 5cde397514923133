/-
  What the program calls of Go's library.
-/
import Derived.Test.YtljphijjcagciaaShelf
import Derived.Test.YtljphijjcagciaaModel
namespace Go.Proofs.Ytljphijjcagciaa
open Go.RowKit

theorem repL_lib (l : List UInt8) : ∀ c, Lib.repeatL l c = repL l c
  | 0 => rfl
  | c + 1 => by rw [Lib.repeatL, repL, repL_lib l c]
theorem Repeat_any (s : ByteArray) (n : Int) (w : World) (h0 : 0 ≤ n) (h1 : (s.size : Int) * n ≤ 100000000) (h2 : n ≤ 9223372036854775807 := by omega) :
    Calls Try.prog 32 #[.string s, .int .i64 n] w fun e w' => e = .returned (.string (repS s n.toNat)) ∧ Upd noBlk w w' := by
  obtain ⟨c, rfl⟩ : ∃ c : Nat, n = c := ⟨n.toNat, by omega⟩
  have hb : s.size * c ≤ 140737488355328 := by
    have h3 : ((s.size * c : Nat) : Int) ≤ 100000000 := by rw [Int.natCast_mul]; exact h1
    omega
  refine (Try.strings_Repeat s c w (by omega) hb).mono ?_
  rintro e w' ⟨rfl, hw⟩
  refine ⟨?_, Upd.of_below hw _⟩
  rw [repL_lib, Int.toNat_natCast]; rfl

end Go.Proofs.Ytljphijjcagciaa
