/-
  What the program calls of the library, by the contracts of the shelf.
-/
import Derived.Shelf.Small.Wraps
import Derived.Shelf.Strings.Prefix
import Derived.Shelf.Strings.Repeat
import Derived.Test.YtljphijjcagciaaChecked
namespace Go.Proofs
open Go.Shelf
def Try.lays122_ren : Go.Shelf.Ren := ⟨fun | 122 => 90 | 215 => 100 | n => n, fun | 3 => 3 | 4 => 4 | n => n, fun | n => n⟩
theorem Try.lays122 : Go.Proofs.Lays.n122 Try.prog Try.lays122_ren := {
  mixed := by kernel_rfl
  f122 := Try.func90.trans (congrArg some (by kernel_rfl))
  f215 := Try.func100.trans (congrArg some (by kernel_rfl))
  t3 := Try.underlying3
  a3 := Try.isAgg3
  z3 := Try.sizeOf3
  v3 := Try.zeroValue3
  t4 := Try.underlying4
  a4 := Try.isAgg4
  z4 := Try.sizeOf4
  v4 := Try.zeroValue4 }
open Go.RowKit in
theorem Try.cmp_Compare_int (x y : Int) (w : World) :
    Calls Try.prog 90 #[.int .i64 x, .int .i64 y] w fun e w' => e = .returned (.int .i64 (Lib.compareInt x y)) ∧ w' = w := Any.cmp_Compare_int Try.lays122 x y w
def Try.lays99_ren : Go.Shelf.Ren := ⟨fun | 99 => 54 | 206 => 79 | n => n, fun | 9 => 9 | 4 => 4 | 3 => 3 | n => n, fun | n => n⟩
theorem Try.lays99 : Go.Proofs.Lays.n99 Try.prog Try.lays99_ren := {
  mixed := by kernel_rfl
  f99 := Try.func54.trans (congrArg some (by kernel_rfl))
  f206 := Try.func79.trans (congrArg some (by kernel_rfl))
  t3 := Try.underlying3
  a3 := Try.isAgg3
  z3 := Try.sizeOf3
  v3 := Try.zeroValue3
  t4 := Try.underlying4
  a4 := Try.isAgg4
  z4 := Try.sizeOf4
  v4 := Try.zeroValue4
  t9 := Try.underlying9
  a9 := Try.isAgg9
  z9 := Try.sizeOf9
  v9 := Try.zeroValue9 }
open Go.RowKit Go.Lib in
theorem Try.strings_HasPrefix (s p : ByteArray) (w : World) :
    Calls Try.prog 54 #[.string s, .string p] w fun e w' => e = .returned (.bool (Lib.hasPrefix s.data.toList p.data.toList)) ∧ w' = w := Any.strings_HasPrefix Try.lays99 s p w
def Try.lays105_ren : Go.Shelf.Ren := ⟨fun | 105 => 32 | 212 => 53 | 99 => 54 | 165 => 55 | 166 => 56 | 170 => 57 | 169 => 58 | 263 => 77 | 264 => 78 | 206 => 79 | 240 => 80 | 241 => 81 | 276 => 93 | 277 => 94 | n => n, fun | 9 => 9 | 3 => 3 | 4 => 4 | 20 => 20 | 0 => 0 | 46 => 110 | 109 => 111 | 5 => 5 | 72 => 116 | 76 => 119 | 51 => 77 | 146 => 133 | 53 => 34 | 148 => 135 | 70 => 113 | 37 => 114 | 75 => 118 | 127 => 137 | 164 => 149 | 80 => 121 | n => n, fun | n => n⟩
theorem Try.lays105 : Go.Proofs.Lays.n105 Try.prog Try.lays105_ren := {
  mixed := by kernel_rfl
  f99 := Try.func54.trans (congrArg some (by kernel_rfl))
  f105 := Try.func32.trans (congrArg some (by kernel_rfl))
  f165 := Try.func55.trans (congrArg some (by kernel_rfl))
  f166 := Try.func56.trans (congrArg some (by kernel_rfl))
  f169 := Try.func58.trans (congrArg some (by kernel_rfl))
  f170 := Try.func57.trans (congrArg some (by kernel_rfl))
  f206 := Try.func79.trans (congrArg some (by kernel_rfl))
  f212 := Try.func53.trans (congrArg some (by kernel_rfl))
  f240 := Try.func80.trans (congrArg some (by kernel_rfl))
  f241 := Try.func81.trans (congrArg some (by kernel_rfl))
  f263 := Try.func77.trans (congrArg some (by kernel_rfl))
  f264 := Try.func78.trans (congrArg some (by kernel_rfl))
  f276 := Try.func93.trans (congrArg some (by kernel_rfl))
  f277 := Try.func94.trans (congrArg some (by kernel_rfl))
  t0 := Try.underlying0
  a0 := Try.isAgg0
  z0 := Try.sizeOf0
  v0 := Try.zeroValue0
  t3 := Try.underlying3
  a3 := Try.isAgg3
  z3 := Try.sizeOf3
  v3 := Try.zeroValue3
  t4 := Try.underlying4
  a4 := Try.isAgg4
  z4 := Try.sizeOf4
  v4 := Try.zeroValue4
  t5 := Try.underlying5
  a5 := Try.isAgg5
  z5 := Try.sizeOf5
  v5 := Try.zeroValue5
  t9 := Try.underlying9
  a9 := Try.isAgg9
  z9 := Try.sizeOf9
  v9 := Try.zeroValue9
  t20 := Try.underlying20
  a20 := Try.isAgg20
  z20 := Try.sizeOf20
  v20 := Try.zeroValue20
  t37 := Try.underlying114
  a37 := Try.isAgg114
  z37 := Try.sizeOf114
  v37 := Try.zeroValue114
  t46 := Try.underlying110
  a46 := Try.isAgg110
  z46 := Try.sizeOf110
  v46 := Try.zeroValue110
  t51 := Try.underlying77
  a51 := Try.isAgg77
  z51 := Try.sizeOf77
  v51 := Try.zeroValue77
  t53 := Try.underlying34
  a53 := Try.isAgg34
  z53 := Try.sizeOf34
  v53 := Try.zeroValue34
  t70 := Try.underlying113
  a70 := Try.isAgg113
  z70 := Try.sizeOf113
  v70 := Try.zeroValue113
  t72 := Try.underlying116
  a72 := Try.isAgg116
  z72 := Try.sizeOf116
  v72 := Try.zeroValue116
  t75 := Try.underlying118
  a75 := Try.isAgg118
  z75 := Try.sizeOf118
  v75 := Try.zeroValue118
  t76 := Try.underlying119
  a76 := Try.isAgg119
  z76 := Try.sizeOf119
  v76 := Try.zeroValue119
  t109 := Try.underlying111
  a109 := Try.isAgg111
  z109 := Try.sizeOf111
  v109 := Try.zeroValue111
  t127 := Try.underlying137
  a127 := Try.isAgg137
  z127 := Try.sizeOf137
  v127 := Try.zeroValue137
  t146 := Try.underlying133
  a146 := Try.isAgg133
  z146 := Try.sizeOf133
  v146 := Try.zeroValue133
  t148 := Try.underlying135
  a148 := Try.isAgg135
  z148 := Try.sizeOf135
  v148 := Try.zeroValue135
  t164 := Try.underlying149
  a164 := Try.isAgg149
  z164 := Try.sizeOf149
  v164 := Try.zeroValue149 }
theorem Try.Builder_Extra_105 : Builder.Extra Try.prog Try.lays105_ren := {
  sizeBuilder := by kernel_rfl
  liesBuilder := by kernel_rfl
  t5 := Try.underlying5
  a5 := Try.isAgg5
  z5 := Try.sizeOf5
  v5 := Try.zeroValue5
  infoByte := by kernel_rfl
  cellsByte := by kernel_rfl
  sizeByte := by kernel_rfl
  neB5 := by decide }
open Go.RowKit Go.Lib in
theorem Try.strings_Repeat (s : ByteArray) (c : Nat) (w : World) (hc : c ≤ 9223372036854775807) (hlen : s.size * c ≤ 140737488355328) :
    Calls Try.prog 32 #[.string s, .int .i64 c] w fun e w' => e = .returned (.string ⟨(Lib.repeatL s.data.toList c).toArray⟩) ∧ Below w.heap.size w w' := Any.strings_Repeat Try.lays105 Try.Builder_Extra_105 s c w hc hlen
end Go.Proofs
