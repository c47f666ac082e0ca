/- bits.Len64 comes to how many digits its argument has, in twos. -/
import Derived.Test.YtmajepinbldneaaBase
import Derived.Shelf.Strconv.Itoa0
import Derived.Test.YtmajepinbldneaaProg
namespace Go.Proofs.Ytmajepinbldneaa
set_option linter.unusedVariables false
set_option linter.unusedSimpArgs false
open Go.Shelf
def len64Ren : Go.Shelf.Ren := ⟨fun | 129 => 157 | n => n, fun | 53 => 23 | 3 => 3 | 4 => 4 | 46 => 187 | 5 => 5 | 9 => 9 | n => n, fun | n => n⟩
theorem len64Lays : Go.Proofs.Lays.n129 Try.prog len64Ren := {
  mixed := by kernel_rfl
  f129 := Try.func157.trans (congrArg some (by kernel_rfl))
  t3 := Try.underlying3
  a3 := Try.isAgg3
  z3 := Try.sizeOf3
  v3 := Try.zeroValue3
  t4 := Try.underlying4
  a4 := Try.isAgg4
  z4 := Try.sizeOf4
  v4 := Try.zeroValue4
  t5 := Try.underlying5
  a5 := Try.isAgg5
  z5 := Try.sizeOf5
  v5 := Try.zeroValue5
  t9 := Try.underlying9
  a9 := Try.isAgg9
  z9 := Try.sizeOf9
  v9 := Try.zeroValue9
  t46 := Try.underlying187
  a46 := Try.isAgg187
  z46 := Try.sizeOf187
  v46 := Try.zeroValue187
  t53 := Try.underlying23
  a53 := Try.isAgg23
  z53 := Try.sizeOf23
  v53 := Try.zeroValue23 }
theorem len64 (x : Int) (w : World) (hx : U x) : Calls Try.prog 157 #[.int .u64 x] w fun e w' => e = .returned (.int .i64 (Lib.bitLen x.toNat)) ∧ w = w' :=
  (Any.bits_Len64 len64Lays x w hx.1 hx.2).mono fun _ _ h => ⟨h.1, h.2.symm⟩
end Go.Proofs.Ytmajepinbldneaa
