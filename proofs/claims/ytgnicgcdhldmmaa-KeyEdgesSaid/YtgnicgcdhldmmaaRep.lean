/- strings.Repeat, laid at this program. -/
import Derived.Shelf.Strings.Repeat
import Derived.Shelf.Lay
import Derived.Ground.NamesProg
import Derived.Lib.Agree
import Derived.Test.YtgnicgcdhldmmaaKeyN
namespace Go.Proofs
open Go.Shelf Go.RowKit
shelf_lay Lays.n105 Nm 105 at Try as Try.layRepeat
theorem Try.repExtra : Builder.Extra Try.prog Try.layRepeat_ren where
  sizeBuilder := by kernel_rfl
  liesBuilder := by kernel_rfl
  t5 := Try.layRepeat.t5
  a5 := Try.layRepeat.a5
  z5 := Try.layRepeat.z5
  v5 := Try.layRepeat.v5
  infoByte := by kernel_rfl
  cellsByte := by kernel_rfl
  sizeByte := by kernel_rfl
  neB5 := by decide
theorem Try.repeat_any (s : ByteArray) (c : Nat) (w : World) (hc : c ≤ 9223372036854775807) (hlen : s.size * c ≤ 140737488355328) :
    Calls Try.prog 17 #[.string s, .int .i64 c] w fun e w' => e = .returned (.string ⟨(Lib.repeatL s.data.toList c).toArray⟩) ∧ Below w.heap.size w w' :=
  Any.strings_Repeat Try.layRepeat Try.repExtra s c w hc hlen
end Go.Proofs
