/- strings.Repeat, laid at this program. -/
import Derived.Shelf.Strings.Repeat
import Derived.Shelf.Lay
import Derived.Ground.NamesProg
import Derived.Lib.Agree
import Derived.Test.YtgnicgcdhldmmaaDoorBlmKeeps
namespace Go.Proofs
open Go.Shelf Go.RowKit
shelf_lay Lays.n105 Nm 105 at Tryd as Tryd.layRepeat
theorem Tryd.repExtra : Builder.Extra Tryd.prog Tryd.layRepeat_ren where
  sizeBuilder := by kernel_rfl
  liesBuilder := by kernel_rfl
  t5 := Tryd.layRepeat.t5
  a5 := Tryd.layRepeat.a5
  z5 := Tryd.layRepeat.z5
  v5 := Tryd.layRepeat.v5
  infoByte := by kernel_rfl
  cellsByte := by kernel_rfl
  sizeByte := by kernel_rfl
  neB5 := by decide
theorem Tryd.repeat_any (s : ByteArray) (c : Nat) (w : World) (hc : c ≤ 9223372036854775807) (hlen : s.size * c ≤ 140737488355328) :
    Calls Tryd.prog 15 #[.string s, .int .i64 c] w fun e w' => e = .returned (.string ⟨(Lib.repeatL s.data.toList c).toArray⟩) ∧ Below w.heap.size w w' :=
  Any.strings_Repeat Tryd.layRepeat Tryd.repExtra s c w hc hlen
end Go.Proofs
