/- Small facts for the laws of num. -/
import Derived.Test.YtnkeijdpjcclcaaNum
import Derived.Test.YtnkeijdpjcclcaaNumPure2
import Derived.Test.YtnkeijdpjcclcaaStr
import Derived.Test.YtnkeijdpjcclcaaWTab
import Derived.WalkLawsBesides
import Derived.WalkSpells
namespace Go.Proofs.Ytnkeijdpjcclcaa.Num
set_option linter.unusedVariables false
open Go.Proofs.Ytnkeijdpjcclcaa.Kit Go.RowKit Go.Proofs.YtnkeijdpjcclcaaW.PrintWords Go.Proofs.YtnkeijdpjcclcaaW.PrintLast Go.Proofs.YtnkeijdpjcclcaaW.PrintMore NumPure
theorem put300 : put7 300 = [172, 2] := by rw [put7_big (by omega), put7_small (by omega)]; rfl
theorem compact300 : compact 300 = [253, 44, 1] := by unfold compact; rw [if_neg (by omega), if_pos (by omega)]; rfl
theorem be300 : be 300 3 = [0, 1, 44] := by rfl
theorem high_succ {l : List Int} {k n x : Nat} (h : High (l.take k)) (hk : k < n) (hl : l.length = n) (hx : l.getD k 0 = (x : Int)) (h1 : 128 ≤ x) (h2 : x < 256) : High (l.take (k + 1)) := by
  rw [List.take_succ_eq_append_getElem (by omega)]
  intro y hy
  rcases List.mem_append.1 hy with hy | hy
  · exact h y hy
  · rcases List.mem_singleton.1 hy with rfl
    rw [List.getD_eq_getElem?_getD, List.getElem?_eq_getElem (by omega)] at hx
    simp only [Option.getD_some] at hx
    omega
theorem split_at {l : List Int} {k n : Nat} {x : Int} (hk : k < n) (hl : l.length = n) (hx : l.getD k 0 = x) : l = l.take k ++ x :: l.drop (k + 1) := by
  have h1 : l[k]'(by omega) = x := by rw [← hx, List.getD_eq_getElem?_getD, List.getElem?_eq_getElem (by omega)]; rfl
  have h2 := List.drop_eq_getElem_cons (l := l) (i := k) (by omega)
  rw [h1] at h2
  rw [← h2, List.take_append_drop]
theorem below_drew_then {w w' : World} (h : Below w.drew.heap.size w.drew w') : Below w.heap.size w w' := ⟨h.os, h.tape, h.output, h.size, h.block⟩
theorem byte_wf {l : List Int} (h : ∀ x ∈ l, (Lit.int .u8 x).wf = true) : Byte l := fun x hx => wf_u8 (h x hx)
/-- A constant's bytes, laid and marked. -/
theorem marked (w : World) (B : Nat) (xs : List Int) (n : Nat) (hn : xs.length = n) (hB : B ≤ w.heap.size) (hm : xs.length ≤ 9223372036854775807) :
    GrB (w.alloc (.cells (nums .u8 xs).toArray 5 ((nums .u8 xs).toArray.size, (nums .u8 xs).toArray.size + 1))) B (.slice (some ⟨w.heap.size, 0, none⟩) n n) xs := gr_marked w B _ xs n (by simp [nums, hn]) hn hB hm
theorem conv_marked (w : World) (C : Array Value) (n c : Nat) :
    (convert 25 25 (.slice (some ⟨w.heap.size, 0, none⟩) n c)).run Try.prog (w.alloc (.cells C 5)) = .ok (.slice (some ⟨w.heap.size, 0, none⟩) n c) (w.alloc (.cells C 5 (C.size, C.size + 1))) :=
  Lib.run_convert_bytes_const w 25 5 C n c Try.underlying25 Try.underlying5
end Go.Proofs.Ytnkeijdpjcclcaa.Num
