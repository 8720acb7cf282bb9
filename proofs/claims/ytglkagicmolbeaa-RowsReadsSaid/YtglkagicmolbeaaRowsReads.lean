/- The walk of the law RowsReads. -/
import Derived.Test.YtglkagicmolbeaaRowsCoins
import Derived.Test.YtglkagicmolbeaaRowsK
namespace Go.Proofs.Ytglkagicmolbeaa.Rw
set_option linter.unusedVariables false
set_option linter.unusedSimpArgs false
open Go.Proofs.Ytglkagicmolbeaa.Kit Go.Proofs.Ytglkagicmolbeaa.Num Go.RowKit Go.Proofs.YtglkagicmolbeaaW.PrintWords Go.Proofs.YtglkagicmolbeaaW.PrintLast Go.Proofs.YtglkagicmolbeaaW.PrintMore NumPure
/-- Blocks that lie so. -/
def Kp (L : List (Nat × Obj)) (W : World) : Prop := ∀ x ∈ L, W.heap[x.1]? = some x.2
theorem Kp.below {L : List (Nat × Obj)} {W W' : World} (h : Kp L W) (hb : Below W.heap.size W W') : Kp L W' := fun x hx => box_stays (h x hx) hb
theorem Kp.cons {L : List (Nat × Obj)} {W : World} {g : Nat} {o : Obj} (h : Kp L W) (hg : W.heap[g]? = some o) : Kp ((g, o) :: L) W := fun x hx => by
  rcases List.mem_cons.1 hx with rfl | hx
  · exact hg
  · exact h x hx
theorem place_any (s : ByteArray) (hs : s.size ≤ 140737488355328) : ∃ (i j : Int) (g : Nat), (∀ w, Calls Try.prog 49 #[.string s] w fun e w' => e = .returned (.tuple #[.int .i64 i, .int .i64 j, .int .i64 g]) ∧ Below w.heap.size w w') ∧ Errs g (decide (s.size = 41)) ∧ (g = 0 → 33 ≤ s.size ∧ F4 i ++ F4 j = s.extract 33 s.size) := by
  by_cases h : s.size = 41
  · refine ⟨_, _, 0, fun w => ?_, .inl ⟨decide_eq_true h, rfl⟩, fun _ => ⟨by omega, place_parts s h⟩⟩
    have := parsePlace_any s hs w
    rw [if_pos h, if_pos h, if_pos h] at this
    exact this
  · refine ⟨0, 0, 12, fun w => ?_, .inr ⟨decide_eq_false h, rfl⟩, fun h2 => by cases h2⟩
    have := parsePlace_any s hs w
    rw [if_neg h, if_neg h, if_neg h] at this
    exact this
theorem reg_14_14 : RegOk (opsOf Try.f14 14) [[], [], [], [2], [2, 3], [0, 1, 2, 3, 4], [0, 1, 2, 3, 4, 5], [0, 1, 2, 3, 4, 5, 6], [0, 1, 2, 3, 4, 5, 6, 7], [0, 1, 2, 3, 4, 5, 6, 7], [0, 1, 2, 3, 4, 5, 6, 7], [0, 1, 2, 3, 4, 5, 6, 7, 10], [0, 1, 2, 3, 4, 5, 6, 7, 10, 11], [0, 1, 2, 3, 4, 5, 6, 7, 8, 9, 10, 11, 12], [0, 1, 2, 3, 4, 5, 6, 7, 8, 9, 10, 11, 12, 13], [0, 1, 2, 3, 4, 5, 6, 7, 8, 9, 10, 11, 12, 13, 14], [0, 1, 2, 3, 4, 5, 6, 7, 8, 9, 10, 11, 12, 13, 14, 15], [0, 1, 2, 3, 4, 5, 6, 7, 8, 9, 10, 11, 12, 13, 14, 15, 16], [0, 1, 2, 3, 4, 5, 6, 7, 8, 9, 10, 11, 12, 13, 14, 15, 16], [0, 1, 2, 3, 4, 5, 6, 7, 8, 9, 10, 11, 12, 13, 14, 15, 16], [0, 1, 2, 3, 4, 5, 6, 7, 8, 9, 10, 11, 12, 13, 14, 15, 16, 19], [0, 1, 2, 3, 4, 5, 6, 7, 8, 9, 10, 11, 12, 13, 14, 15, 16, 19, 20], [0, 1, 2, 3, 4, 5, 6, 7, 8, 9, 10, 11, 12, 13, 14, 15, 16, 17, 18, 19, 20, 21], [0, 1, 2, 3, 4, 5, 6, 7, 8, 9, 10, 11, 12, 13, 14, 15, 16, 17, 18, 19, 20, 21, 22], [0, 1, 2, 3, 4, 5, 6, 7, 8, 9, 10, 11, 12, 13, 14, 15, 16, 17, 18, 19, 20, 21, 22, 23], [0, 1, 2, 3, 4, 5, 6, 7, 8, 9, 10, 11, 12, 13, 14, 15, 16, 17, 18, 19, 20, 21, 22, 23, 24], [0, 1, 2, 3, 4, 5, 6, 7, 8, 9, 10, 11, 12, 13, 14, 15, 16, 17, 18, 19, 20, 21, 22, 23, 24, 25], [0, 1, 2, 3, 4, 5, 6, 7, 8, 9, 10, 11, 12, 13, 14, 15, 16, 17, 18, 19, 20, 21, 22, 23, 24, 25], [0, 1, 2, 3, 4, 5, 6, 7, 8, 9, 10, 11, 12, 13, 14, 15, 16, 17, 18, 19, 20, 21, 22, 23, 24, 25], [0, 1, 2, 3, 4, 5, 6, 7, 8, 9, 10, 11, 12, 13, 14, 15, 16, 17, 18, 19, 20, 21, 22, 23, 24, 25, 28], [0, 1, 2, 3, 4, 5, 6, 7, 8, 9, 10, 11, 12, 13, 14, 15, 16, 17, 18, 19, 20, 21, 22, 23, 24, 25, 28, 29], [0, 1, 2, 3, 4, 5, 6, 7, 8, 9, 10, 11, 12, 13, 14, 15, 16, 17, 18, 19, 20, 21, 22, 23, 24, 25, 26, 27, 28, 29, 30], [0, 1, 2, 3, 4, 5, 6, 7, 8, 9, 10, 11, 12, 13, 14, 15, 16, 17, 18, 19, 20, 21, 22, 23, 24, 25, 26, 27, 28, 29, 30, 31], [0, 1, 2, 3, 4, 5, 6, 7, 8, 9, 10, 11, 12, 13, 14, 15, 16, 17, 18, 19, 20, 21, 22, 23, 24, 25, 26, 27, 28, 29, 30, 31, 32], [0, 1, 2, 3, 4, 5, 6, 7, 8, 9, 10, 11, 12, 13, 14, 15, 16, 17, 18, 19, 20, 21, 22, 23, 24, 25, 26, 27, 28, 29, 30, 31, 32, 33], [0, 1, 2, 3, 4, 5, 6, 7, 8, 9, 10, 11, 12, 13, 14, 15, 16, 17, 18, 19, 20, 21, 22, 23, 24, 25, 26, 27, 28, 29, 30, 31, 32, 33, 34], [0, 1, 2, 3, 4, 5, 6, 7, 8, 9, 10, 11, 12, 13, 14, 15, 16, 17, 18, 19, 20, 21, 22, 23, 24, 25, 26, 27, 28, 29, 30, 31, 32, 33, 34], [0, 1, 2, 3, 4, 5, 6, 7, 8, 9, 10, 11, 12, 13, 14, 15, 16, 17, 18, 19, 20, 21, 22, 23, 24, 25, 26, 27, 28, 29, 30, 31, 32, 33, 34], [0, 1, 2, 3, 4, 5, 6, 7, 8, 9, 10, 11, 12, 13, 14, 15, 16, 17, 18, 19, 20, 21, 22, 23, 24, 25, 26, 27, 28, 29, 30, 31, 32, 33, 34, 37], [0, 1, 2, 3, 4, 5, 6, 7, 8, 9, 10, 11, 12, 13, 14, 15, 16, 17, 18, 19, 20, 21, 22, 23, 24, 25, 26, 27, 28, 29, 30, 31, 32, 33, 34, 37, 38], [0, 1, 2, 3, 4, 5, 6, 7, 8, 9, 10, 11, 12, 13, 14, 15, 16, 17, 18, 19, 20, 21, 22, 23, 24, 25, 26, 27, 28, 29, 30, 31, 32, 33, 34, 35, 36, 37, 38, 39], [0, 1, 2, 3, 4, 5, 6, 7, 8, 9, 10, 11, 12, 13, 14, 15, 16, 17, 18, 19, 20, 21, 22, 23, 24, 25, 26, 27, 28, 29, 30, 31, 32, 33, 34, 35, 36, 37, 38, 39, 40], [0, 1, 2, 3, 4, 5, 6, 7, 8, 9, 10, 11, 12, 13, 14, 15, 16, 17, 18, 19, 20, 21, 22, 23, 24, 25, 26, 27, 28, 29, 30, 31, 32, 33, 34, 35, 36, 37, 38, 39, 40, 41], [0, 1, 2, 3, 4, 5, 6, 7, 8, 9, 10, 11, 12, 13, 14, 15, 16, 17, 18, 19, 20, 21, 22, 23, 24, 25, 26, 27, 28, 29, 30, 31, 32, 33, 34, 35, 36, 37, 38, 39, 40, 41, 42], [0, 1, 2, 3, 4, 5, 6, 7, 8, 9, 10, 11, 12, 13, 14, 15, 16, 17, 18, 19, 20, 21, 22, 23, 24, 25, 26, 27, 28, 29, 30, 31, 32, 33, 34, 35, 36, 37, 38, 39, 40, 41, 42, 43], [0, 1, 2, 3, 4, 5, 6, 7, 8, 9, 10, 11, 12, 13, 14, 15, 16, 17, 18, 19, 20, 21, 22, 23, 24, 25, 26, 27, 28, 29, 30, 31, 32, 33, 34, 35, 36, 37, 38, 39, 40, 41, 42, 43], [0, 1, 2, 3, 4, 5, 6, 7, 8, 9, 10, 11, 12, 13, 14, 15, 16, 17, 18, 19, 20, 21, 22, 23, 24, 25, 26, 27, 28, 29, 30, 31, 32, 33, 34, 35, 36, 37, 38, 39, 40, 41, 42, 43], [0, 1, 2, 3, 4, 5, 6, 7, 8, 9, 10, 11, 12, 13, 14, 15, 16, 17, 18, 19, 20, 21, 22, 23, 24, 25, 26, 27, 28, 29, 30, 31, 32, 33, 34, 35, 36, 37, 38, 39, 40, 41, 42, 43, 46], [0, 1, 2, 3, 4, 5, 6, 7, 8, 9, 10, 11, 12, 13, 14, 15, 16, 17, 18, 19, 20, 21, 22, 23, 24, 25, 26, 27, 28, 29, 30, 31, 32, 33, 34, 35, 36, 37, 38, 39, 40, 41, 42, 43, 46, 47], [0, 1, 2, 3, 4, 5, 6, 7, 8, 9, 10, 11, 12, 13, 14, 15, 16, 17, 18, 19, 20, 21, 22, 23, 24, 25, 26, 27, 28, 29, 30, 31, 32, 33, 34, 35, 36, 37, 38, 39, 40, 41, 42, 43, 44, 45, 46, 47, 48], [0, 1, 2, 3, 4, 5, 6, 7, 8, 9, 10, 11, 12, 13, 14, 15, 16, 17, 18, 19, 20, 21, 22, 23, 24, 25, 26, 27, 28, 29, 30, 31, 32, 33, 34, 35, 36, 37, 38, 39, 40, 41, 42, 43, 44, 45, 46, 47, 48, 49], [0, 1, 2, 3, 4, 5, 6, 7, 8, 9, 10, 11, 12, 13, 14, 15, 16, 17, 18, 19, 20, 21, 22, 23, 24, 25, 26, 27, 28, 29, 30, 31, 32, 33, 34, 35, 36, 37, 38, 39, 40, 41, 42, 43, 44, 45, 46, 47, 48, 49, 50], [0, 1, 2, 3, 4, 5, 6, 7, 8, 9, 10, 11, 12, 13, 14, 15, 16, 17, 18, 19, 20, 21, 22, 23, 24, 25, 26, 27, 28, 29, 30, 31, 32, 33, 34, 35, 36, 37, 38, 39, 40, 41, 42, 43, 44, 45, 46, 47, 48, 49, 50, 51], [0, 1, 2, 3, 4, 5, 6, 7, 8, 9, 10, 11, 12, 13, 14, 15, 16, 17, 18, 19, 20, 21, 22, 23, 24, 25, 26, 27, 28, 29, 30, 31, 32, 33, 34, 35, 36, 37, 38, 39, 40, 41, 42, 43, 44, 45, 46, 47, 48, 49, 50, 51, 52], [0, 1, 2, 3, 4, 5, 6, 7, 8, 9, 10, 11, 12, 13, 14, 15, 16, 17, 18, 19, 20, 21, 22, 23, 24, 25, 26, 27, 28, 29, 30, 31, 32, 33, 34, 35, 36, 37, 38, 39, 40, 41, 42, 43, 44, 45, 46, 47, 48, 49, 50, 51, 52], [0, 1, 2, 3, 4, 5, 6, 7, 8, 9, 10, 11, 12, 13, 14, 15, 16, 17, 18, 19, 20, 21, 22, 23, 24, 25, 26, 27, 28, 29, 30, 31, 32, 33, 34, 35, 36, 37, 38, 39, 40, 41, 42, 43, 44, 45, 46, 47, 48, 49, 50, 51, 52], [0, 1, 2, 3, 4, 5, 6, 7, 8, 9, 10, 11, 12, 13, 14, 15, 16, 17, 18, 19, 20, 21, 22, 23, 24, 25, 26, 27, 28, 29, 30, 31, 32, 33, 34, 35, 36, 37, 38, 39, 40, 41, 42, 43, 44, 45, 46, 47, 48, 49, 50, 51, 52, 55], [0, 1, 2, 3, 4, 5, 6, 7, 8, 9, 10, 11, 12, 13, 14, 15, 16, 17, 18, 19, 20, 21, 22, 23, 24, 25, 26, 27, 28, 29, 30, 31, 32, 33, 34, 35, 36, 37, 38, 39, 40, 41, 42, 43, 44, 45, 46, 47, 48, 49, 50, 51, 52, 55, 56], [0, 1, 2, 3, 4, 5, 6, 7, 8, 9, 10, 11, 12, 13, 14, 15, 16, 17, 18, 19, 20, 21, 22, 23, 24, 25, 26, 27, 28, 29, 30, 31, 32, 33, 34, 35, 36, 37, 38, 39, 40, 41, 42, 43, 44, 45, 46, 47, 48, 49, 50, 51, 52, 53, 54, 55, 56, 57], [0, 1, 2, 3, 4, 5, 6, 7, 8, 9, 10, 11, 12, 13, 14, 15, 16, 17, 18, 19, 20, 21, 22, 23, 24, 25, 26, 27, 28, 29, 30, 31, 32, 33, 34, 35, 36, 37, 38, 39, 40, 41, 42, 43, 44, 45, 46, 47, 48, 49, 50, 51, 52, 53, 54, 55, 56, 57, 58], [0, 1, 2, 3, 4, 5, 6, 7, 8, 9, 10, 11, 12, 13, 14, 15, 16, 17, 18, 19, 20, 21, 22, 23, 24, 25, 26, 27, 28, 29, 30, 31, 32, 33, 34, 35, 36, 37, 38, 39, 40, 41, 42, 43, 44, 45, 46, 47, 48, 49, 50, 51, 52, 53, 54, 55, 56, 57, 58, 59], [0, 1, 2, 3, 4, 5, 6, 7, 8, 9, 10, 11, 12, 13, 14, 15, 16, 17, 18, 19, 20, 21, 22, 23, 24, 25, 26, 27, 28, 29, 30, 31, 32, 33, 34, 35, 36, 37, 38, 39, 40, 41, 42, 43, 44, 45, 46, 47, 48, 49, 50, 51, 52, 53, 54, 55, 56, 57, 58, 59, 60], [0, 1, 2, 3, 4, 5, 6, 7, 8, 9, 10, 11, 12, 13, 14, 15, 16, 17, 18, 19, 20, 21, 22, 23, 24, 25, 26, 27, 28, 29, 30, 31, 32, 33, 34, 35, 36, 37, 38, 39, 40, 41, 42, 43, 44, 45, 46, 47, 48, 49, 50, 51, 52, 53, 54, 55, 56, 57, 58, 59, 60, 61], [0, 1, 2, 3, 4, 5, 6, 7, 8, 9, 10, 11, 12, 13, 14, 15, 16, 17, 18, 19, 20, 21, 22, 23, 24, 25, 26, 27, 28, 29, 30, 31, 32, 33, 34, 35, 36, 37, 38, 39, 40, 41, 42, 43, 44, 45, 46, 47, 48, 49, 50, 51, 52, 53, 54, 55, 56, 57, 58, 59, 60, 61], [0, 1, 2, 3, 4, 5, 6, 7, 8, 9, 10, 11, 12, 13, 14, 15, 16, 17, 18, 19, 20, 21, 22, 23, 24, 25, 26, 27, 28, 29, 30, 31, 32, 33, 34, 35, 36, 37, 38, 39, 40, 41, 42, 43, 44, 45, 46, 47, 48, 49, 50, 51, 52, 53, 54, 55, 56, 57, 58, 59, 60, 61], [0, 1, 2, 3, 4, 5, 6, 7, 8, 9, 10, 11, 12, 13, 14, 15, 16, 17, 18, 19, 20, 21, 22, 23, 24, 25, 26, 27, 28, 29, 30, 31, 32, 33, 34, 35, 36, 37, 38, 39, 40, 41, 42, 43, 44, 45, 46, 47, 48, 49, 50, 51, 52, 53, 54, 55, 56, 57, 58, 59, 60, 61, 64], [0, 1, 2, 3, 4, 5, 6, 7, 8, 9, 10, 11, 12, 13, 14, 15, 16, 17, 18, 19, 20, 21, 22, 23, 24, 25, 26, 27, 28, 29, 30, 31, 32, 33, 34, 35, 36, 37, 38, 39, 40, 41, 42, 43, 44, 45, 46, 47, 48, 49, 50, 51, 52, 53, 54, 55, 56, 57, 58, 59, 60, 61, 64, 65], [0, 1, 2, 3, 4, 5, 6, 7, 8, 9, 10, 11, 12, 13, 14, 15, 16, 17, 18, 19, 20, 21, 22, 23, 24, 25, 26, 27, 28, 29, 30, 31, 32, 33, 34, 35, 36, 37, 38, 39, 40, 41, 42, 43, 44, 45, 46, 47, 48, 49, 50, 51, 52, 53, 54, 55, 56, 57, 58, 59, 60, 61, 64, 65, 66], [0, 1, 2, 3, 4, 5, 6, 7, 8, 9, 10, 11, 12, 13, 14, 15, 16, 17, 18, 19, 20, 21, 22, 23, 24, 25, 26, 27, 28, 29, 30, 31, 32, 33, 34, 35, 36, 37, 38, 39, 40, 41, 42, 43, 44, 45, 46, 47, 48, 49, 50, 51, 52, 53, 54, 55, 56, 57, 58, 59, 60, 61, 64, 65, 66], [0, 1, 2, 3, 4, 5, 6, 7, 8, 9, 10, 11, 12, 13, 14, 15, 16, 17, 18, 19, 20, 21, 22, 23, 24, 25, 26, 27, 28, 29, 30, 31, 32, 33, 34, 35, 36, 37, 38, 39, 40, 41, 42, 43, 44, 45, 46, 47, 48, 49, 50, 51, 52, 53, 54, 55, 56, 57, 58, 59, 60, 61, 64, 65, 66, 68], [0, 1, 2, 3, 4, 5, 6, 7, 8, 9, 10, 11, 12, 13, 14, 15, 16, 17, 18, 19, 20, 21, 22, 23, 24, 25, 26, 27, 28, 29, 30, 31, 32, 33, 34, 35, 36, 37, 38, 39, 40, 41, 42, 43, 44, 45, 46, 47, 48, 49, 50, 51, 52, 53, 54, 55, 56, 57, 58, 59, 60, 61, 64, 65, 66, 67, 68, 69], [0, 1, 2, 3, 4, 5, 6, 7, 8, 9, 10, 11, 12, 13, 14, 15, 16, 17, 18, 19, 20, 21, 22, 23, 24, 25, 26, 27, 28, 29, 30, 31, 32, 33, 34, 35, 36, 37, 38, 39, 40, 41, 42, 43, 44, 45, 46, 47, 48, 49, 50, 51, 52, 53, 54, 55, 56, 57, 58, 59, 60, 61, 64, 65, 66, 67, 68, 69, 70], [0, 1, 2, 3, 4, 5, 6, 7, 8, 9, 10, 11, 12, 13, 14, 15, 16, 17, 18, 19, 20, 21, 22, 23, 24, 25, 26, 27, 28, 29, 30, 31, 32, 33, 34, 35, 36, 37, 38, 39, 40, 41, 42, 43, 44, 45, 46, 47, 48, 49, 50, 51, 52, 53, 54, 55, 56, 57, 58, 59, 60, 61, 64, 65, 66, 67, 68, 69, 70, 71], [0, 1, 2, 3, 4, 5, 6, 7, 8, 9, 10, 11, 12, 13, 14, 15, 16, 17, 18, 19, 20, 21, 22, 23, 24, 25, 26, 27, 28, 29, 30, 31, 32, 33, 34, 35, 36, 37, 38, 39, 40, 41, 42, 43, 44, 45, 46, 47, 48, 49, 50, 51, 52, 53, 54, 55, 56, 57, 58, 59, 60, 61, 64, 65, 66, 67, 68, 69, 70, 71, 72], [0, 1, 2, 3, 4, 5, 6, 7, 8, 9, 10, 11, 12, 13, 14, 15, 16, 17, 18, 19, 20, 21, 22, 23, 24, 25, 26, 27, 28, 29, 30, 31, 32, 33, 34, 35, 36, 37, 38, 39, 40, 41, 42, 43, 44, 45, 46, 47, 48, 49, 50, 51, 52, 53, 54, 55, 56, 57, 58, 59, 60, 61, 64, 65, 66, 67, 68, 69, 70, 71, 72, 73], [0, 1, 2, 3, 4, 5, 6, 7, 8, 9, 10, 11, 12, 13, 14, 15, 16, 17, 18, 19, 20, 21, 22, 23, 24, 25, 26, 27, 28, 29, 30, 31, 32, 33, 34, 35, 36, 37, 38, 39, 40, 41, 42, 43, 44, 45, 46, 47, 48, 49, 50, 51, 52, 53, 54, 55, 56, 57, 58, 59, 60, 61, 64, 65, 66, 67, 68, 69, 70, 71, 72], [0, 1, 2, 3, 4, 5, 6, 7, 8, 9, 10, 11, 12, 13, 14, 15, 16, 17, 18, 19, 20, 21, 22, 23, 24, 25, 26, 27, 28, 29, 30, 31, 32, 33, 34, 35, 36, 37, 38, 39, 40, 41, 42, 43, 44, 45, 46, 47, 48, 49, 50, 51, 52, 53, 54, 55, 56, 57, 58, 59, 60, 61, 64, 65, 66, 67, 68, 69, 70, 71, 72, 73, 74, 75], [0, 1, 2, 3, 4, 5, 6, 7, 8, 9, 10, 11, 12, 13, 14, 15, 16, 17, 18, 19, 20, 21, 22, 23, 24, 25, 26, 27, 28, 29, 30, 31, 32, 33, 34, 35, 36, 37, 38, 39, 40, 41, 42, 43, 44, 45, 46, 47, 48, 49, 50, 51, 52, 53, 54, 55, 56, 57, 58, 59, 60, 61, 64, 65, 66, 67, 68, 69, 70, 71, 72, 73, 74, 75, 76], [0, 1, 2, 3, 4, 5, 6, 7, 8, 9, 10, 11, 12, 13, 14, 15, 16, 17, 18, 19, 20, 21, 22, 23, 24, 25, 26, 27, 28, 29, 30, 31, 32, 33, 34, 35, 36, 37, 38, 39, 40, 41, 42, 43, 44, 45, 46, 47, 48, 49, 50, 51, 52, 53, 54, 55, 56, 57, 58, 59, 60, 61, 64, 65, 66, 67, 68, 69, 70, 71, 72, 73, 74, 75, 76, 77], [0, 1, 2, 3, 4, 5, 6, 7, 8, 9, 10, 11, 12, 13, 14, 15, 16, 17, 18, 19, 20, 21, 22, 23, 24, 25, 26, 27, 28, 29, 30, 31, 32, 33, 34, 35, 36, 37, 38, 39, 40, 41, 42, 43, 44, 45, 46, 47, 48, 49, 50, 51, 52, 53, 54, 55, 56, 57, 58, 59, 60, 61, 62, 63, 64, 65, 66, 67, 68, 69, 70, 71, 72, 73, 74, 75, 76, 77, 78], [0, 1, 2, 3, 4, 5, 6, 7, 8, 9, 10, 11, 12, 13, 14, 15, 16, 17, 18, 19, 20, 21, 22, 23, 24, 25, 26, 27, 28, 29, 30, 31, 32, 33, 34, 35, 36, 37, 38, 39, 40, 41, 42, 43, 44, 45, 46, 47, 48, 49, 50, 51, 52, 53, 54, 55, 56, 57, 58, 59, 60, 61, 62, 63, 64, 65, 66, 67, 68, 69, 70, 71, 72, 73, 74, 75, 76, 77, 78, 79], [0, 1, 2, 3, 4, 5, 6, 7, 8, 9, 10, 11, 12, 13, 14, 15, 16, 17, 18, 19, 20, 21, 22, 23, 24, 25, 26, 27, 28, 29, 30, 31, 32, 33, 34, 35, 36, 37, 38, 39, 40, 41, 42, 43, 44, 45, 46, 47, 48, 49, 50, 51, 52, 53, 54, 55, 56, 57, 58, 59, 60, 61, 62, 63, 64, 65, 66, 67, 68, 69, 70, 71, 72, 73, 74, 75, 76, 77, 78, 79, 80]] [] [some 76, some 77, some 78, some 79, some 80, some 81, some 82, some 83, some 84, some 85, some 86, some 87, some 88, some 89, some 90, some 91, some 92, some 93, some 94, some 95, some 96, some 97, some 98, some 99, some 100, some 101, some 102, some 103, some 104, some 105, some 106, some 107, some 108, some 109, some 110, some 111, some 112, some 113, some 114, some 115, some 116, some 117, some 118, some 119, some 120, some 121, some 122, some 123, some 124, some 125, some 126, some 127, some 128, some 129, some 130, some 131, some 132, some 133, some 134, some 135, some 136, some 137, some 138, some 139, some 140, some 141, some 142, some 143, some 144, some 145, some 146, some 147, some 148, some 149, some 150, some 151, some 152, some 153, some 154, some 155, some 156, some 157] := regOk (by kernel_rfl)
theorem reg_14_16 : RegOk (opsOf Try.f14 16) [[], [0], [0, 1], [0, 1, 2], [0, 1, 2, 3], [0, 1, 2], [0, 1, 2, 3, 4, 5], [0, 1, 2, 3, 4, 5, 6], [0, 1, 2, 3, 4, 5, 6, 7], [0, 1, 2, 3, 4, 5, 6, 7, 8], [0, 1, 2, 3, 4, 5, 6, 7, 8, 9], [0, 1, 2, 3, 4, 5, 6, 7, 8, 9, 10], [0, 1, 2, 3, 4, 5, 6, 7, 8, 9, 10, 11], [0, 1, 2, 3, 4, 5, 6, 7, 8, 9, 10, 11, 12], [0, 1, 2, 3, 4, 5, 6, 7, 8, 9, 10, 11], [0, 1, 2, 3, 4, 5, 6, 7, 8, 9, 10, 11, 12, 13, 14], [0, 1, 2, 3, 4, 5, 6, 7, 8, 9, 10, 11, 12, 13, 14, 15], [0, 1, 2, 3, 4, 5, 6, 7, 8, 9, 10, 11, 12, 13, 14, 15, 16], [0, 1, 2, 3, 4, 5, 6, 7, 8, 9, 10, 11, 12, 13, 14, 15, 16, 17], [0, 1, 2, 3, 4, 5, 6, 7, 8, 9, 10, 11, 12, 13, 14, 15, 16, 17, 18], [0, 1, 2, 3, 4, 5, 6, 7, 8, 9, 10, 11, 12, 13, 14, 15, 16, 17, 18, 19], [0, 1, 2, 3, 4, 5, 6, 7, 8, 9, 10, 11, 12, 13, 14, 15, 16, 17, 18, 19, 20], [0, 1, 2, 3, 4, 5, 6, 7, 8, 9, 10, 11, 12, 13, 14, 15, 16, 17, 18, 19, 20, 21], [0, 1, 2, 3, 4, 5, 6, 7, 8, 9, 10, 11, 12, 13, 14, 15, 16, 17, 18, 19, 20, 21, 22], [0, 1, 2, 3, 4, 5, 6, 7, 8, 9, 10, 11, 12, 13, 14, 15, 16, 17, 18, 19, 20, 21], [0, 1, 2, 3, 4, 5, 6, 7, 8, 9, 10, 11, 12, 13, 14, 15, 16, 17, 18, 19, 20, 21, 22, 23, 24], [0, 1, 2, 3, 4, 5, 6, 7, 8, 9, 10, 11, 12, 13, 14, 15, 16, 17, 18, 19, 20, 21, 22, 23, 24, 25], [0, 1, 2, 3, 4, 5, 6, 7, 8, 9, 10, 11, 12, 13, 14, 15, 16, 17, 18, 19, 20, 21, 22, 23, 24, 25, 26], [0, 1, 2, 3, 4, 5, 6, 7, 8, 9, 10, 11, 12, 13, 14, 15, 16, 17, 18, 19, 20, 21, 22, 23, 24, 25, 26, 27], [0, 1, 2, 3, 4, 5, 6, 7, 8, 9, 10, 11, 12, 13, 14, 15, 16, 17, 18, 19, 20, 21, 22, 23, 24, 25, 26, 27, 28], [0, 1, 2, 3, 4, 5, 6, 7, 8, 9, 10, 11, 12, 13, 14, 15, 16, 17, 18, 19, 20, 21, 22, 23, 24, 25, 26, 27, 28, 29], [0, 1, 2, 3, 4, 5, 6, 7, 8, 9, 10, 11, 12, 13, 14, 15, 16, 17, 18, 19, 20, 21, 22, 23, 24, 25, 26, 27, 28, 29, 30], [0, 1, 2, 3, 4, 5, 6, 7, 8, 9, 10, 11, 12, 13, 14, 15, 16, 17, 18, 19, 20, 21, 22, 23, 24, 25, 26, 27, 28, 29, 30, 31], [0, 1, 2, 3, 4, 5, 6, 7, 8, 9, 10, 11, 12, 13, 14, 15, 16, 17, 18, 19, 20, 21, 22, 23, 24, 25, 26, 27, 28, 29, 30, 31], [0, 1, 2, 3, 4, 5, 6, 7, 8, 9, 10, 11, 12, 13, 14, 15, 16, 17, 18, 19, 20, 21, 22, 23, 24, 25, 26, 27, 28, 29, 30, 31, 32, 33], [0, 1, 2, 3, 4, 5, 6, 7, 8, 9, 10, 11, 12, 13, 14, 15, 16, 17, 18, 19, 20, 21, 22, 23, 24, 25, 26, 27, 28, 29, 30, 31], [0, 1, 2, 3, 4, 5, 6, 7, 8, 9, 10, 11, 12, 13, 14, 15, 16, 17, 18, 19, 20, 21, 22, 23, 24, 25, 26, 27, 28, 29, 30, 31, 32, 33, 34, 35], [0, 1, 2, 3, 4, 5, 6, 7, 8, 9, 10, 11, 12, 13, 14, 15, 16, 17, 18, 19, 20, 21, 22, 23, 24, 25, 26, 27, 28, 29, 30, 31, 32, 33, 34, 35, 36], [0, 1, 2, 3, 4, 5, 6, 7, 8, 9, 10, 11, 12, 13, 14, 15, 16, 17, 18, 19, 20, 21, 22, 23, 24, 25, 26, 27, 28, 29, 30, 31, 32, 33, 34, 35, 36, 37], [0, 1, 2, 3, 4, 5, 6, 7, 8, 9, 10, 11, 12, 13, 14, 15, 16, 17, 18, 19, 20, 21, 22, 23, 24, 25, 26, 27, 28, 29, 30, 31, 32, 33, 34, 35, 36, 37, 38], [0, 1, 2, 3, 4, 5, 6, 7, 8, 9, 10, 11, 12, 13, 14, 15, 16, 17, 18, 19, 20, 21, 22, 23, 24, 25, 26, 27, 28, 29, 30, 31, 32, 33, 34, 35, 36, 37, 38, 39], [0, 1, 2, 3, 4, 5, 6, 7, 8, 9, 10, 11, 12, 13, 14, 15, 16, 17, 18, 19, 20, 21, 22, 23, 24, 25, 26, 27, 28, 29, 30, 31, 32, 33, 34, 35, 36, 37, 38, 39, 40], [0, 1, 2, 3, 4, 5, 6, 7, 8, 9, 10, 11, 12, 13, 14, 15, 16, 17, 18, 19, 20, 21, 22, 23, 24, 25, 26, 27, 28, 29, 30, 31, 32, 33, 34, 35, 36, 37, 38, 39, 40, 41], [0, 1, 2, 3, 4, 5, 6, 7, 8, 9, 10, 11, 12, 13, 14, 15, 16, 17, 18, 19, 20, 21, 22, 23, 24, 25, 26, 27, 28, 29, 30, 31, 32, 33, 34, 35, 36, 37, 38, 39, 40, 41, 42], [0, 1, 2, 3, 4, 5, 6, 7, 8, 9, 10, 11, 12, 13, 14, 15, 16, 17, 18, 19, 20, 21, 22, 23, 24, 25, 26, 27, 28, 29, 30, 31, 32, 33, 34, 35, 36, 37, 38, 39, 40, 41, 42, 43], [0, 1, 2, 3, 4, 5, 6, 7, 8, 9, 10, 11, 12, 13, 14, 15, 16, 17, 18, 19, 20, 21, 22, 23, 24, 25, 26, 27, 28, 29, 30, 31, 32, 33, 34, 35, 36, 37, 38, 39, 40, 41, 42], [0, 1, 2, 3, 4, 5, 6, 7, 8, 9, 10, 11, 12, 13, 14, 15, 16, 17, 18, 19, 20, 21, 22, 23, 24, 25, 26, 27, 28, 29, 30, 31, 32, 33, 34, 35, 36, 37, 38, 39, 40, 41, 42, 43, 44, 45], [0, 1, 2, 3, 4, 5, 6, 7, 8, 9, 10, 11, 12, 13, 14, 15, 16, 17, 18, 19, 20, 21, 22, 23, 24, 25, 26, 27, 28, 29, 30, 31, 32, 33, 34, 35, 36, 37, 38, 39, 40, 41, 42, 43, 44, 45, 46], [0, 1, 2, 3, 4, 5, 6, 7, 8, 9, 10, 11, 12, 13, 14, 15, 16, 17, 18, 19, 20, 21, 22, 23, 24, 25, 26, 27, 28, 29, 30, 31, 32, 33, 34, 35, 36, 37, 38, 39, 40, 41, 42, 43, 44, 45, 46, 47]] [] [some 158, some 159, some 160, some 161, some 162, some 163, some 164, some 165, some 166, some 167, some 168, some 169, some 170, some 171, some 172, some 173, some 174, some 175, some 176, some 177, some 178, some 179, some 180, some 181, some 182, some 183, some 184, some 185, some 186, some 187, some 188, some 189, some 190, some 191, some 192, some 193, some 194, some 195, some 196, some 197, some 198, some 199, some 200, some 201, some 202, some 203, some 204, some 205, some 206] := regOk (by kernel_rfl)
theorem reg_14_18 : RegOk (opsOf Try.f14 18) [[], [0], [0, 1], [0, 1, 2], [0, 1, 2, 3], [0, 1, 2], [0, 1, 2, 3, 4, 5], [0, 1, 2, 3, 4, 5, 6], [0, 1, 2], [0, 1, 2, 8], [0, 1, 2, 3, 4, 5, 6, 7, 8, 9], [0, 1, 2, 3, 4, 5, 6, 7, 8, 9, 10], [0, 1, 2, 3, 4, 5, 6, 7, 8, 9, 10, 11], [0, 1, 2, 3, 4, 5, 6, 7, 8, 9, 10, 11, 12], [0, 1, 2, 3, 4, 5, 6, 7, 8, 9, 10, 11, 12, 13], [0, 1, 2, 3, 4, 5, 6, 7, 8, 9, 10, 11, 12, 13, 14], [0, 1, 2, 3, 4, 5, 6, 7, 8, 9, 10, 11, 12, 13, 14, 15], [0, 1, 2, 3, 4, 5, 6, 7, 8, 9, 10, 11, 12, 13, 14, 15], [0, 1, 2, 3, 4, 5, 6, 7, 8, 9, 10, 11, 12, 13, 14, 15], [0, 1, 2, 3, 4, 5, 6, 7, 8, 9, 10, 11, 12, 13, 14, 15, 16, 17, 18], [0, 1, 2, 3, 4, 5, 6, 7, 8, 9, 10, 11, 12, 13, 14, 15], [0, 1, 2, 3, 4, 5, 6, 7, 8, 9, 10, 11, 12, 13, 14, 15, 16, 17, 18, 19, 20], [0, 1, 2, 3, 4, 5, 6, 7, 8, 9, 10, 11, 12, 13, 14, 15, 16, 17, 18, 19, 20, 21], [0, 1, 2, 3, 4, 5, 6, 7, 8, 9, 10, 11, 12, 13, 14, 15, 16, 17, 18, 19, 20, 21, 22], [0, 1, 2, 3, 4, 5, 6, 7, 8, 9, 10, 11, 12, 13, 14, 15, 16, 17, 18, 19, 20, 21, 22, 23], [0, 1, 2, 3, 4, 5, 6, 7, 8, 9, 10, 11, 12, 13, 14, 15, 16, 17, 18, 19, 20, 21, 22, 23, 24], [0, 1, 2, 3, 4, 5, 6, 7, 8, 9, 10, 11, 12, 13, 14, 15, 16, 17, 18, 19, 20, 21, 22, 23, 24, 25], [0, 1, 2, 3, 4, 5, 6, 7, 8, 9, 10, 11, 12, 13, 14, 15, 16, 17, 18, 19, 20, 21, 22, 23, 24, 25, 26], [0, 1, 2, 3, 4, 5, 6, 7, 8, 9, 10, 11, 12, 13, 14, 15, 16, 17, 18, 19, 20, 21, 22, 23, 24, 25, 26, 27], [0, 1, 2, 3, 4, 5, 6, 7, 8, 9, 10, 11, 12, 13, 14, 15, 16, 17, 18, 19, 20, 21, 22, 23, 24, 25, 26, 27, 28], [0, 1, 2, 3, 4, 5, 6, 7, 8, 9, 10, 11, 12, 13, 14, 15, 16, 17, 18, 19, 20, 21, 22, 23, 24, 25, 26, 27, 28, 29], [0, 1, 2, 3, 4, 5, 6, 7, 8, 9, 10, 11, 12, 13, 14, 15, 16, 17, 18, 19, 20, 21, 22, 23, 24, 25, 26, 27], [0, 1, 2, 3, 4, 5, 6, 7, 8, 9, 10, 11, 12, 13, 14, 15, 16, 17, 18, 19, 20, 21, 22, 23, 24, 25, 26, 27], [0, 1, 2, 3, 4, 5, 6, 7, 8, 9, 10, 11, 12, 13, 14, 15, 16, 17, 18, 19, 20, 21, 22, 23, 24, 25, 26, 27, 31, 32], [0, 1, 2, 3, 4, 5, 6, 7, 8, 9, 10, 11, 12, 13, 14, 15, 16, 17, 18, 19, 20, 21, 22, 23, 24, 25, 26, 27, 28, 29, 30, 31, 32, 33], [0, 1, 2, 3, 4, 5, 6, 7, 8, 9, 10, 11, 12, 13, 14, 15, 16, 17, 18, 19, 20, 21, 22, 23, 24, 25, 26, 27, 28, 29, 30, 31, 32, 33, 34], [0, 1, 2, 3, 4, 5, 6, 7, 8, 9, 10, 11, 12, 13, 14, 15, 16, 17, 18, 19, 20, 21, 22, 23, 24, 25, 26, 27, 28, 29, 30, 31, 32, 33, 34, 35]] [] [some 207, some 208, some 209, some 210, some 211, some 212, some 213, some 214, some 215, some 216, some 217, some 218, some 219, some 220, some 221, some 222, some 223, some 224, some 225, some 226, some 227, some 228, some 229, some 230, some 231, some 232, some 233, some 234, some 235, some 236, some 237, some 238, some 239, some 240, some 241, some 242, some 243] := regOk (by kernel_rfl)
set_option maxRecDepth 20000 in
set_option maxHeartbeats 6400000 in
theorem reads_any (s : ByteArray) (f : Int) (w : World) (hsw : s.size ≤ 140737488351232) (hf0 : (Lit.int .i64 f).wf = true) :
    Calls Try.prog 14 #[.string s, .int .i64 f] w fun e w' => e = .returned (.bool true) ∧ Below w.heap.size w w' := by
  have C0 := Lib.hid (fun wq => head18_any wq)
  by_cases hbig : 300 < s.size
  · go_enter Try.func14, Try.ntmps14
    go_wp2_with fail
    refine (C0.out _).mono ?_
    rintro e w1 ⟨rfl, hb1⟩
    have HB1 := Lib.hid hb1
    clear hb1
    go_wp2_with fail
    go_ret
    exact ⟨rfl, HB1.out⟩
  have hs3 : s.size ≤ 300 := by omega
  have hf := wf_i64 hf0
  obtain ⟨EN, RN⟩ := PN_parts s
  have CN := parseNumber_any s (by omega)
  obtain ⟨c, sc, h, p, kc, ePC, hsc, EC, RC⟩ := PC_parts s
  have CC := parseCoin_any s (by omega)
  rw [ePC] at CC
  obtain ⟨b, si, sh, ks, ePS, hb, ES, RS⟩ := PS_parts s
  have CS := parseSpend_any s (by omega)
  rw [ePS] at CS
  obtain ⟨uid, uo, uc, usc, uh, up, ku, ePU, huid, huo, husc, EU, RU⟩ := PU_parts s
  have CU := parseUndo_any s (by omega)
  rw [ePU] at CU
  obtain ⟨hphl, EH, RH⟩ := PH_parts s
  have CH := parseHash_any s (by omega)
  obtain ⟨pi, pj, kp, CP, EP, RP⟩ := place_any s (by omega)
  obtain ⟨ET, RT⟩ := TX_parts s
  have CT := parseTx_any s (by omega)
  obtain ⟨qid, qo, kq, ePP, hqid, hqo, EQ, RQ⟩ := PP_parts s f
  have CQ := parsePoint_any s (by omega) f hf
  rw [ePP] at CQ
  generalize (PN s).1 = n at CN RN
  generalize (PN s).2 = kn at CN EN RN
  generalize (PH s).1 = hh at CH hphl RH
  generalize (PH s).2 = kh at CH EH RH
  generalize (TX s).1 = t1 at CT RT
  generalize (TX s).2.1 = t2 at CT RT
  generalize (TX s).2.2.2 = kt at CT ET RT
  generalize (TX s).2.2.1 = tl at CT RT
  have HCN := Lib.hid CN
  have HCC := Lib.hid CC
  have HCS := Lib.hid CS
  have HCU := Lib.hid CU
  have HCH := Lib.hid CH
  have HCP := Lib.hid CP
  have HCT := Lib.hid CT
  have HCQ := Lib.hid CQ
  have HEN := Lib.hid (And.intro EN RN)
  have HEC := Lib.hid (And.intro EC RC)
  have HES := Lib.hid (And.intro ES RS)
  have HEU := Lib.hid (And.intro EU RU)
  have HEH := Lib.hid (And.intro EH RH)
  have HEP := Lib.hid (And.intro EP RP)
  have HET := Lib.hid (And.intro ET RT)
  have HEQ := Lib.hid (And.intro EQ RQ)
  have L1 := Lib.hid (cn_length hsc h p (c := c))
  have L2 := Lib.hid (sp_length hb si sh)
  have L3 := Lib.hid (pt_length huid uo)
  have L4 := Lib.hid (cn_length husc uh up (c := uc))
  have L5 : Hid ((nums .u8 hh).length = 32) := Lib.hid (by simp [nums, hphl])
  have L6 := Lib.hid (pt_length hqid qo)
  have HLEN := Lib.hid (And.intro hsc (And.intro hb (And.intro huid (And.intro huo (And.intro husc (And.intro hphl (And.intro hqid hqo)))))))
  clear CN CC CS CU CH CP CT CQ EN RN EC RC ES RS EU RU EH RH EP RP ET RT EQ RQ ePC ePS ePU ePP hsc hb huid huo husc hphl hqid hqo hf0
  go_enter Try.func14, Try.ntmps14
  go_wp2_with fail
  refine (C0.out _).mono ?_
  rintro e w1 ⟨rfl, hb1⟩
  have HB1 := Lib.hid hb1
  clear hb1 C0
  go_wp2_with fail
  refine (HCN.out _).mono ?_
  rintro e w2 ⟨rfl, hb2⟩
  have HB2 := Lib.hid (below_then HB1.out HB1.out.size hb2)
  clear hb2 HB1 HCN
  go_wp2_with fail
  refine (HCC.out _).mono ?_
  rintro e w3 ⟨rfl, hb3⟩
  have HB3 := Lib.hid (below_then HB2.out HB2.out.size hb3)
  clear hb3 HB2 HCC
  go_upto_region 7 with (refine wpList_store_box rfl 56 (.tmp 7) (.tmp 39) rfl w3.heap.size (cn c sc h p) rfl rfl (heap_alloc_new w3 _) (by rw [L1.out]; rfl) (by rw [L1.out]; exact size56) (cn_one _ _ _ _) ?_; intro w4 hs4; have HS4 := Lib.hid hs4; clear hs4)
  have hb4 : Below w3.heap.size w3 w4 := HS4.out.then_ (below_alloc (Below.refl _ _) _) (Nat.le_refl _)
  have HB4 := Lib.hid (below_then HB3.out HB3.out.size hb4)
  have HK4 : Hid (Kp [(w3.heap.size, .cells (cn c sc h p).toArray 56 (0, 0))] w4) := Lib.hid (Kp.cons (fun x hx => by cases hx) HS4.out.at_)
  clear hb4 HS4 HB3
  generalize w3.heap.size = p1 at HK4 ⊢
  go_wp2_with fail
  refine (HCS.out _).mono ?_
  rintro e w5 ⟨rfl, hb5⟩
  have HB5 := Lib.hid (below_then HB4.out HB4.out.size hb5)
  have HK5 := Lib.hid (HK4.out.below hb5)
  clear hb5 HB4 HK4 HCS
  go_upto_region 8 with (refine wpList_store_box rfl 58 (.tmp 9) (.tmp 44) rfl w5.heap.size (sp b si sh) rfl rfl (heap_alloc_new w5 _) (by rw [L2.out]; rfl) (by rw [L2.out]; exact size58) (sp_one _ _ _) ?_; intro w6 hs6; have HS6 := Lib.hid hs6; clear hs6)
  have hb6 : Below w5.heap.size w5 w6 := HS6.out.then_ (below_alloc (Below.refl _ _) _) (Nat.le_refl _)
  have HB6 := Lib.hid (below_then HB5.out HB5.out.size hb6)
  have HK6 := Lib.hid ((HK5.out.below hb6).cons HS6.out.at_)
  clear hb6 HS6 HB5 HK5
  generalize w5.heap.size = p2 at HK6 ⊢
  go_wp2_with fail
  refine (HCU.out _).mono ?_
  rintro e w7 ⟨rfl, hb7⟩
  have HB7 := Lib.hid (below_then HB6.out HB6.out.size hb7)
  have HK7 := Lib.hid (HK6.out.below hb7)
  clear hb7 HB6 HK6 HCU
  have hxa : ((w7.alloc (.cells (pt z32 0).toArray 39)).alloc (.cells (cn 0 z32 0 0).toArray 56)).heap[w7.heap.size]? = some (.cells (pt z32 0).toArray 39) := (heap_alloc_old _ _ (by simp)).trans (heap_alloc_new w7 _)
  have hxb : ((w7.alloc (.cells (pt z32 0).toArray 39)).alloc (.cells (cn 0 z32 0 0).toArray 56)).heap[w7.heap.size + 1]? = some (.cells (cn 0 z32 0 0).toArray 56) := by have := heap_alloc_new (w7.alloc (.cells (pt z32 0).toArray 39)) (.cells (cn 0 z32 0 0).toArray 56); simpa using this
  have HXA := Lib.hid hxa
  have HXB := Lib.hid hxb
  have hba : Below w7.heap.size w7 ((w7.alloc (.cells (pt z32 0).toArray 39)).alloc (.cells (cn 0 z32 0 0).toArray 56)) := below_alloc (below_alloc (Below.refl _ _) _) _
  have HBA := Lib.hid hba
  clear hxa hxb hba
  go_upto_region 9 with (first
    | (refine wpList_store_box rfl 39 (.tmp 11) (.tmp 49) rfl w7.heap.size (pt uid uo) rfl rfl HXA.out (by rw [L3.out]; rfl) (by rw [L3.out]; exact size39) (pt_one _ _) ?_; intro w8 hs8; have HS8 := Lib.hid hs8; have HXB8 := Lib.hid ((hs8.other (w7.heap.size + 1) (by omega)).trans HXB.out); clear hs8)
    | (refine wpList_store_box rfl 56 (.tmp 12) (.tmp 50) rfl (w7.heap.size + 1) (cn uc usc uh up) rfl rfl HXB8.out (by rw [L4.out]; rfl) (by rw [L4.out]; exact size56) (cn_one _ _ _ _) ?_; intro w9 hs9; have HS9 := Lib.hid hs9; clear hs9))
  have hb9 : Below w7.heap.size w7 w9 := HS9.out.then_ (HS8.out.then_ HBA.out (Nat.le_refl _)) (by omega)
  have HB9 := Lib.hid (below_then HB7.out HB7.out.size hb9)
  have HK9 := Lib.hid (((HK7.out.below hb9).cons ((HS9.out.other w7.heap.size (by omega)).trans HS8.out.at_)).cons HS9.out.at_)
  clear hb9 HS8 HS9 HB7 HK7 HXA HXB HBA HXB8
  generalize hq7 : w7.heap.size + 1 = p4 at HK9 ⊢
  generalize w7.heap.size = p3 at HK9 ⊢
  clear hq7
  go_wp2_with fail
  refine (HCH.out _).mono ?_
  rintro e w10 ⟨rfl, hb10⟩
  have HB10 := Lib.hid (below_then HB9.out HB9.out.size hb10)
  have HK10 := Lib.hid (HK9.out.below hb10)
  clear hb10 HB9 HK9 HCH
  go_upto_region 10 with (refine wpList_store_box rfl 32 (.tmp 14) (.tmp 55) rfl w10.heap.size (nums .u8 hh) rfl rfl (heap_alloc_new w10 _) (by rw [L5.out]; rfl) (by rw [L5.out]; exact size32) (nums_one _ _) ?_; intro w11 hs11; have HS11 := Lib.hid hs11; clear hs11)
  have hb11 : Below w10.heap.size w10 w11 := HS11.out.then_ (below_alloc (Below.refl _ _) _) (Nat.le_refl _)
  have HB11 := Lib.hid (below_then HB10.out HB10.out.size hb11)
  have HK11 := Lib.hid ((HK10.out.below hb11).cons HS11.out.at_)
  clear hb11 HS11 HB10 HK10
  generalize w10.heap.size = p5 at HK11 ⊢
  go_wp2_with fail
  refine (HCP.out _).mono ?_
  rintro e w12 ⟨rfl, hb12⟩
  have HB12 := Lib.hid (below_then HB11.out HB11.out.size hb12)
  have HK12 := Lib.hid (HK11.out.below hb12)
  clear hb12 HB11 HK11 HCP
  go_wp2_with fail
  refine (HCT.out _).mono ?_
  rintro e w13 ⟨TA, tn, tc, rfl, hrt, hb13⟩
  have HB13 := Lib.hid (below_then HB12.out HB12.out.size hb13)
  have HK13 := Lib.hid (HK12.out.below hb13)
  have HRT := Lib.hid hrt
  clear hb13 hrt HB12 HK12 HCT
  go_wp2_with fail
  refine (HCQ.out _).mono ?_
  rintro e w14 ⟨rfl, hb14⟩
  have HB14 := Lib.hid (below_then HB13.out HB13.out.size hb14)
  have HK14 := Lib.hid (HK13.out.below hb14)
  have HRT14 := Lib.hid (rds_below HRT.out hb14)
  clear hb14 HB13 HK13 HRT HCQ
  go_upto_region 13 with (refine wpList_store_box rfl 39 (.tmp 23) (.tmp 74) rfl w14.heap.size (pt qid qo) rfl rfl (heap_alloc_new w14 _) (by rw [L6.out]; rfl) (by rw [L6.out]; exact size39) (pt_one _ _) ?_; intro w15 hs15; have HS15 := Lib.hid hs15; clear hs15)
  have hb15 : Below w14.heap.size w14 w15 := HS15.out.then_ (below_alloc (Below.refl _ _) _) (Nat.le_refl _)
  have HB15 := Lib.hid (below_then HB14.out HB14.out.size hb15)
  have HK15 := Lib.hid ((HK14.out.below hb15).cons HS15.out.at_)
  have HRT15 := Lib.hid (rds_below HRT14.out hb15)
  clear hb15 HS15 HB14 HK14 HRT14
  generalize w14.heap.size = p6 at HK15 ⊢
  go_upto_region 14 with fail
  have okc : ∀ (k : Nat) (is is2 : Bool), Errs k is → is2 = is → ∀ wq, Calls Try.prog 54 #[.int .i64 k, .bool is2] wq fun e w' => e = .returned (.bool true) ∧ Below wq.heap.size wq w' := fun k is is2 h e wq => by
    have h2 := ok_any k is2 wq
    rw [e, errs_ok h] at h2
    rw [e]
    exact h2
  have eqc : ∀ m : Nat, ((((s.size : Nat) : Int) == (m : Int)) : Bool) = decide (s.size = m) := fun m => by
    by_cases h : s.size = m
    · rw [h]; simp
    · rw [decide_eq_false h]; simp only [beq_eq_false_iff_ne]; omega
  have O1 := Lib.hid (okc kn _ (((s.size : Nat) : Int) == 4) HEN.out.1 (eqc 4))
  have O2 := Lib.hid (okc kc _ (((s.size : Nat) : Int) == 48) HEC.out.1 (eqc 48))
  have O3 := Lib.hid (okc ks _ (((s.size : Nat) : Int) == 40) HES.out.1 (eqc 40))
  have O4 := Lib.hid (okc ku _ (((s.size : Nat) : Int) == 84) HEU.out.1 (eqc 84))
  have O5 := Lib.hid (okc kh _ (((s.size : Nat) : Int) == 32) HEH.out.1 (eqc 32))
  have O6 := Lib.hid (okc kp _ (((s.size : Nat) : Int) == 41) HEP.out.1 (eqc 41))
  have O7 := Lib.hid (okc kt _ (decide (((s.size : Nat) : Int) ≥ 8)) HET.out.1 (decide_eq_decide.2 (by omega)))
  have O8 := Lib.hid (okc kq _ ((decide (f ≥ 0) && decide (f ≤ ((s.size : Nat) : Int))) && (wrap64 (((s.size : Nat) : Int) - f) == 36)) HEQ.out.1 (by
    by_cases h : 0 ≤ f ∧ (s.size : Int) - f = 36
    · rw [decide_eq_true h, decide_eq_true (show f ≥ 0 from h.1), decide_eq_true (show f ≤ (s.size : Int) by omega), h.2, show (wrap64 36 == 36) = true by unfold wrap64; decide]; rfl
    · rw [decide_eq_false h]
      by_cases h1 : f ≥ 0
      · by_cases h2 : f ≤ (s.size : Int)
        · have : (wrap64 ((s.size : Int) - f) == 36) = false := by simp only [beq_eq_false_iff_ne]; unfold wrap64; omega
          rw [this, Bool.and_false]
        · rw [decide_eq_false h2, Bool.and_false, Bool.false_and]
      · rw [decide_eq_false h1, Bool.false_and, Bool.false_and]))
  clear okc eqc
  refine plain_ (fun wq => Below w15.heap.size w15 wq) (fun _ => True) reg_14_14 rfl inv0 (fun _ _ _ _ => trivial) (Below.refl _ _) trivial ?_
  refine w_move (.inl rfl) (fun vs w hK => ⟨wants_none rfl, rho_out rfl rfl⟩) ?_
  refine w_move (.inl rfl) (fun vs w hK => ⟨wants_none rfl, rho_out rfl rfl⟩) ?_
  refine w_move (.inl rfl) (fun vs w hK => ⟨wants_none rfl, rho_out rfl rfl⟩) ?_
  refine w_val [(78, _)] (_) (fun vs w hK => ⟨wants_none rfl, rho_in rfl (fv (hK 2 (memE rfl))), trivial⟩) rfl (fun wq hI => by exact run_len_str rfl Try.underlying9 rfl rfl) ?_
  refine w_val [(79, _)] (_) (fun vs w hK => ⟨wants_none rfl, rho_in rfl (fv (hK 3 (memE rfl))), trivial⟩) rfl (fun wq hI => by exact run_int_eql rfl rfl rfl rfl) ?_
  refine w_callv [(76, _), (77, _), (80, _)] _ _ (by decide) (fun vs w hK => ⟨wants_none rfl, rho_in rfl (fv (hK 0 (memE rfl))), rho_in rfl (fv (hK 1 (memE rfl))), rho_in rfl (fv (hK 4 (memE rfl))), trivial⟩) rfl rfl rfl Try.func54 (by kernel_rfl) rfl (fun wq hI => O1.out wq) (margsC rfl) ?_
  refine w_val [(81, _)] (_) (fun vs w hK => ⟨wants_none rfl, rho_in rfl (fv (hK 5 (memE rfl))), trivial⟩) rfl (fun wq hI => by exact op_not rfl rfl rfl) ?_
  refine w_move (.inl rfl) (fun vs w hK => ⟨wants_none rfl, rho_in rfl (fv (hK 6 (memE rfl)))⟩) ?_
  refine w_moveG (.inl rfl) (fun vs w hK => wantsF rfl (fv (hK 7 (memE rfl)))) (fun hG vs w hK => (rho_out rfl rfl)) ?_
  refine w_moveG (.inl rfl) (fun vs w hK => wantsF rfl (fv (hK 7 (memE rfl)))) (fun hG vs w hK => (rho_out rfl rfl)) ?_
  refine w_moveG (.inl rfl) (fun vs w hK => wantsF rfl (fv (hK 7 (memE rfl)))) (fun hG vs w hK => (rho_out rfl rfl)) ?_
  refine w_valG [(86, _)] (_) (fun vs w hK => wantsF rfl (fv (hK 7 (memE rfl)))) (fun hG vs w hK => ⟨(rho_in rfl (fvg (hK 10 (memE rfl)) hG)), trivial⟩) rfl (fun hG wq hI => by exact run_len_str rfl Try.underlying9 rfl rfl) ?_
  refine w_valG [(87, _)] (_) (fun vs w hK => wantsF rfl (fv (hK 7 (memE rfl)))) (fun hG vs w hK => ⟨(rho_in rfl (fvg (hK 11 (memE rfl)) hG)), trivial⟩) rfl (fun hG wq hI => by exact run_int_eql rfl rfl rfl rfl) ?_
  refine w_callvG [(84, _), (85, _), (88, _)] _ _ (by decide) (fun vs w hK => wantsF rfl (fv (hK 7 (memE rfl)))) (fun hG vs w hK => ⟨(rho_in rfl (fvg (hK 8 (memE rfl)) hG)), (rho_in rfl (fvg (hK 9 (memE rfl)) hG)), (rho_in rfl (fvg (hK 12 (memE rfl)) hG)), trivial⟩) rfl rfl rfl Try.func54 (by kernel_rfl) rfl (fun hG wq hI => O2.out wq) (margsC rfl) ?_
  refine w_valG [(89, _)] (_) (fun vs w hK => wantsF rfl (fv (hK 7 (memE rfl)))) (fun hG vs w hK => ⟨(rho_in rfl (fvg (hK 13 (memE rfl)) hG)), trivial⟩) rfl (fun hG wq hI => by exact op_not rfl rfl rfl) ?_
  refine w_or rfl (fun vs w hK => wants_none rfl) (fun vs w hK => (rho_in rfl (fv (hK 7 (memE rfl))))) (fun hB vs w hK => (rho_in rfl (fvg (hK 14 (memE rfl)) (gnot hB)))) ?_
  refine w_move (.inl rfl) (fun vs w hK => ⟨wants_none rfl, rho_in rfl (fv (hK 15 (memE rfl)))⟩) ?_
  refine w_moveG (.inl rfl) (fun vs w hK => wantsF rfl (fv (hK 16 (memE rfl)))) (fun hG vs w hK => (rho_out rfl rfl)) ?_
  refine w_moveG (.inl rfl) (fun vs w hK => wantsF rfl (fv (hK 16 (memE rfl)))) (fun hG vs w hK => (rho_out rfl rfl)) ?_
  refine w_moveG (.inl rfl) (fun vs w hK => wantsF rfl (fv (hK 16 (memE rfl)))) (fun hG vs w hK => (rho_out rfl rfl)) ?_
  refine w_valG [(95, _)] (_) (fun vs w hK => wantsF rfl (fv (hK 16 (memE rfl)))) (fun hG vs w hK => ⟨(rho_in rfl (fvg (hK 19 (memE rfl)) hG)), trivial⟩) rfl (fun hG wq hI => by exact run_len_str rfl Try.underlying9 rfl rfl) ?_
  refine w_valG [(96, _)] (_) (fun vs w hK => wantsF rfl (fv (hK 16 (memE rfl)))) (fun hG vs w hK => ⟨(rho_in rfl (fvg (hK 20 (memE rfl)) hG)), trivial⟩) rfl (fun hG wq hI => by exact run_int_eql rfl rfl rfl rfl) ?_
  refine w_callvG [(93, _), (94, _), (97, _)] _ _ (by decide) (fun vs w hK => wantsF rfl (fv (hK 16 (memE rfl)))) (fun hG vs w hK => ⟨(rho_in rfl (fvg (hK 17 (memE rfl)) hG)), (rho_in rfl (fvg (hK 18 (memE rfl)) hG)), (rho_in rfl (fvg (hK 21 (memE rfl)) hG)), trivial⟩) rfl rfl rfl Try.func54 (by kernel_rfl) rfl (fun hG wq hI => O3.out wq) (margsC rfl) ?_
  refine w_valG [(98, _)] (_) (fun vs w hK => wantsF rfl (fv (hK 16 (memE rfl)))) (fun hG vs w hK => ⟨(rho_in rfl (fvg (hK 22 (memE rfl)) hG)), trivial⟩) rfl (fun hG wq hI => by exact op_not rfl rfl rfl) ?_
  refine w_or rfl (fun vs w hK => wants_none rfl) (fun vs w hK => (rho_in rfl (fv (hK 16 (memE rfl))))) (fun hB vs w hK => (rho_in rfl (fvg (hK 23 (memE rfl)) (gnot hB)))) ?_
  refine w_move (.inl rfl) (fun vs w hK => ⟨wants_none rfl, rho_in rfl (fv (hK 24 (memE rfl)))⟩) ?_
  refine w_moveG (.inl rfl) (fun vs w hK => wantsF rfl (fv (hK 25 (memE rfl)))) (fun hG vs w hK => (rho_out rfl rfl)) ?_
  refine w_moveG (.inl rfl) (fun vs w hK => wantsF rfl (fv (hK 25 (memE rfl)))) (fun hG vs w hK => (rho_out rfl rfl)) ?_
  refine w_moveG (.inl rfl) (fun vs w hK => wantsF rfl (fv (hK 25 (memE rfl)))) (fun hG vs w hK => (rho_out rfl rfl)) ?_
  refine w_valG [(104, _)] (_) (fun vs w hK => wantsF rfl (fv (hK 25 (memE rfl)))) (fun hG vs w hK => ⟨(rho_in rfl (fvg (hK 28 (memE rfl)) hG)), trivial⟩) rfl (fun hG wq hI => by exact run_len_str rfl Try.underlying9 rfl rfl) ?_
  refine w_valG [(105, _)] (_) (fun vs w hK => wantsF rfl (fv (hK 25 (memE rfl)))) (fun hG vs w hK => ⟨(rho_in rfl (fvg (hK 29 (memE rfl)) hG)), trivial⟩) rfl (fun hG wq hI => by exact run_int_eql rfl rfl rfl rfl) ?_
  refine w_callvG [(102, _), (103, _), (106, _)] _ _ (by decide) (fun vs w hK => wantsF rfl (fv (hK 25 (memE rfl)))) (fun hG vs w hK => ⟨(rho_in rfl (fvg (hK 26 (memE rfl)) hG)), (rho_in rfl (fvg (hK 27 (memE rfl)) hG)), (rho_in rfl (fvg (hK 30 (memE rfl)) hG)), trivial⟩) rfl rfl rfl Try.func54 (by kernel_rfl) rfl (fun hG wq hI => O4.out wq) (margsC rfl) ?_
  refine w_valG [(107, _)] (_) (fun vs w hK => wantsF rfl (fv (hK 25 (memE rfl)))) (fun hG vs w hK => ⟨(rho_in rfl (fvg (hK 31 (memE rfl)) hG)), trivial⟩) rfl (fun hG wq hI => by exact op_not rfl rfl rfl) ?_
  refine w_or rfl (fun vs w hK => wants_none rfl) (fun vs w hK => (rho_in rfl (fv (hK 25 (memE rfl))))) (fun hB vs w hK => (rho_in rfl (fvg (hK 32 (memE rfl)) (gnot hB)))) ?_
  refine w_move (.inl rfl) (fun vs w hK => ⟨wants_none rfl, rho_in rfl (fv (hK 33 (memE rfl)))⟩) ?_
  refine w_moveG (.inl rfl) (fun vs w hK => wantsF rfl (fv (hK 34 (memE rfl)))) (fun hG vs w hK => (rho_out rfl rfl)) ?_
  refine w_moveG (.inl rfl) (fun vs w hK => wantsF rfl (fv (hK 34 (memE rfl)))) (fun hG vs w hK => (rho_out rfl rfl)) ?_
  refine w_moveG (.inl rfl) (fun vs w hK => wantsF rfl (fv (hK 34 (memE rfl)))) (fun hG vs w hK => (rho_out rfl rfl)) ?_
  refine w_valG [(113, _)] (_) (fun vs w hK => wantsF rfl (fv (hK 34 (memE rfl)))) (fun hG vs w hK => ⟨(rho_in rfl (fvg (hK 37 (memE rfl)) hG)), trivial⟩) rfl (fun hG wq hI => by exact run_len_str rfl Try.underlying9 rfl rfl) ?_
  refine w_valG [(114, _)] (_) (fun vs w hK => wantsF rfl (fv (hK 34 (memE rfl)))) (fun hG vs w hK => ⟨(rho_in rfl (fvg (hK 38 (memE rfl)) hG)), trivial⟩) rfl (fun hG wq hI => by exact run_int_eql rfl rfl rfl rfl) ?_
  refine w_callvG [(111, _), (112, _), (115, _)] _ _ (by decide) (fun vs w hK => wantsF rfl (fv (hK 34 (memE rfl)))) (fun hG vs w hK => ⟨(rho_in rfl (fvg (hK 35 (memE rfl)) hG)), (rho_in rfl (fvg (hK 36 (memE rfl)) hG)), (rho_in rfl (fvg (hK 39 (memE rfl)) hG)), trivial⟩) rfl rfl rfl Try.func54 (by kernel_rfl) rfl (fun hG wq hI => O5.out wq) (margsC rfl) ?_
  refine w_valG [(116, _)] (_) (fun vs w hK => wantsF rfl (fv (hK 34 (memE rfl)))) (fun hG vs w hK => ⟨(rho_in rfl (fvg (hK 40 (memE rfl)) hG)), trivial⟩) rfl (fun hG wq hI => by exact op_not rfl rfl rfl) ?_
  refine w_or rfl (fun vs w hK => wants_none rfl) (fun vs w hK => (rho_in rfl (fv (hK 34 (memE rfl))))) (fun hB vs w hK => (rho_in rfl (fvg (hK 41 (memE rfl)) (gnot hB)))) ?_
  refine w_move (.inl rfl) (fun vs w hK => ⟨wants_none rfl, rho_in rfl (fv (hK 42 (memE rfl)))⟩) ?_
  refine w_moveG (.inl rfl) (fun vs w hK => wantsF rfl (fv (hK 43 (memE rfl)))) (fun hG vs w hK => (rho_out rfl rfl)) ?_
  refine w_moveG (.inl rfl) (fun vs w hK => wantsF rfl (fv (hK 43 (memE rfl)))) (fun hG vs w hK => (rho_out rfl rfl)) ?_
  refine w_moveG (.inl rfl) (fun vs w hK => wantsF rfl (fv (hK 43 (memE rfl)))) (fun hG vs w hK => (rho_out rfl rfl)) ?_
  refine w_valG [(122, _)] (_) (fun vs w hK => wantsF rfl (fv (hK 43 (memE rfl)))) (fun hG vs w hK => ⟨(rho_in rfl (fvg (hK 46 (memE rfl)) hG)), trivial⟩) rfl (fun hG wq hI => by exact run_len_str rfl Try.underlying9 rfl rfl) ?_
  refine w_valG [(123, _)] (_) (fun vs w hK => wantsF rfl (fv (hK 43 (memE rfl)))) (fun hG vs w hK => ⟨(rho_in rfl (fvg (hK 47 (memE rfl)) hG)), trivial⟩) rfl (fun hG wq hI => by exact run_int_eql rfl rfl rfl rfl) ?_
  refine w_callvG [(120, _), (121, _), (124, _)] _ _ (by decide) (fun vs w hK => wantsF rfl (fv (hK 43 (memE rfl)))) (fun hG vs w hK => ⟨(rho_in rfl (fvg (hK 44 (memE rfl)) hG)), (rho_in rfl (fvg (hK 45 (memE rfl)) hG)), (rho_in rfl (fvg (hK 48 (memE rfl)) hG)), trivial⟩) rfl rfl rfl Try.func54 (by kernel_rfl) rfl (fun hG wq hI => O6.out wq) (margsC rfl) ?_
  refine w_valG [(125, _)] (_) (fun vs w hK => wantsF rfl (fv (hK 43 (memE rfl)))) (fun hG vs w hK => ⟨(rho_in rfl (fvg (hK 49 (memE rfl)) hG)), trivial⟩) rfl (fun hG wq hI => by exact op_not rfl rfl rfl) ?_
  refine w_or rfl (fun vs w hK => wants_none rfl) (fun vs w hK => (rho_in rfl (fv (hK 43 (memE rfl))))) (fun hB vs w hK => (rho_in rfl (fvg (hK 50 (memE rfl)) (gnot hB)))) ?_
  refine w_move (.inl rfl) (fun vs w hK => ⟨wants_none rfl, rho_in rfl (fv (hK 51 (memE rfl)))⟩) ?_
  refine w_moveG (.inl rfl) (fun vs w hK => wantsF rfl (fv (hK 52 (memE rfl)))) (fun hG vs w hK => (rho_out rfl rfl)) ?_
  refine w_moveG (.inl rfl) (fun vs w hK => wantsF rfl (fv (hK 52 (memE rfl)))) (fun hG vs w hK => (rho_out rfl rfl)) ?_
  refine w_moveG (.inl rfl) (fun vs w hK => wantsF rfl (fv (hK 52 (memE rfl)))) (fun hG vs w hK => (rho_out rfl rfl)) ?_
  refine w_valG [(131, _)] (_) (fun vs w hK => wantsF rfl (fv (hK 52 (memE rfl)))) (fun hG vs w hK => ⟨(rho_in rfl (fvg (hK 55 (memE rfl)) hG)), trivial⟩) rfl (fun hG wq hI => by exact run_len_str rfl Try.underlying9 rfl rfl) ?_
  refine w_valG [(132, _)] (_) (fun vs w hK => wantsF rfl (fv (hK 52 (memE rfl)))) (fun hG vs w hK => ⟨(rho_in rfl (fvg (hK 56 (memE rfl)) hG)), trivial⟩) rfl (fun hG wq hI => by exact run_int_geq rfl rfl rfl rfl) ?_
  refine w_callvG [(129, _), (130, _), (133, _)] _ _ (by decide) (fun vs w hK => wantsF rfl (fv (hK 52 (memE rfl)))) (fun hG vs w hK => ⟨(rho_in rfl (fvg (hK 53 (memE rfl)) hG)), (rho_in rfl (fvg (hK 54 (memE rfl)) hG)), (rho_in rfl (fvg (hK 57 (memE rfl)) hG)), trivial⟩) rfl rfl rfl Try.func54 (by kernel_rfl) rfl (fun hG wq hI => O7.out wq) (margsC rfl) ?_
  refine w_valG [(134, _)] (_) (fun vs w hK => wantsF rfl (fv (hK 52 (memE rfl)))) (fun hG vs w hK => ⟨(rho_in rfl (fvg (hK 58 (memE rfl)) hG)), trivial⟩) rfl (fun hG wq hI => by exact op_not rfl rfl rfl) ?_
  refine w_or rfl (fun vs w hK => wants_none rfl) (fun vs w hK => (rho_in rfl (fv (hK 52 (memE rfl))))) (fun hB vs w hK => (rho_in rfl (fvg (hK 59 (memE rfl)) (gnot hB)))) ?_
  refine w_move (.inl rfl) (fun vs w hK => ⟨wants_none rfl, rho_in rfl (fv (hK 60 (memE rfl)))⟩) ?_
  refine w_moveG (.inl rfl) (fun vs w hK => wantsF rfl (fv (hK 61 (memE rfl)))) (fun hG vs w hK => (rho_out rfl rfl)) ?_
  refine w_moveG (.inl rfl) (fun vs w hK => wantsF rfl (fv (hK 61 (memE rfl)))) (fun hG vs w hK => (rho_out rfl rfl)) ?_
  refine w_moveG (.inl rfl) (fun vs w hK => wantsF rfl (fv (hK 61 (memE rfl)))) (fun hG vs w hK => (rho_out rfl rfl)) ?_
  refine w_valG [(140, _)] (_) (fun vs w hK => wantsF rfl (fv (hK 61 (memE rfl)))) (fun hG vs w hK => ⟨(rho_in rfl (fvg (hK 64 (memE rfl)) hG)), trivial⟩) rfl (fun hG wq hI => by exact run_int_geq rfl rfl rfl rfl) ?_
  refine w_moveG (.inl rfl) (fun vs w hK => wantsF rfl (fv (hK 61 (memE rfl)))) (fun hG vs w hK => (rho_in rfl (fvg (hK 65 (memE rfl)) hG))) ?_
  refine w_moveG (.inl rfl) (fun vs w hK => wantsTg rfl (fv (hK 66 (memE rfl)))) (fun hG vs w hK => (rho_out rfl rfl)) ?_
  refine w_moveG (.inl rfl) (fun vs w hK => wantsTg rfl (fv (hK 66 (memE rfl)))) (fun hG vs w hK => (rho_out rfl rfl)) ?_
  refine w_valG [(144, _)] (_) (fun vs w hK => wantsTg rfl (fv (hK 66 (memE rfl)))) (fun hG vs w hK => ⟨(rho_in rfl (fvg (hK 68 (memE rfl)) hG)), trivial⟩) rfl (fun hG wq hI => by exact run_len_str rfl Try.underlying9 rfl rfl) ?_
  refine w_valG [(143, _), (145, _)] (_) (fun vs w hK => wantsTg rfl (fv (hK 66 (memE rfl)))) (fun hG vs w hK => ⟨(rho_in rfl (fvg (hK 67 (memE rfl)) hG)), (rho_in rfl (fvg (hK 69 (memE rfl)) hG)), trivial⟩) rfl (fun hG wq hI => by exact run_int_leq rfl rfl rfl rfl) ?_
  refine w_andG rfl (fun vs w hK => wantsF rfl (fv (hK 61 (memE rfl)))) (fun hG vs w hK => (rho_in rfl (fvg (hK 66 (memE rfl)) hG))) (fun hG hB vs w hK => (rho_in rfl (fvg (hK 70 (memE rfl)) (gand hG hB)))) ?_
  refine w_moveG (.inl rfl) (fun vs w hK => wantsF rfl (fv (hK 61 (memE rfl)))) (fun hG vs w hK => (rho_in rfl (fvg (hK 71 (memE rfl)) hG))) ?_
  refine w_moveG (.inl rfl) (fun vs w hK => wantsTg rfl (fv (hK 72 (memE rfl)))) (fun hG vs w hK => (rho_out rfl rfl)) ?_
  refine w_valG [(149, _)] (_) (fun vs w hK => wantsTg rfl (fv (hK 72 (memE rfl)))) (fun hG vs w hK => ⟨(rho_in rfl (fvg (hK 73 (memE rfl)) hG)), trivial⟩) rfl (fun hG wq hI => by exact run_len_str rfl Try.underlying9 rfl rfl) ?_
  refine w_moveG (.inl rfl) (fun vs w hK => wantsTg rfl (fv (hK 72 (memE rfl)))) (fun hG vs w hK => (rho_out rfl rfl)) ?_
  refine w_valG [(150, _), (151, _)] (_) (fun vs w hK => wantsTg rfl (fv (hK 72 (memE rfl)))) (fun hG vs w hK => ⟨(rho_in rfl (fvg (hK 74 (memE rfl)) hG)), (rho_in rfl (fvg (hK 75 (memE rfl)) hG)), trivial⟩) rfl (fun hG wq hI => by exact run_int_sub rfl rfl rfl (c := wrap64 (((s.size : Nat) : Int) - f)) (by rw [IntKind.wrap_i64]; unfold wrap64; rfl)) ?_
  refine w_valG [(152, _)] (_) (fun vs w hK => wantsTg rfl (fv (hK 72 (memE rfl)))) (fun hG vs w hK => ⟨(rho_in rfl (fvg (hK 76 (memE rfl)) hG)), trivial⟩) rfl (fun hG wq hI => by exact run_int_eql rfl rfl rfl rfl) ?_
  refine w_andG rfl (fun vs w hK => wantsF rfl (fv (hK 61 (memE rfl)))) (fun hG vs w hK => (rho_in rfl (fvg (hK 72 (memE rfl)) hG))) (fun hG hB vs w hK => (rho_in rfl (fvg (hK 77 (memE rfl)) (gand hG hB)))) ?_
  refine w_callvG [(138, _), (139, _), (154, _)] _ _ (by decide) (fun vs w hK => wantsF rfl (fv (hK 61 (memE rfl)))) (fun hG vs w hK => ⟨(rho_in rfl (fvg (hK 62 (memE rfl)) hG)), (rho_in rfl (fvg (hK 63 (memE rfl)) hG)), (rho_in rfl (fvg (hK 78 (memE rfl)) hG)), trivial⟩) rfl rfl rfl Try.func54 (by kernel_rfl) rfl (fun hG wq hI => O8.out wq) (margsC rfl) ?_
  refine w_valG [(155, _)] (_) (fun vs w hK => wantsF rfl (fv (hK 61 (memE rfl)))) (fun hG vs w hK => ⟨(rho_in rfl (fvg (hK 79 (memE rfl)) hG)), trivial⟩) rfl (fun hG wq hI => by exact op_not rfl rfl rfl) ?_
  refine w_or rfl (fun vs w hK => wants_none rfl) (fun vs w hK => (rho_in rfl (fv (hK 61 (memE rfl))))) (fun hB vs w hK => (rho_in rfl (fvg (hK 80 (memE rfl)) (gnot hB)))) ?_
  refine w_as (c' := .bool false) (by simp) ?_
  refine w_endM [false, false, false, false, false, false, false, false, false, false, false, false, false, false, false, false, false, false, false, false, false, false, false, false, false, false, false, false, false, false, false, false, false, false, false, false, false, false, false, false, false, false, false, false, false, false, false, false, false, false, false, false, false, false, false, false, false, false, false, false, false, false, false, false, false, false, false, false, false, false, false, false, false, false, false, false, false, false, false, false, false, true] rfl rfl rfl (fun vs wq hI hF => ?_)
  simp only [List.reverse_cons, List.reverse_nil, List.nil_append, List.cons_append, finL_val, finL_of, finL_any, finL_app, finL_new, finL_gr, finL_row, finL_box, finL_nil, Act.put, List.setIfInBounds_toArray, List.set_cons_zero, List.set_cons_succ, Nat.reduceAdd, maskF, finL_imp, Bool.not_false, Bool.not_true, Bool.true_and, Bool.false_and]
  have HB16 := Lib.hid (below_then HB15.out HB15.out.size hI)
  have HK16 := Lib.hid (HK15.out.below hI)
  have HRT16 := Lib.hid (rds_below HRT15.out hI)
  clear hI hF HB15 HK15 HRT15 O1 O2 O3 O4 O5 O6 O7 O8
  obtain ⟨w16, rfl⟩ : ∃ w16 : World, w16 = wq := ⟨_, rfl⟩
  go_upto_region 16 with fail
  have F1 := Lib.hid (errs_same HEN.out.2)
  have F2 := Lib.hid (errs_same HEC.out.2)
  have F3 := Lib.hid (errs_same HES.out.2)
  have F4' := Lib.hid (errs_same HEU.out.2)
  have F5 := Lib.hid (errs_same HEH.out.2)
  have F6 := Lib.hid (errs_same (fun h => (HEP.out.2 h).2))
  have F7 := Lib.hid (errs_same HET.out.2)
  have F8 : Hid (((((kq : Nat) : Int) == 0) && !decide (((⟨#[99]⟩ : ByteArray) ++ (strOfNums qid ++ F4 qo)).extract 1 ((⟨#[99]⟩ : ByteArray) ++ (strOfNums qid ++ F4 qo)).size = s.extract f.toNat s.size)) = false) := Lib.hid (errs_same (fun h => by
    obtain ⟨h0, h1, h2⟩ := HEQ.out.2 h
    rw [← h2]
    generalize strOfNums qid ++ F4 qo = X
    refine numsOf_inj ?_
    rw [numsOf_extract, numsOf_append, List.drop_left' (by rw [numsOf_length]; rfl)]
    exact List.take_of_length_le (by rw [numsOf_length, ByteArray.size_append]; show X.size ≤ 1 + X.size - 1; omega)))
  have M1 := Lib.hid (HK16.out _ (List.mem_cons_of_mem _ (List.mem_cons_of_mem _ (List.mem_cons_of_mem _ (List.mem_cons_of_mem _ (List.mem_cons_of_mem _ List.mem_cons_self))))))
  have M2 := Lib.hid (HK16.out _ (List.mem_cons_of_mem _ (List.mem_cons_of_mem _ (List.mem_cons_of_mem _ (List.mem_cons_of_mem _ List.mem_cons_self)))))
  have M3 := Lib.hid (HK16.out _ (List.mem_cons_of_mem _ (List.mem_cons_of_mem _ (List.mem_cons_of_mem _ List.mem_cons_self))))
  have M4 := Lib.hid (HK16.out _ (List.mem_cons_of_mem _ (List.mem_cons_of_mem _ List.mem_cons_self)))
  have M5 := Lib.hid (HK16.out _ (List.mem_cons_of_mem _ List.mem_cons_self))
  have M6 := Lib.hid (HK16.out _ List.mem_cons_self)
  simp only at M1 M2 M3 M4 M5 M6
  refine plain_ (fun wq => Below w16.heap.size w16 wq) (fun _ => True) reg_14_16 rfl inv0 (fun _ _ _ _ => trivial) (Below.refl _ _) trivial ?_
  refine w_move (.inl rfl) (fun vs w hK => ⟨wants_none rfl, rho_out rfl rfl⟩) ?_
  refine w_val [(158, _)] (_) (fun vs w hK => ⟨wants_none rfl, rho_in rfl (fv (hK 0 (memE rfl))), trivial⟩) rfl (fun wq hI => by exact run_int_eql rfl rfl rfl rfl) ?_
  refine w_move (.inl rfl) (fun vs w hK => ⟨wants_none rfl, rho_in rfl (fv (hK 1 (memE rfl)))⟩) ?_
  refine w_moveG (.inl rfl) (fun vs w hK => wantsT rfl (fv (hK 2 (memE rfl)))) (fun hG vs w hK => (rho_out rfl rfl)) ?_
  refine w_callG [(161, _)] _ _ (by decide) (fun vs w hK => wantsT rfl (fv (hK 2 (memE rfl)))) (fun hG vs w hK => ⟨(rho_in rfl (fvg (hK 3 (memE rfl)) hG)), trivial⟩) rfl rfl Try.func34 (by kernel_rfl) rfl (fun hG wq hI => number_any _ wq) (margs rfl) ?_
  refine w_moveG (.inl rfl) (fun vs w hK => wantsT rfl (fv (hK 2 (memE rfl)))) (fun hG vs w hK => (rho_out rfl rfl)) ?_
  refine w_valG [(162, _), (163, _)] (_) (fun vs w hK => wantsT rfl (fv (hK 2 (memE rfl)))) (fun hG vs w hK => ⟨(rho_in rfl (fvg (hK 4 (memE rfl)) hG)), (rho_in rfl (fvg (hK 5 (memE rfl)) hG)), trivial⟩) rfl (fun hG wq hI => by exact op_str_nq rfl rfl rfl rfl) ?_
  refine w_and rfl (fun vs w hK => wants_none rfl) (fun vs w hK => (rho_in rfl (fv (hK 2 (memE rfl))))) (fun hB vs w hK => (rho_in rfl (fvg (hK 6 (memE rfl)) hB))) ?_
  refine w_move (.inl rfl) (fun vs w hK => ⟨wants_none rfl, rho_in rfl (fv (hK 7 (memE rfl)))⟩) ?_
  refine w_moveG (.inl rfl) (fun vs w hK => wantsF rfl (fv (hK 8 (memE rfl)))) (fun hG vs w hK => (rho_out rfl rfl)) ?_
  refine w_valG [(167, _)] (_) (fun vs w hK => wantsF rfl (fv (hK 8 (memE rfl)))) (fun hG vs w hK => ⟨(rho_in rfl (fvg (hK 9 (memE rfl)) hG)), trivial⟩) rfl (fun hG wq hI => by exact run_int_eql rfl rfl rfl rfl) ?_
  refine w_moveG (.inl rfl) (fun vs w hK => wantsF rfl (fv (hK 8 (memE rfl)))) (fun hG vs w hK => (rho_in rfl (fvg (hK 10 (memE rfl)) hG))) ?_
  refine w_valG [(7, _)] (.agg (cn c sc h p).toArray) (fun vs w hK => wantsTg rfl (fv (hK 11 (memE rfl)))) (fun hG vs w hK => ⟨(rho_out rfl rfl), trivial⟩) rfl (fun hG wq hI => by exact run_load_op rfl rfl (load_cn HLEN.out.1 (box_stays M1.out hI))) ?_
  refine w_callG [(170, _)] _ _ (by decide) (fun vs w hK => wantsTg rfl (fv (hK 11 (memE rfl)))) (fun hG vs w hK => ⟨(rho_in rfl (fvg (hK 12 (memE rfl)) hG)), trivial⟩) rfl rfl Try.func42 (by kernel_rfl) rfl (fun hG wq hI => coinRow_any c sc HLEN.out.1 h p wq) (margs rfl) ?_
  refine w_moveG (.inl rfl) (fun vs w hK => wantsTg rfl (fv (hK 11 (memE rfl)))) (fun hG vs w hK => (rho_out rfl rfl)) ?_
  refine w_valG [(171, _), (172, _)] (_) (fun vs w hK => wantsTg rfl (fv (hK 11 (memE rfl)))) (fun hG vs w hK => ⟨(rho_in rfl (fvg (hK 13 (memE rfl)) hG)), (rho_in rfl (fvg (hK 14 (memE rfl)) hG)), trivial⟩) rfl (fun hG wq hI => by exact op_str_nq rfl rfl rfl rfl) ?_
  refine w_andG rfl (fun vs w hK => wantsF rfl (fv (hK 8 (memE rfl)))) (fun hG vs w hK => (rho_in rfl (fvg (hK 11 (memE rfl)) hG))) (fun hG hB vs w hK => (rho_in rfl (fvg (hK 15 (memE rfl)) (gand hG hB)))) ?_
  refine w_or rfl (fun vs w hK => wants_none rfl) (fun vs w hK => (rho_in rfl (fv (hK 8 (memE rfl))))) (fun hB vs w hK => (rho_in rfl (fvg (hK 16 (memE rfl)) (gnot hB)))) ?_
  refine w_move (.inl rfl) (fun vs w hK => ⟨wants_none rfl, rho_in rfl (fv (hK 17 (memE rfl)))⟩) ?_
  refine w_moveG (.inl rfl) (fun vs w hK => wantsF rfl (fv (hK 18 (memE rfl)))) (fun hG vs w hK => (rho_out rfl rfl)) ?_
  refine w_valG [(177, _)] (_) (fun vs w hK => wantsF rfl (fv (hK 18 (memE rfl)))) (fun hG vs w hK => ⟨(rho_in rfl (fvg (hK 19 (memE rfl)) hG)), trivial⟩) rfl (fun hG wq hI => by exact run_int_eql rfl rfl rfl rfl) ?_
  refine w_moveG (.inl rfl) (fun vs w hK => wantsF rfl (fv (hK 18 (memE rfl)))) (fun hG vs w hK => (rho_in rfl (fvg (hK 20 (memE rfl)) hG))) ?_
  refine w_valG [(9, _)] (.agg (sp b si sh).toArray) (fun vs w hK => wantsTg rfl (fv (hK 21 (memE rfl)))) (fun hG vs w hK => ⟨(rho_out rfl rfl), trivial⟩) rfl (fun hG wq hI => by exact run_load_op rfl rfl (load_sp HLEN.out.2.1 (box_stays M2.out hI))) ?_
  refine w_callG [(180, _)] _ _ (by decide) (fun vs w hK => wantsTg rfl (fv (hK 21 (memE rfl)))) (fun hG vs w hK => ⟨(rho_in rfl (fvg (hK 22 (memE rfl)) hG)), trivial⟩) rfl rfl Try.func43 (by kernel_rfl) rfl (fun hG wq hI => spendRow_any b HLEN.out.2.1 si sh wq) (margs rfl) ?_
  refine w_moveG (.inl rfl) (fun vs w hK => wantsTg rfl (fv (hK 21 (memE rfl)))) (fun hG vs w hK => (rho_out rfl rfl)) ?_
  refine w_valG [(181, _), (182, _)] (_) (fun vs w hK => wantsTg rfl (fv (hK 21 (memE rfl)))) (fun hG vs w hK => ⟨(rho_in rfl (fvg (hK 23 (memE rfl)) hG)), (rho_in rfl (fvg (hK 24 (memE rfl)) hG)), trivial⟩) rfl (fun hG wq hI => by exact op_str_nq rfl rfl rfl rfl) ?_
  refine w_andG rfl (fun vs w hK => wantsF rfl (fv (hK 18 (memE rfl)))) (fun hG vs w hK => (rho_in rfl (fvg (hK 21 (memE rfl)) hG))) (fun hG hB vs w hK => (rho_in rfl (fvg (hK 25 (memE rfl)) (gand hG hB)))) ?_
  refine w_or rfl (fun vs w hK => wants_none rfl) (fun vs w hK => (rho_in rfl (fv (hK 18 (memE rfl))))) (fun hB vs w hK => (rho_in rfl (fvg (hK 26 (memE rfl)) (gnot hB)))) ?_
  refine w_move (.inl rfl) (fun vs w hK => ⟨wants_none rfl, rho_in rfl (fv (hK 27 (memE rfl)))⟩) ?_
  refine w_moveG (.inl rfl) (fun vs w hK => wantsF rfl (fv (hK 28 (memE rfl)))) (fun hG vs w hK => (rho_out rfl rfl)) ?_
  refine w_valG [(187, _)] (_) (fun vs w hK => wantsF rfl (fv (hK 28 (memE rfl)))) (fun hG vs w hK => ⟨(rho_in rfl (fvg (hK 29 (memE rfl)) hG)), trivial⟩) rfl (fun hG wq hI => by exact run_int_eql rfl rfl rfl rfl) ?_
  refine w_moveG (.inl rfl) (fun vs w hK => wantsF rfl (fv (hK 28 (memE rfl)))) (fun hG vs w hK => (rho_in rfl (fvg (hK 30 (memE rfl)) hG))) ?_
  refine w_valG [(11, _)] (.agg (pt uid uo).toArray) (fun vs w hK => wantsTg rfl (fv (hK 31 (memE rfl)))) (fun hG vs w hK => ⟨(rho_out rfl rfl), trivial⟩) rfl (fun hG wq hI => by exact run_load_op rfl rfl (load_pt HLEN.out.2.2.1 (box_stays M3.out hI))) ?_
  refine w_valG [(12, _)] (.agg (cn uc usc uh up).toArray) (fun vs w hK => wantsTg rfl (fv (hK 31 (memE rfl)))) (fun hG vs w hK => ⟨(rho_out rfl rfl), trivial⟩) rfl (fun hG wq hI => by exact run_load_op rfl rfl (load_cn HLEN.out.2.2.2.2.1 (box_stays M4.out hI))) ?_
  refine w_callG [(190, _), (191, _)] _ _ (by decide) (fun vs w hK => wantsTg rfl (fv (hK 31 (memE rfl)))) (fun hG vs w hK => ⟨(rho_in rfl (fvg (hK 32 (memE rfl)) hG)), (rho_in rfl (fvg (hK 33 (memE rfl)) hG)), trivial⟩) rfl rfl Try.func44 (by kernel_rfl) rfl (fun hG wq hI => undoRow_any uid HLEN.out.2.2.1 uo HLEN.out.2.2.2.1 uc usc HLEN.out.2.2.2.2.1 uh up wq) (margs rfl) ?_
  refine w_moveG (.inl rfl) (fun vs w hK => wantsTg rfl (fv (hK 31 (memE rfl)))) (fun hG vs w hK => (rho_out rfl rfl)) ?_
  refine w_valG [(192, _), (193, _)] (_) (fun vs w hK => wantsTg rfl (fv (hK 31 (memE rfl)))) (fun hG vs w hK => ⟨(rho_in rfl (fvg (hK 34 (memE rfl)) hG)), (rho_in rfl (fvg (hK 35 (memE rfl)) hG)), trivial⟩) rfl (fun hG wq hI => by exact op_str_nq rfl rfl rfl rfl) ?_
  refine w_andG rfl (fun vs w hK => wantsF rfl (fv (hK 28 (memE rfl)))) (fun hG vs w hK => (rho_in rfl (fvg (hK 31 (memE rfl)) hG))) (fun hG hB vs w hK => (rho_in rfl (fvg (hK 36 (memE rfl)) (gand hG hB)))) ?_
  refine w_or rfl (fun vs w hK => wants_none rfl) (fun vs w hK => (rho_in rfl (fv (hK 28 (memE rfl))))) (fun hB vs w hK => (rho_in rfl (fvg (hK 37 (memE rfl)) (gnot hB)))) ?_
  refine w_move (.inl rfl) (fun vs w hK => ⟨wants_none rfl, rho_in rfl (fv (hK 38 (memE rfl)))⟩) ?_
  refine w_moveG (.inl rfl) (fun vs w hK => wantsF rfl (fv (hK 39 (memE rfl)))) (fun hG vs w hK => (rho_out rfl rfl)) ?_
  refine w_valG [(198, _)] (_) (fun vs w hK => wantsF rfl (fv (hK 39 (memE rfl)))) (fun hG vs w hK => ⟨(rho_in rfl (fvg (hK 40 (memE rfl)) hG)), trivial⟩) rfl (fun hG wq hI => by exact run_int_eql rfl rfl rfl rfl) ?_
  refine w_moveG (.inl rfl) (fun vs w hK => wantsF rfl (fv (hK 39 (memE rfl)))) (fun hG vs w hK => (rho_in rfl (fvg (hK 41 (memE rfl)) hG))) ?_
  refine w_valG [(14, _)] (_) (fun vs w hK => wantsTg rfl (fv (hK 42 (memE rfl)))) (fun hG vs w hK => ⟨(rho_out rfl rfl), trivial⟩) rfl (fun hG wq hI => by simp only [execOp, Option.map_some, Option.map_none, lk_tmp, lk_const, lkT_cons, ↓reduceIte, Nat.reduceEqDiff]; go_simp; (first | done | rfl)) ?_
  refine w_valG [(201, _)] (.string (strOfNums hh)) (fun vs w hK => wantsTg rfl (fv (hK 42 (memE rfl)))) (fun hG vs w hK => ⟨(rho_in rfl (fvg (hK 43 (memE rfl)) hG)), trivial⟩) rfl (fun hG wq hI => by exact run_conv_op rfl rfl (conv_rds tb Try.underlying5 Try.underlying9 (rds_block (o := 0) (box_stays M5.out hI) (by rw [List.drop_zero]; exact List.take_of_length_le (by rw [L5.out]; omega)) HLEN.out.2.2.2.2.2.1 (by omega)))) ?_
  refine w_moveG (.inl rfl) (fun vs w hK => wantsTg rfl (fv (hK 42 (memE rfl)))) (fun hG vs w hK => (rho_out rfl rfl)) ?_
  refine w_valG [(202, _), (203, _)] (_) (fun vs w hK => wantsTg rfl (fv (hK 42 (memE rfl)))) (fun hG vs w hK => ⟨(rho_in rfl (fvg (hK 44 (memE rfl)) hG)), (rho_in rfl (fvg (hK 45 (memE rfl)) hG)), trivial⟩) rfl (fun hG wq hI => by exact op_str_nq rfl rfl rfl rfl) ?_
  refine w_andG rfl (fun vs w hK => wantsF rfl (fv (hK 39 (memE rfl)))) (fun hG vs w hK => (rho_in rfl (fvg (hK 42 (memE rfl)) hG))) (fun hG hB vs w hK => (rho_in rfl (fvg (hK 46 (memE rfl)) (gand hG hB)))) ?_
  refine w_or rfl (fun vs w hK => wants_none rfl) (fun vs w hK => (rho_in rfl (fv (hK 39 (memE rfl))))) (fun hB vs w hK => (rho_in rfl (fvg (hK 47 (memE rfl)) (gnot hB)))) ?_
  refine w_as (c' := .bool false) (by rw [F1.out, F2.out, F3.out, F4'.out, F5.out]; rfl) ?_
  refine w_endM [false, false, false, false, false, false, false, false, false, false, false, false, false, false, false, false, false, false, false, false, false, false, false, false, false, false, false, false, false, false, false, false, false, false, false, false, false, false, false, false, false, false, false, false, false, false, false, false, true] rfl rfl rfl (fun vs wq hI hF => ?_)
  simp only [List.reverse_cons, List.reverse_nil, List.nil_append, List.cons_append, finL_val, finL_of, finL_any, finL_app, finL_new, finL_gr, finL_row, finL_box, finL_nil, Act.put, List.setIfInBounds_toArray, List.set_cons_zero, List.set_cons_succ, Nat.reduceAdd, maskF, finL_imp, Bool.not_false, Bool.not_true, Bool.true_and, Bool.false_and]
  have HB17 := Lib.hid (below_then HB16.out HB16.out.size hI)
  have M7 := Lib.hid (box_stays M6.out hI)
  have HRT17 := Lib.hid (rds_below HRT16.out hI)
  clear hI hF HB16 HK16 HRT16 M1 M2 M3 M4 M5 M6 F1 F2 F3 F4' F5
  obtain ⟨w17, rfl⟩ : ∃ w17 : World, w17 = wq := ⟨_, rfl⟩
  go_upto_region 18 with fail
  have hg0 : ∀ k : Nat, ((((k : Nat) : Int) == 0) : Bool) = true → k = 0 := fun k h => by simpa using h
  have HG0 := Lib.hid hg0
  clear hg0
  refine draws_ (fun wq => Below w17.heap.size w17 wq) (fun _ => True) (by kernel_rfl) reg_14_18 rfl inv0 (fun _ _ _ _ => trivial) (below_drew (Below.refl _ _)) trivial ?_
  refine w_move (.inl rfl) (fun vs w hK => ⟨wants_none rfl, rho_out rfl rfl⟩) ?_
  refine w_val [(207, _)] (_) (fun vs w hK => ⟨wants_none rfl, rho_in rfl (fv (hK 0 (memE rfl))), trivial⟩) rfl (fun wq hI => by exact run_int_eql rfl rfl rfl rfl) ?_
  refine w_move (.inl rfl) (fun vs w hK => ⟨wants_none rfl, rho_in rfl (fv (hK 1 (memE rfl)))⟩) ?_
  refine w_moveG (.inl rfl) (fun vs w hK => wantsT rfl (fv (hK 2 (memE rfl)))) (fun hG vs w hK => (rho_out rfl rfl)) ?_
  refine w_callG [(210, _)] _ _ (by decide) (fun vs w hK => wantsT rfl (fv (hK 2 (memE rfl)))) (fun hG vs w hK => ⟨(rho_in rfl (fvg (hK 3 (memE rfl)) hG)), trivial⟩) rfl rfl Try.func29 (by kernel_rfl) rfl (fun hG wq hI => lawfour_any _ wq) (margs rfl) ?_
  refine w_moveG (.inl rfl) (fun vs w hK => wantsT rfl (fv (hK 2 (memE rfl)))) (fun hG vs w hK => (rho_out rfl rfl)) ?_
  refine w_callG [(212, _)] _ _ (by decide) (fun vs w hK => wantsT rfl (fv (hK 2 (memE rfl)))) (fun hG vs w hK => ⟨(rho_in rfl (fvg (hK 5 (memE rfl)) hG)), trivial⟩) rfl rfl Try.func29 (by kernel_rfl) rfl (fun hG wq hI => lawfour_any _ wq) (margs rfl) ?_
  refine w_valG [(211, _), (213, _)] (_) (fun vs w hK => wantsT rfl (fv (hK 2 (memE rfl)))) (fun hG vs w hK => ⟨(rho_in rfl (fvg (hK 4 (memE rfl)) hG)), (rho_in rfl (fvg (hK 6 (memE rfl)) hG)), trivial⟩) rfl (fun hG wq hI => by exact run_cat_op rfl rfl rfl (by rw [F4_size, F4_size]; omega)) ?_
  refine w_moveG (.inl rfl) (fun vs w hK => wantsT rfl (fv (hK 2 (memE rfl)))) (fun hG vs w hK => (rho_out rfl rfl)) ?_
  refine w_valG [(215, _)] (.string (s.extract 33 s.size)) (fun vs w hK => wantsT rfl (fv (hK 2 (memE rfl)))) (fun hG vs w hK => ⟨(rho_in rfl (fvg (hK 8 (memE rfl)) hG)), trivial⟩) rfl (fun hG wq hI => by exact op_cut_from (a := 33) rfl Try.underlying9 rfl rfl rfl (HEP.out.2 (HG0.out _ hG)).1 rfl) ?_
  refine w_valG [(214, _), (216, _)] (_) (fun vs w hK => wantsT rfl (fv (hK 2 (memE rfl)))) (fun hG vs w hK => ⟨(rho_in rfl (fvg (hK 7 (memE rfl)) hG)), (rho_in rfl (fvg (hK 9 (memE rfl)) hG)), trivial⟩) rfl (fun hG wq hI => by exact op_str_nq rfl rfl rfl rfl) ?_
  refine w_and rfl (fun vs w hK => wants_none rfl) (fun vs w hK => (rho_in rfl (fv (hK 2 (memE rfl))))) (fun hB vs w hK => (rho_in rfl (fvg (hK 10 (memE rfl)) hB))) ?_
  refine w_move (.inl rfl) (fun vs w hK => ⟨wants_none rfl, rho_in rfl (fv (hK 11 (memE rfl)))⟩) ?_
  refine w_moveG (.inl rfl) (fun vs w hK => wantsF rfl (fv (hK 12 (memE rfl)))) (fun hG vs w hK => (rho_out rfl rfl)) ?_
  refine w_valG [(220, _)] (_) (fun vs w hK => wantsF rfl (fv (hK 12 (memE rfl)))) (fun hG vs w hK => ⟨(rho_in rfl (fvg (hK 13 (memE rfl)) hG)), trivial⟩) rfl (fun hG wq hI => by exact run_int_eql rfl rfl rfl rfl) ?_
  refine w_moveG (.inl rfl) (fun vs w hK => wantsF rfl (fv (hK 12 (memE rfl)))) (fun hG vs w hK => (rho_in rfl (fvg (hK 14 (memE rfl)) hG))) ?_
  refine w_moveG (.inl rfl) (fun vs w hK => wantsTg rfl (fv (hK 15 (memE rfl)))) (fun hG vs w hK => (rho_out rfl rfl)) ?_
  refine w_moveG (.inl rfl) (fun vs w hK => wantsTg rfl (fv (hK 15 (memE rfl)))) (fun hG vs w hK => (rho_out rfl rfl)) ?_
  refine w_moveG (.inl rfl) (fun vs w hK => wantsTg rfl (fv (hK 15 (memE rfl)))) (fun hG vs w hK => (rho_out rfl rfl)) ?_
  refine w_callG [(223, _), (224, _), (225, _)] _ _ (by decide) (fun vs w hK => wantsTg rfl (fv (hK 15 (memE rfl)))) (fun hG vs w hK => ⟨(rho_in rfl (fvg (hK 16 (memE rfl)) hG)), (rho_in rfl (fvg (hK 17 (memE rfl)) hG)), (rho_in rfl (fvg (hK 18 (memE rfl)) hG)), trivial⟩) rfl rfl Try.func55 (by kernel_rfl) rfl (fun hG wq hI => txRow_any _ _ TA tn tc tl wq (rds_below HRT17.out hI) (rds_len HRT17.out) (by have h := congrArg ByteArray.size (HET.out.2 (HG0.out _ (Bool.and_eq_true_iff.1 hG).2)); rw [ByteArray.size_append, ByteArray.size_append, F4_size, F4_size, strOfNums_size, rds_len HRT17.out] at h; omega)) (margs rfl) ?_
  refine w_moveG (.inl rfl) (fun vs w hK => wantsTg rfl (fv (hK 15 (memE rfl)))) (fun hG vs w hK => (rho_out rfl rfl)) ?_
  refine w_valG [(226, _), (227, _)] (_) (fun vs w hK => wantsTg rfl (fv (hK 15 (memE rfl)))) (fun hG vs w hK => ⟨(rho_in rfl (fvg (hK 19 (memE rfl)) hG)), (rho_in rfl (fvg (hK 20 (memE rfl)) hG)), trivial⟩) rfl (fun hG wq hI => by exact op_str_nq rfl rfl rfl rfl) ?_
  refine w_andG rfl (fun vs w hK => wantsF rfl (fv (hK 12 (memE rfl)))) (fun hG vs w hK => (rho_in rfl (fvg (hK 15 (memE rfl)) hG))) (fun hG hB vs w hK => (rho_in rfl (fvg (hK 21 (memE rfl)) (gand hG hB)))) ?_
  refine w_or rfl (fun vs w hK => wants_none rfl) (fun vs w hK => (rho_in rfl (fv (hK 12 (memE rfl))))) (fun hB vs w hK => (rho_in rfl (fvg (hK 22 (memE rfl)) (gnot hB)))) ?_
  refine w_move (.inl rfl) (fun vs w hK => ⟨wants_none rfl, rho_in rfl (fv (hK 23 (memE rfl)))⟩) ?_
  refine w_moveG (.inl rfl) (fun vs w hK => wantsF rfl (fv (hK 24 (memE rfl)))) (fun hG vs w hK => (rho_out rfl rfl)) ?_
  refine w_valG [(232, _)] (_) (fun vs w hK => wantsF rfl (fv (hK 24 (memE rfl)))) (fun hG vs w hK => ⟨(rho_in rfl (fvg (hK 25 (memE rfl)) hG)), trivial⟩) rfl (fun hG wq hI => by exact run_int_eql rfl rfl rfl rfl) ?_
  refine w_moveG (.inl rfl) (fun vs w hK => wantsF rfl (fv (hK 24 (memE rfl)))) (fun hG vs w hK => (rho_in rfl (fvg (hK 26 (memE rfl)) hG))) ?_
  refine w_valG [(23, _)] (.agg (pt qid qo).toArray) (fun vs w hK => wantsTg rfl (fv (hK 27 (memE rfl)))) (fun hG vs w hK => ⟨(rho_out rfl rfl), trivial⟩) rfl (fun hG wq hI => by exact run_load_op rfl rfl (load_pt HLEN.out.2.2.2.2.2.2.1 (box_stays M7.out hI))) ?_
  refine w_callG [(235, _)] _ _ (by decide) (fun vs w hK => wantsTg rfl (fv (hK 27 (memE rfl)))) (fun hG vs w hK => ⟨(rho_in rfl (fvg (hK 28 (memE rfl)) hG)), trivial⟩) rfl rfl Try.func22 (by kernel_rfl) rfl (fun hG wq hI => out_any qid HLEN.out.2.2.2.2.2.2.1 qo HLEN.out.2.2.2.2.2.2.2 wq) (margs rfl) ?_
  refine w_valG [(236, _)] (.string (((⟨#[99]⟩ : ByteArray) ++ (strOfNums qid ++ F4 qo)).extract 1 ((⟨#[99]⟩ : ByteArray) ++ (strOfNums qid ++ F4 qo)).size)) (fun vs w hK => wantsTg rfl (fv (hK 27 (memE rfl)))) (fun hG vs w hK => ⟨(rho_in rfl (fvg (hK 29 (memE rfl)) hG)), trivial⟩) rfl (fun hG wq hI => by exact op_cut_from (a := 1) rfl Try.underlying9 rfl rfl rfl (by rw [ByteArray.size_append]; show 1 ≤ 1 + _; omega) rfl) ?_
  refine w_moveG (.inl rfl) (fun vs w hK => wantsTg rfl (fv (hK 27 (memE rfl)))) (fun hG vs w hK => (rho_out rfl rfl)) ?_
  refine w_moveG (.inl rfl) (fun vs w hK => wantsTg rfl (fv (hK 27 (memE rfl)))) (fun hG vs w hK => (rho_out rfl rfl)) ?_
  refine w_valG [(238, _), (239, _)] (.string (s.extract f.toNat s.size)) (fun vs w hK => wantsTg rfl (fv (hK 27 (memE rfl)))) (fun hG vs w hK => ⟨(rho_in rfl (fvg (hK 31 (memE rfl)) hG)), (rho_in rfl (fvg (hK 32 (memE rfl)) hG)), trivial⟩) rfl (fun hG wq hI => by exact op_cut_from (a := f.toNat) rfl Try.underlying9 rfl rfl (by have h := HEQ.out.2 (HG0.out _ (Bool.and_eq_true_iff.1 hG).2); omega) (by have h := HEQ.out.2 (HG0.out _ (Bool.and_eq_true_iff.1 hG).2); omega) rfl) ?_
  refine w_valG [(237, _), (240, _)] (_) (fun vs w hK => wantsTg rfl (fv (hK 27 (memE rfl)))) (fun hG vs w hK => ⟨(rho_in rfl (fvg (hK 30 (memE rfl)) hG)), (rho_in rfl (fvg (hK 33 (memE rfl)) hG)), trivial⟩) rfl (fun hG wq hI => by exact op_str_nq rfl rfl rfl rfl) ?_
  refine w_andG rfl (fun vs w hK => wantsF rfl (fv (hK 24 (memE rfl)))) (fun hG vs w hK => (rho_in rfl (fvg (hK 27 (memE rfl)) hG))) (fun hG hB vs w hK => (rho_in rfl (fvg (hK 34 (memE rfl)) (gand hG hB)))) ?_
  refine w_or rfl (fun vs w hK => wants_none rfl) (fun vs w hK => (rho_in rfl (fv (hK 24 (memE rfl))))) (fun hB vs w hK => (rho_in rfl (fvg (hK 35 (memE rfl)) (gnot hB)))) ?_
  refine w_as (c' := .bool false) (by rw [F6.out, F7.out, F8.out]; rfl) ?_
  refine w_endM [false, false, false, false, false, false, false, false, false, false, false, false, false, false, false, false, false, false, false, false, false, false, false, false, false, false, false, false, false, false, false, false, false, false, false, false, true] rfl rfl rfl (fun vs wq hI hF => ?_)
  simp only [List.reverse_cons, List.reverse_nil, List.nil_append, List.cons_append, finL_val, finL_of, finL_any, finL_app, finL_new, finL_gr, finL_row, finL_box, finL_nil, Act.put, List.setIfInBounds_toArray, List.set_cons_zero, List.set_cons_succ, Nat.reduceAdd, maskF, finL_imp, Bool.not_false, Bool.not_true, Bool.true_and, Bool.false_and]
  have HB18 := Lib.hid (below_then HB17.out HB17.out.size hI)
  clear hI hF
  go_wp2_with fail
  go_ret
  exact ⟨rfl, HB18.out⟩
end Go.Proofs.Ytglkagicmolbeaa.Rw

