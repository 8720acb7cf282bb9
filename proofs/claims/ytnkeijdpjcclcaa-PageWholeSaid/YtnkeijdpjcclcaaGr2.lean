/- Cells of a row that may be appended to, written. -/
import Derived.Test.YtnkeijdpjcclcaaGr
namespace Go.Proofs.Ytnkeijdpjcclcaa.Kit
set_option linter.unusedVariables false
set_option linter.unusedSimpArgs false
open Go.RowKit Go.Proofs.YtnkeijdpjcclcaaW.PrintWords Go.Proofs.YtnkeijdpjcclcaaW.PrintLast Go.Proofs.YtnkeijdpjcclcaaW.PrintMore
section
variable {α : Type} {enc : α → Value} {h1 : ∀ x, (enc x).oneCell' = true} {e : TypeId}
theorem gr_form {w : World} {B : Nat} {v : Value} {xs : List α} (h : GrE enc h1 e w B v xs) (hp : 0 < xs.length) :
    ∃ g n cap, v = .slice (some ⟨g, 0, none⟩) n cap ∧ Hid (xs.length = n) ∧ 0 < n ∧ n ≤ 9223372036854775807 ∧ n ≤ cap ∧ B ≤ g ∧ g < w.heap.size := by
  rcases h with h | ⟨g, cap, cur, fr, hv, k1, k2, k3, k4, k5, k6, k7⟩
  · exact own_form h hp
  · exact ⟨g, _, cap, hv, Lib.hid rfl, hp, by omega, k4, k1, mk_lt k2⟩
theorem gr_cell (d : α) {w : World} {B g n cap : Nat} {xs : List α} (h : GrE enc h1 e w B (.slice (some ⟨g, 0, none⟩) n cap) xs) (k : Nat) (hk : k < n) :
    w.cell? ⟨g, k, none⟩ = some (enc (xs.getD k d)) ∧ w.frozen? ⟨g, k, none⟩ = false := by
  rcases h with h | ⟨g', cap', cur, fr, hv, k1, k2, k3, k4, k5, k6, k7⟩
  · exact own_cell d h k hk
  · injection hv with e1 e2 e3
    injection e1 with e1
    injection e1 with e1
    subst e1 e2 e3
    refine ⟨?_, ?_⟩
    · have := mk_cells (cap := cap) k2 k7 k (enc (xs.getD k d)) (by simp [encs, List.getElem?_eq_getElem hk, List.getD_eq_getElem?_getD])
      rwa [add_plain] at this
    · unfold World.frozen?
      rw [k2]
      obtain ⟨lo, hi⟩ := fr
      simp only
      simp only at k3
      rw [show decide (lo ≤ k) = false from decide_eq_false (by omega)]
      rfl
theorem gr_set {w : World} {B g n cap : Nat} {xs : List α} (h : GrE enc h1 e w B (.slice (some ⟨g, 0, none⟩) n cap) xs) (k : Nat) (x : α) :
    GrE enc h1 e (w.setCell ⟨g, k, none⟩ (enc x)) B (.slice (some ⟨g, 0, none⟩) n cap) (xs.set k x) := by
  rcases h with h | ⟨g', cap', cur, fr, hv, k1, k2, k3, k4, k5, k6, k7⟩
  · exact .inl (own_set h k x)
  · injection hv with e1 e2 e3
    injection e1 with e1
    injection e1 with e1
    subst e1 e2 e3
    refine .inr ⟨g, cap, cur.setIfInBounds k (enc x), fr, by rw [List.length_set], k1, ?_, by simpa using k3, by rw [List.length_set]; exact k4, k5, by simpa using k6, ?_⟩
    · simp [World.setCell, Array.getElem?_modify, k2]
    · rw [List.length_set, Array.toList_setIfInBounds, List.take_set, k7]
      simp [encs]
end
end Go.Proofs.Ytnkeijdpjcclcaa.Kit
