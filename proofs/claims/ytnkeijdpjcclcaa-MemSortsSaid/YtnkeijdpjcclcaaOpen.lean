/- Opening data: arrays, structs by value. -/
import Derived.Test.YtnkeijdpjcclcaaKit2
import Derived.OpenShut
import Derived.ChangeOld
import Derived.Lib.SmallJoins
namespace Go.Proofs.Ytnkeijdpjcclcaa.Kit
set_option linter.unusedVariables false
set_option linter.unusedSimpArgs false
open Go.RowKit Go.Proofs.YtnkeijdpjcclcaaW.PrintWords Go.Proofs.YtnkeijdpjcclcaaW.PrintLast Go.Proofs.YtnkeijdpjcclcaaW.PrintMore
section
variable {H : Type} {enc : TypeId × Value → H} {P : Program} {w : World} {base : Nat} {sp : Nat → Bool} {held : Bool} {m : Nat} {t e : TypeId} {cs : List Value} {x : DataW H × List MemPlace}
theorem nums_of {k : IntKind} {cs : List Value} (h : ∀ j, j < cs.length → ∃ n, cs[j]? = some (.int k n) ∧ (Lit.int k n).wf = true) : ∃ l : List Int, cs = nums k l ∧ ∀ n ∈ l, (Lit.int k n).wf = true := by
  induction cs with
  | nil => exact ⟨[], rfl, by simp⟩
  | cons c r ih =>
    obtain ⟨n, h1, h2⟩ := h 0 (by simp)
    simp only [List.getElem?_cons_zero, Option.some.injEq] at h1
    subst h1
    obtain ⟨l, rfl, hl⟩ := ih (fun j hj => by
      obtain ⟨n, h1, h2⟩ := h (j + 1) (by simpa using hj)
      exact ⟨n, by simpa using h1, h2⟩)
    exact ⟨n :: l, rfl, fun y hy => by
      rcases List.mem_cons.1 hy with rfl | hy
      · exact h2
      · exact hl y hy⟩
theorem open_arr_ints {k : IntKind} {n : Nat} (ht : P.underlying t = some (.array n e)) (he : P.underlying e = some (.int k)) (hc : P.cellsOf e = 1) (hct : P.cellsOf t = n) (h : DataW.trod enc P w base sp held m t cs = some x) :
    ∃ l : List Int, cs = nums k l ∧ l.length = n ∧ ∀ y ∈ l, (Lit.int k y).wf = true := by
  obtain ⟨xs, m', _, _, hl, hx, hf⟩ := DataW.trod_array ht h
  rw [hct] at hl
  obtain ⟨l, rfl, hw⟩ := nums_of (k := k) (cs := cs) (fun j hj => by
    have h1 := hf j (by omega)
    rw [hc, Nat.mul_one, List.getElem?_eq_getElem (by omega)] at h1
    obtain ⟨n', h2, _, h3⟩ := DataW.trod_int he h1
    refine ⟨n', ?_, h3⟩
    have h4 : ((cs.drop j).take 1)[0]? = some (.int k n') := by rw [h2]; rfl
    rw [List.getElem?_take, if_pos (by omega), List.getElem?_drop, Nat.add_zero] at h4
    exact h4)
  exact ⟨l, rfl, by simpa [nums] using hl, hw⟩
theorem cut_cons {α : Type} {cs A R : List α} {o s o' : Nat} (h : (cs.drop o).take s = A) (ho : o + s = o') (r : cs.drop o' = R) : cs.drop o = A ++ R := by
  subst ho
  rw [← h, ← r, ← List.drop_drop, List.take_append_drop]
theorem cut_end {α : Type} {cs : List α} {n : Nat} (h : cs.length = n) : cs.drop n = [] := by rw [← h]; simp
theorem agg_of {c : Array Value} {l : List Value} (h : c.toList = l) : c = l.toArray := by rw [← h]
theorem field_some {α : Type} {xs : List α} {n i : Nat} (h : xs.length = n) (hi : i < n) : ∃ y, xs[i]? = some y := ⟨_, List.getElem?_eq_getElem (by omega)⟩
end
end Go.Proofs.Ytnkeijdpjcclcaa.Kit
