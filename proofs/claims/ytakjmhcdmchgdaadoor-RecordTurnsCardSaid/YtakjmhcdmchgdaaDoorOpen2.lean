/- Arguments that are slices of slices of whole numbers: what is read of them. -/
import Derived.Test.YtakjmhcdmchgdaaDoorOpen
import Derived.Test.YtakjmhcdmchgdaaDoorWalk
import Derived.Deep.Slices
namespace Go.Proofs.YtakjmhcdmchgdaaDoor.Kit
set_option linter.unusedVariables false
open Go.RowKit Go.ChangeShapes Go.WideShapes Go.Proofs.YtakjmhcdmchgdaaDoorW.PrintWords Go.Proofs.YtakjmhcdmchgdaaDoorW.PrintLast Go.Proofs.YtakjmhcdmchgdaaDoorW.PrintMore
abbrev Sl := Option Addr × Nat × Nat
def encS (x : Sl) : Value := .slice x.1 x.2.1 x.2.2
theorem encS_one : ∀ x : Sl, (encS x).oneCell' = true := fun _ => rfl
structure SlsOf (k : IntKind) (w : World) (A : Option Addr) (n c : Nat) (ls : List (List Int)) : Prop where
  len : ls.length = n
  cap : n ≤ c
  row : ∃ xs : List Sl, RdsE encS encS_one w A n xs ∧ ∀ i, i < n → Rds k w (xs.getD i default).1 (xs.getD i default).2.1 (ls.getD i []) ∧ (ls.getD i []).length = (xs.getD i default).2.1 ∧ (xs.getD i default).2.1 ≤ (xs.getD i default).2.2 ∧ ∀ y ∈ ls.getD i [], (Lit.int k y).wf = true
theorem getD_range {α : Type} (f : Nat → α) (n i : Nat) (d : α) (h : i < n) : ((List.range n).map f).getD i d = f i := by
  rw [List.getD_eq_getElem?_getD, List.getElem?_map, List.getElem?_range h]; rfl
section
variable {H : Type} {enc : TypeId × Value → H} {P : Program} {w : World} {base m : Nat} {held : Bool} {t e e' : TypeId}
theorem open_sls {k : IntKind} {A : Option Addr} {n c : Nat} {x : DataW H × List MemPlace} (ht : P.underlying t = some (.slice e)) (hc : P.cellsOf e = 1) (he : P.underlying e = some (.slice e')) (hi' : P.underlying e' = some (.int k)) (hc' : P.cellsOf e' = 1)
    (h : DataW.trod enc P w base (fun _ => true) held m t [.slice A n c] = some x) : ∃ ls, SlsOf k w A n c ls := by
  have hmx : maxLen = 9223372036854775807 := rfl
  rcases Go.Deep.open_slice1 ht hc h with ⟨hcs, _⟩ | ⟨a, len, cap, m', n', V, D, Pl, hcs, hb, hl, hm, hmm, hx, hV⟩
  · simp at hcs
    obtain ⟨rfl, rfl, rfl⟩ := hcs
    exact ⟨[], rfl, Nat.le_refl _, [], rds_nil _ _, fun i hi => absurd hi (by omega)⟩
  · simp at hcs
    obtain ⟨rfl, rfl, rfl⟩ := hcs
    have hm2 : m' = c := by simpa using hmm
    have hp : ∀ i, i < n → ∃ y : Sl × List Int, V i = encS y.1 ∧ Rds k w y.1.1 y.1.2.1 y.2 ∧ y.2.length = y.1.2.1 ∧ y.1.2.1 ≤ y.1.2.2 ∧ ∀ q ∈ y.2, (Lit.int k q).wf = true := fun i hi => by
      obtain ⟨_, h2⟩ := hV i (by omega)
      rcases open_ints he hi' hc' h2 with ⟨h3, _⟩ | ⟨x2, l, c2, zs, h3, _, hl2, hm3, hz, _, hcell, hwz⟩
      · have h4 : V i = .slice none 0 0 := by simpa using h3
        exact ⟨((none, 0, 0), []), h4, rds_nil _ _, rfl, Nat.le_refl _, fun q hq => by cases hq⟩
      · have h4 : V i = .slice (some x2) l c2 := by simpa using h3
        have hz' : zs.length = c2 := by simpa using hz
        have hlt : (zs.take l).length = l := by rw [List.length_take]; omega
        refine ⟨((some x2, l, c2), zs.take l), h4, ?_, hlt, hl2, fun q hq => hwz q (List.mem_of_mem_take hq)⟩
        refine Kd.C_of_reads (d := (0 : Int)) ⟨hlt, (by show l ≤ 9223372036854775807; omega), fun _ => ⟨x2, rfl, fun j hj => ?_⟩⟩
        have hj' : j < l := hj
        have h5 := hcell j (by omega)
        rw [h5, List.getD_eq_getElem?_getD, List.getD_eq_getElem?_getD, List.getElem?_take, if_pos (by omega)]
    obtain ⟨f, hf⟩ := Go.Deep.choose_lt hp
    refine ⟨(List.range n).map fun i => (f i).2, by simp, hl, (List.range n).map fun i => (f i).1, ?_, fun i hi => ?_⟩
    · refine Kd.C_of_reads (d := default) ⟨by simp, by omega, fun _ => ⟨a, rfl, fun j hj => ?_⟩⟩
      have hj' : j < n := by simpa using hj
      rw [(hV j (by omega)).1, getD_range _ _ _ _ hj', (hf j hj').1]
    · rw [getD_range _ _ _ _ hi, getD_range _ _ _ _ hi]
      exact (hf i hi).2
end
end Go.Proofs.YtakjmhcdmchgdaaDoor.Kit
