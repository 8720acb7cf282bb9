/- KeyInners: an entry's key and number as a text and back, and the order of such texts: the law answers true for every two entries. -/
import Derived.Test.YtgnicgcdhldmmaaRows
import Derived.Test.YtgnicgcdhldmmaaKeyInners
import Derived.Test.YtgnicgcdhldmmaaOpen
import Derived.WalkKit
import Derived.ProofKit
import Derived.OpenShut
import Derived.ShutString
import Derived.ChangeOld
import Derived.Below
import Derived.SizedLaws
import Derived.Test.YtgnicgcdhldmmaaWSized
namespace Go.Proofs.Ytgnicgcdhldmmaa.keyInners
open Go.ChangeShapes Go.WideShapes Go.ChangeAt Go.RowKit Go.Proofs.YtgnicgcdhldmmaaW Go.Proofs.YtgnicgcdhldmmaaW.PrintWords Go.Proofs.Ytgnicgcdhldmmaa.Kit
open Go.ChangeMaps (open_string shut_string)
set_option linter.unusedVariables false
theorem own : ownKnob Try.prog.godebug = none := by kernel_rfl
theorem laidOut : laidOutB Try.prog = true := by kernel_rfl
def IsRow (k : IntKind) (w : World) (a : Option Addr) (len cap : Nat) (zs : List Int) : Prop :=
  (a = none ∧ len = 0 ∧ cap = 0 ∧ zs = []) ∨
  ∃ x, a = some x ∧ len ≤ cap ∧ cap ≤ maxLen ∧ zs.length = cap ∧ (∀ i, i < zs.length → w.cell? (x.add i) = some (.int k (zs.getD i 0))) ∧ ∀ n ∈ zs, (Lit.int k n).wf = true
set_option maxRecDepth 100000 in
theorem lifted (os : Os) (started : os.Started) (H : Type) (enc : TypeId × Value → H) :
    ReturnsInHanded {} Try.checked os 4 .any (Rows.keyInnersSpec.pre6 enc Try.prog Try.f4 Rows.keyInnersRow.domain false) (Rows.keyInnersSpec.post enc Try.prog Try.f4 false true false false) := by
  refine returnsInHanded_of_change_sized (C := Try.checked) own started (by kernel_rfl) Try.func4
    (ChangeSpec.witness6 (enc := enc) (C := Try.checked) false ⟨#[], #[.agg #[.string ByteArray.empty, .int .u64 0, .bool false, .string ByteArray.empty], .agg #[.string ByteArray.empty, .int .u64 0, .bool false, .string ByteArray.empty]], []⟩ 8 (by kernel_rfl) (by kernel_rfl) (by kernel_rfl) (by kernel_rfl)) ?_
  intro W base args ds gs before hval0 hW hcnd hsz0 _
  have hsz : (DataW.weightsEach Try.prog (Try.f4.params.toList ++ Rows.keyInnersSpec.plain.varTypes Try.prog) (ds ++ gs)).all (· ≤ reachBytes) = true := hsz0
  have hval : ∀ (j : Nat) t v, Try.f4.params[j]? = some t → args[j]? = some v → Value.okWide Try.prog W .any base t v := hval0
  have hW' := hW
  obtain ⟨p, q, hA0, hV, rfl, hfz, hnd⟩ := hW
  have hA : DataW.TrodAll enc Try.prog W 0 (fun _ => true) true Try.f4.params.toList args.toList ds p := hA0
  rw [Try.params4] at hA hval hsz
  obtain ⟨v0, vs0, d0, ds0, p0, q0, hargs, rfl, rfl, h0, r0⟩ := trodAll_cons hA
  obtain ⟨v1, vs1, d1, ds1, p1, q1, rfl, rfl, rfl, h1, r1⟩ := trodAll_cons r0
  obtain ⟨rfl, rfl, rfl⟩ := trodAll_nil r1
  obtain rfl : args = #[v0, v1] := by cases args; simp_all
  obtain ⟨rfl, rfl⟩ := trodVars_none hV
  obtain ⟨c0, rfl⟩ : ∃ c, v0 = .agg c := by
    have hq := (hval 0 24 v0 rfl rfl)
    simp only [Value.okWide, Try.underlying24] at hq
    obtain ⟨c, hc, _⟩ := hq
    exact ⟨c, hc⟩
  have k0 := h0
  have lt0 : ∀ x ∈ p0, x.block < W.heap.size := by obtain ⟨m, hm⟩ := k0; exact DataW.trod_lt m _ _ _ hm
  obtain ⟨fu0, hu0⟩ := h0
  change DataW.trod enc Try.prog W 0 _ true fu0 24 c0.toList = _ at hu0
  obtain ⟨xa0, ma0, _, _, hla0, hxa0, hfa0⟩ := DataW.trod_struct Try.underlying24 hu0
  have hza0 : Try.prog.cellsOf 24 = 4 := by kernel_rfl
  obtain ⟨ya0_0, hya0_0⟩ := field_some hxa0 (i := 0) (by decide)
  have fa0_0 : DataW.trod enc Try.prog W 0 _ true ma0 9 ((c0.toList.drop 0).take (Try.prog.cellsOf 9)) = xa0[0]? := hfa0 0 _ rfl
  rw [hya0_0] at fa0_0
  rw [show Try.prog.cellsOf 9 = 1 by kernel_rfl] at fa0_0
  obtain ⟨a0_0, ea0_0, _, wa0_0⟩ := DataW.trod_string Try.underlying9 fa0_0
  obtain ⟨ya0_1, hya0_1⟩ := field_some hxa0 (i := 1) (by decide)
  have fa0_1 : DataW.trod enc Try.prog W 0 _ true ma0 22 ((c0.toList.drop 1).take (Try.prog.cellsOf 22)) = xa0[1]? := hfa0 1 _ rfl
  rw [hya0_1] at fa0_1
  rw [show Try.prog.cellsOf 22 = 1 by kernel_rfl] at fa0_1
  obtain ⟨a0_1, ea0_1, _, wa0_1⟩ := DataW.trod_int Try.underlying22 fa0_1
  obtain ⟨ya0_2, hya0_2⟩ := field_some hxa0 (i := 2) (by decide)
  have fa0_2 : DataW.trod enc Try.prog W 0 _ true ma0 4 ((c0.toList.drop 2).take (Try.prog.cellsOf 4)) = xa0[2]? := hfa0 2 _ rfl
  rw [hya0_2] at fa0_2
  rw [show Try.prog.cellsOf 4 = 1 by kernel_rfl] at fa0_2
  obtain ⟨a0_2, ea0_2, _⟩ := DataW.trod_bool Try.underlying4 fa0_2
  obtain ⟨ya0_3, hya0_3⟩ := field_some hxa0 (i := 3) (by decide)
  have fa0_3 : DataW.trod enc Try.prog W 0 _ true ma0 9 ((c0.toList.drop 3).take (Try.prog.cellsOf 9)) = xa0[3]? := hfa0 3 _ rfl
  rw [hya0_3] at fa0_3
  rw [show Try.prog.cellsOf 9 = 1 by kernel_rfl] at fa0_3
  obtain ⟨a0_3, ea0_3, _, wa0_3⟩ := DataW.trod_string Try.underlying9 fa0_3
  have ea0 := (cut_cons ea0_0 rfl (cut_cons ea0_1 rfl (cut_cons ea0_2 rfl (cut_cons ea0_3 rfl (cut_end (hla0.trans hza0))))))
  rw [List.drop_zero] at ea0
  obtain rfl := agg_of ea0
  obtain ⟨c1, rfl⟩ : ∃ c, v1 = .agg c := by
    have hq := (hval 1 24 v1 rfl rfl)
    simp only [Value.okWide, Try.underlying24] at hq
    obtain ⟨c, hc, _⟩ := hq
    exact ⟨c, hc⟩
  have k1 := h1
  have lt1 : ∀ x ∈ p1, x.block < W.heap.size := by obtain ⟨m, hm⟩ := k1; exact DataW.trod_lt m _ _ _ hm
  obtain ⟨fu1, hu1⟩ := h1
  change DataW.trod enc Try.prog W 0 _ true fu1 24 c1.toList = _ at hu1
  obtain ⟨xa1, ma1, _, _, hla1, hxa1, hfa1⟩ := DataW.trod_struct Try.underlying24 hu1
  have hza1 : Try.prog.cellsOf 24 = 4 := by kernel_rfl
  obtain ⟨ya1_0, hya1_0⟩ := field_some hxa1 (i := 0) (by decide)
  have fa1_0 : DataW.trod enc Try.prog W 0 _ true ma1 9 ((c1.toList.drop 0).take (Try.prog.cellsOf 9)) = xa1[0]? := hfa1 0 _ rfl
  rw [hya1_0] at fa1_0
  rw [show Try.prog.cellsOf 9 = 1 by kernel_rfl] at fa1_0
  obtain ⟨a1_0, ea1_0, _, wa1_0⟩ := DataW.trod_string Try.underlying9 fa1_0
  obtain ⟨ya1_1, hya1_1⟩ := field_some hxa1 (i := 1) (by decide)
  have fa1_1 : DataW.trod enc Try.prog W 0 _ true ma1 22 ((c1.toList.drop 1).take (Try.prog.cellsOf 22)) = xa1[1]? := hfa1 1 _ rfl
  rw [hya1_1] at fa1_1
  rw [show Try.prog.cellsOf 22 = 1 by kernel_rfl] at fa1_1
  obtain ⟨a1_1, ea1_1, _, wa1_1⟩ := DataW.trod_int Try.underlying22 fa1_1
  obtain ⟨ya1_2, hya1_2⟩ := field_some hxa1 (i := 2) (by decide)
  have fa1_2 : DataW.trod enc Try.prog W 0 _ true ma1 4 ((c1.toList.drop 2).take (Try.prog.cellsOf 4)) = xa1[2]? := hfa1 2 _ rfl
  rw [hya1_2] at fa1_2
  rw [show Try.prog.cellsOf 4 = 1 by kernel_rfl] at fa1_2
  obtain ⟨a1_2, ea1_2, _⟩ := DataW.trod_bool Try.underlying4 fa1_2
  obtain ⟨ya1_3, hya1_3⟩ := field_some hxa1 (i := 3) (by decide)
  have fa1_3 : DataW.trod enc Try.prog W 0 _ true ma1 9 ((c1.toList.drop 3).take (Try.prog.cellsOf 9)) = xa1[3]? := hfa1 3 _ rfl
  rw [hya1_3] at fa1_3
  rw [show Try.prog.cellsOf 9 = 1 by kernel_rfl] at fa1_3
  obtain ⟨a1_3, ea1_3, _, wa1_3⟩ := DataW.trod_string Try.underlying9 fa1_3
  have ea1 := (cut_cons ea1_0 rfl (cut_cons ea1_1 rfl (cut_cons ea1_2 rfl (cut_cons ea1_3 rfl (cut_end (hla1.trans hza1))))))
  rw [List.drop_zero] at ea1
  obtain rfl := agg_of ea1
  clear hA0 hval0 hsz0 hsz
  refine (Key.inners_any a0_0 a0_1 a0_2 a0_3 a1_0 a1_1 a1_2 a1_3 W wa0_0 wa0_1 wa0_3 wa1_0 wa1_1 wa1_3).mono fun e W' ⟨he, bel⟩ => ?_
  subst he
  exact ⟨_, rfl, _, _, _, [], _, [], hW', trodAll_mk1 (shut_bool Try.underlying4 _), (trodAll_cons_mk (Below.trod laidOut (by kernel_rfl) (of_decide_eq_true (by kernel_rfl)) k0 bel lt0) (trodAll_cons_mk (Below.trod laidOut (by kernel_rfl) (of_decide_eq_true (by kernel_rfl)) k1 bel lt1) trodAll_mk0)), rfl, bel.frame _, fun h => by cases h⟩
theorem over : Rows.keyInnersRow.holds Try.pinned (OpenSpec.ofChange Rows.keyInnersSpec) :=
  OpenClaim.holds_of_wide 4 Try.f4 rfl rfl rfl rfl rfl rfl rfl ⟨rfl, rfl, rfl, rfl, rfl⟩ rfl rfl rfl rfl rfl (by kernel_rfl) Try.func4 (by kernel_rfl)
    (of_decide_eq_true (by kernel_rfl)) (by unfold Func.isWrapper; first | (rw [if_pos (by decide +kernel)]; kernel_rfl) | (rw [if_neg (by decide +kernel)]; exact ⟨rfl, rfl⟩))
    (fun os started H enc _ => lifted os started H enc)
#print axioms over
end Go.Proofs.Ytgnicgcdhldmmaa.keyInners
namespace Go.Proofs.Ytgnicgcdhldmmaa
theorem keyInners_holds : Rows.KeyInnersSaid := keyInners.over
end Go.Proofs.Ytgnicgcdhldmmaa
