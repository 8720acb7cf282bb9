/- RowsCoins -/
import Derived.Test.YtglkagicmolbeaaRows
import Derived.Test.YtglkagicmolbeaaRowsCoins
import Derived.Test.YtglkagicmolbeaaOpen
import Derived.WalkKit
import Derived.ProofKit
import Derived.OpenShut
import Derived.ShutString
import Derived.ChangeOld
import Derived.Below
import Derived.SizedLaws
import Derived.Test.YtglkagicmolbeaaWSized
namespace Go.Proofs.Ytglkagicmolbeaa.rowsCoins
open Go.ChangeShapes Go.WideShapes Go.ChangeAt Go.RowKit Go.Proofs.YtglkagicmolbeaaW Go.Proofs.YtglkagicmolbeaaW.PrintWords Go.Proofs.Ytglkagicmolbeaa.Kit
open Go.ChangeMaps (open_string shut_string)
set_option linter.unusedVariables false
theorem own : ownKnob Try.prog.godebug = none := by kernel_rfl
theorem laidOut : laidOutB Try.prog = true := by kernel_rfl
def IsRow (k : IntKind) (w : World) (a : Option Addr) (len cap : Nat) (zs : List Int) : Prop :=
  (a = none ∧ len = 0 ∧ cap = 0 ∧ zs = []) ∨
  ∃ x, a = some x ∧ len ≤ cap ∧ cap ≤ maxLen ∧ zs.length = cap ∧ (∀ i, i < zs.length → w.cell? (x.add i) = some (.int k (zs.getD i 0))) ∧ ∀ n ∈ zs, (Lit.int k n).wf = true
set_option maxRecDepth 100000 in
theorem lifted (os : Os) (started : os.Started) (H : Type) (enc : TypeId × Value → H) :
    ReturnsInHanded {} Try.checked os 11 .any (Rows.rowsCoinsSpec.pre6 enc Try.prog Try.f11 Rows.rowsCoinsRow.domain false) (Rows.rowsCoinsSpec.post enc Try.prog Try.f11 false true false false) := by
  refine returnsInHanded_of_change_sized (C := Try.checked) own started (by kernel_rfl) Try.func11
    (ChangeSpec.witness6 (enc := enc) (C := Try.checked) false ⟨#[], #[.agg #[.int .i64 0, .int .u8 0, .int .u8 0, .int .u8 0, .int .u8 0, .int .u8 0, .int .u8 0, .int .u8 0, .int .u8 0, .int .u8 0, .int .u8 0, .int .u8 0, .int .u8 0, .int .u8 0, .int .u8 0, .int .u8 0, .int .u8 0, .int .u8 0, .int .u8 0, .int .u8 0, .int .u8 0, .int .u8 0, .int .u8 0, .int .u8 0, .int .u8 0, .int .u8 0, .int .u8 0, .int .u8 0, .int .u8 0, .int .u8 0, .int .u8 0, .int .u8 0, .int .u8 0, .int .i64 0, .int .i64 0], .agg #[.int .u8 0, .int .u8 0, .int .u8 0, .int .u8 0, .int .u8 0, .int .u8 0, .int .u8 0, .int .u8 0, .int .u8 0, .int .u8 0, .int .u8 0, .int .u8 0, .int .u8 0, .int .u8 0, .int .u8 0, .int .u8 0, .int .u8 0, .int .u8 0, .int .u8 0, .int .u8 0, .int .u8 0, .int .u8 0, .int .u8 0, .int .u8 0, .int .u8 0, .int .u8 0, .int .u8 0, .int .u8 0, .int .u8 0, .int .u8 0, .int .u8 0, .int .u8 0, .int .i64 0, .int .i64 0], .agg #[.int .u8 0, .int .u8 0, .int .u8 0, .int .u8 0, .int .u8 0, .int .u8 0, .int .u8 0, .int .u8 0, .int .u8 0, .int .u8 0, .int .u8 0, .int .u8 0, .int .u8 0, .int .u8 0, .int .u8 0, .int .u8 0, .int .u8 0, .int .u8 0, .int .u8 0, .int .u8 0, .int .u8 0, .int .u8 0, .int .u8 0, .int .u8 0, .int .u8 0, .int .u8 0, .int .u8 0, .int .u8 0, .int .u8 0, .int .u8 0, .int .u8 0, .int .u8 0, .int .u32 0]], []⟩ 8 (by kernel_rfl) (by kernel_rfl) (by kernel_rfl) (by kernel_rfl)) ?_
  intro W base args ds gs before hval0 hW hcnd hsz0 _
  have hsz : (DataW.weightsEach Try.prog (Try.f11.params.toList ++ Rows.rowsCoinsSpec.plain.varTypes Try.prog) (ds ++ gs)).all (· ≤ reachBytes) = true := hsz0
  have hval : ∀ (j : Nat) t v, Try.f11.params[j]? = some t → args[j]? = some v → Value.okWide Try.prog W .any base t v := hval0
  have hW' := hW
  obtain ⟨p, q, hA0, hV, rfl, hfz, hnd⟩ := hW
  have hA : DataW.TrodAll enc Try.prog W 0 (fun _ => true) true Try.f11.params.toList args.toList ds p := hA0
  rw [Try.params11] at hA hval hsz
  obtain ⟨v0, vs0, d0, ds0, p0, q0, hargs, rfl, rfl, h0, r0⟩ := trodAll_cons hA
  obtain ⟨v1, vs1, d1, ds1, p1, q1, rfl, rfl, rfl, h1, r1⟩ := trodAll_cons r0
  obtain ⟨v2, vs2, d2, ds2, p2, q2, rfl, rfl, rfl, h2, r2⟩ := trodAll_cons r1
  obtain ⟨rfl, rfl, rfl⟩ := trodAll_nil r2
  obtain rfl : args = #[v0, v1, v2] := by cases args; simp_all
  obtain ⟨rfl, rfl⟩ := trodVars_none hV
  obtain ⟨c0, rfl⟩ : ∃ c, v0 = .agg c := by
    have hq := (hval 0 56 v0 rfl rfl)
    simp only [Value.okWide, Try.underlying56] at hq
    obtain ⟨c, hc, _⟩ := hq
    exact ⟨c, hc⟩
  have k0 := h0
  have lt0 : ∀ x ∈ p0, x.block < W.heap.size := by obtain ⟨m, hm⟩ := k0; exact DataW.trod_lt m _ _ _ hm
  obtain ⟨fu0, hu0⟩ := h0
  change DataW.trod enc Try.prog W 0 _ true fu0 56 c0.toList = _ at hu0
  obtain ⟨xa0, ma0, _, _, hla0, hxa0, hfa0⟩ := DataW.trod_struct Try.underlying56 hu0
  have hza0 : Try.prog.cellsOf 56 = 35 := by kernel_rfl
  obtain ⟨ya0_0, hya0_0⟩ := field_some hxa0 (i := 0) (by decide)
  have fa0_0 : DataW.trod enc Try.prog W 0 _ true ma0 2 ((c0.toList.drop 0).take (Try.prog.cellsOf 2)) = xa0[0]? := hfa0 0 _ rfl
  rw [hya0_0] at fa0_0
  rw [show Try.prog.cellsOf 2 = 1 by kernel_rfl] at fa0_0
  obtain ⟨a0_0, ea0_0, _, wa0_0⟩ := DataW.trod_int Try.underlying2 fa0_0
  obtain ⟨ya0_1, hya0_1⟩ := field_some hxa0 (i := 1) (by decide)
  have fa0_1 : DataW.trod enc Try.prog W 0 _ true ma0 32 ((c0.toList.drop 1).take (Try.prog.cellsOf 32)) = xa0[1]? := hfa0 1 _ rfl
  rw [hya0_1] at fa0_1
  rw [show Try.prog.cellsOf 32 = 32 by kernel_rfl] at fa0_1
  obtain ⟨a0_1, ea0_1, la0_1, wa0_1⟩ := open_arr_ints Try.underlying32 Try.underlying5 (by kernel_rfl) (by kernel_rfl) fa0_1
  obtain ⟨ya0_2, hya0_2⟩ := field_some hxa0 (i := 2) (by decide)
  have fa0_2 : DataW.trod enc Try.prog W 0 _ true ma0 3 ((c0.toList.drop 33).take (Try.prog.cellsOf 3)) = xa0[2]? := hfa0 2 _ rfl
  rw [hya0_2] at fa0_2
  rw [show Try.prog.cellsOf 3 = 1 by kernel_rfl] at fa0_2
  obtain ⟨a0_2, ea0_2, _, wa0_2⟩ := DataW.trod_int Try.underlying3 fa0_2
  obtain ⟨ya0_3, hya0_3⟩ := field_some hxa0 (i := 3) (by decide)
  have fa0_3 : DataW.trod enc Try.prog W 0 _ true ma0 3 ((c0.toList.drop 34).take (Try.prog.cellsOf 3)) = xa0[3]? := hfa0 3 _ rfl
  rw [hya0_3] at fa0_3
  rw [show Try.prog.cellsOf 3 = 1 by kernel_rfl] at fa0_3
  obtain ⟨a0_3, ea0_3, _, wa0_3⟩ := DataW.trod_int Try.underlying3 fa0_3
  have ea0 := (cut_cons ea0_0 rfl (cut_cons ea0_1 rfl (cut_cons ea0_2 rfl (cut_cons ea0_3 rfl (cut_end (hla0.trans hza0))))))
  rw [List.drop_zero] at ea0
  obtain rfl := agg_of ea0
  obtain ⟨c1, rfl⟩ : ∃ c, v1 = .agg c := by
    have hq := (hval 1 58 v1 rfl rfl)
    simp only [Value.okWide, Try.underlying58] at hq
    obtain ⟨c, hc, _⟩ := hq
    exact ⟨c, hc⟩
  have k1 := h1
  have lt1 : ∀ x ∈ p1, x.block < W.heap.size := by obtain ⟨m, hm⟩ := k1; exact DataW.trod_lt m _ _ _ hm
  obtain ⟨fu1, hu1⟩ := h1
  change DataW.trod enc Try.prog W 0 _ true fu1 58 c1.toList = _ at hu1
  obtain ⟨xa1, ma1, _, _, hla1, hxa1, hfa1⟩ := DataW.trod_struct Try.underlying58 hu1
  have hza1 : Try.prog.cellsOf 58 = 34 := by kernel_rfl
  obtain ⟨ya1_0, hya1_0⟩ := field_some hxa1 (i := 0) (by decide)
  have fa1_0 : DataW.trod enc Try.prog W 0 _ true ma1 32 ((c1.toList.drop 0).take (Try.prog.cellsOf 32)) = xa1[0]? := hfa1 0 _ rfl
  rw [hya1_0] at fa1_0
  rw [show Try.prog.cellsOf 32 = 32 by kernel_rfl] at fa1_0
  obtain ⟨a1_0, ea1_0, la1_0, wa1_0⟩ := open_arr_ints Try.underlying32 Try.underlying5 (by kernel_rfl) (by kernel_rfl) fa1_0
  obtain ⟨ya1_1, hya1_1⟩ := field_some hxa1 (i := 1) (by decide)
  have fa1_1 : DataW.trod enc Try.prog W 0 _ true ma1 3 ((c1.toList.drop 32).take (Try.prog.cellsOf 3)) = xa1[1]? := hfa1 1 _ rfl
  rw [hya1_1] at fa1_1
  rw [show Try.prog.cellsOf 3 = 1 by kernel_rfl] at fa1_1
  obtain ⟨a1_1, ea1_1, _, wa1_1⟩ := DataW.trod_int Try.underlying3 fa1_1
  obtain ⟨ya1_2, hya1_2⟩ := field_some hxa1 (i := 2) (by decide)
  have fa1_2 : DataW.trod enc Try.prog W 0 _ true ma1 3 ((c1.toList.drop 33).take (Try.prog.cellsOf 3)) = xa1[2]? := hfa1 2 _ rfl
  rw [hya1_2] at fa1_2
  rw [show Try.prog.cellsOf 3 = 1 by kernel_rfl] at fa1_2
  obtain ⟨a1_2, ea1_2, _, wa1_2⟩ := DataW.trod_int Try.underlying3 fa1_2
  have ea1 := (cut_cons ea1_0 rfl (cut_cons ea1_1 rfl (cut_cons ea1_2 rfl (cut_end (hla1.trans hza1)))))
  rw [List.drop_zero] at ea1
  obtain rfl := agg_of ea1
  obtain ⟨c2, rfl⟩ : ∃ c, v2 = .agg c := by
    have hq := (hval 2 39 v2 rfl rfl)
    simp only [Value.okWide, Try.underlying39] at hq
    obtain ⟨c, hc, _⟩ := hq
    exact ⟨c, hc⟩
  have k2 := h2
  have lt2 : ∀ x ∈ p2, x.block < W.heap.size := by obtain ⟨m, hm⟩ := k2; exact DataW.trod_lt m _ _ _ hm
  obtain ⟨fu2, hu2⟩ := h2
  change DataW.trod enc Try.prog W 0 _ true fu2 39 c2.toList = _ at hu2
  obtain ⟨xa2, ma2, _, _, hla2, hxa2, hfa2⟩ := DataW.trod_struct Try.underlying39 hu2
  have hza2 : Try.prog.cellsOf 39 = 33 := by kernel_rfl
  obtain ⟨ya2_0, hya2_0⟩ := field_some hxa2 (i := 0) (by decide)
  have fa2_0 : DataW.trod enc Try.prog W 0 _ true ma2 32 ((c2.toList.drop 0).take (Try.prog.cellsOf 32)) = xa2[0]? := hfa2 0 _ rfl
  rw [hya2_0] at fa2_0
  rw [show Try.prog.cellsOf 32 = 32 by kernel_rfl] at fa2_0
  obtain ⟨a2_0, ea2_0, la2_0, wa2_0⟩ := open_arr_ints Try.underlying32 Try.underlying5 (by kernel_rfl) (by kernel_rfl) fa2_0
  obtain ⟨ya2_1, hya2_1⟩ := field_some hxa2 (i := 1) (by decide)
  have fa2_1 : DataW.trod enc Try.prog W 0 _ true ma2 37 ((c2.toList.drop 32).take (Try.prog.cellsOf 37)) = xa2[1]? := hfa2 1 _ rfl
  rw [hya2_1] at fa2_1
  rw [show Try.prog.cellsOf 37 = 1 by kernel_rfl] at fa2_1
  obtain ⟨a2_1, ea2_1, _, wa2_1⟩ := DataW.trod_int Try.underlying37 fa2_1
  have ea2 := (cut_cons ea2_0 rfl (cut_cons ea2_1 rfl (cut_end (hla2.trans hza2))))
  rw [List.drop_zero] at ea2
  obtain rfl := agg_of ea2
  clear hA0 hval0 hsz0 hsz
  refine (Rw.coins_any a0_0 a0_1 a0_2 a0_3 a1_0 a1_1 a1_2 a2_0 a2_1 W wa0_0 la0_1 wa0_1 wa0_2 wa0_3 la1_0 wa1_0 wa1_1 wa1_2 la2_0 wa2_0 wa2_1).mono fun e W' ⟨he, bel⟩ => ?_
  subst he
  exact ⟨_, rfl, _, _, _, [], _, [], hW', trodAll_mk1 (shut_bool Try.underlying4 _), (trodAll_cons_mk (Below.trod laidOut (by kernel_rfl) (of_decide_eq_true (by kernel_rfl)) k0 bel lt0) (trodAll_cons_mk (Below.trod laidOut (by kernel_rfl) (of_decide_eq_true (by kernel_rfl)) k1 bel lt1) (trodAll_cons_mk (Below.trod laidOut (by kernel_rfl) (of_decide_eq_true (by kernel_rfl)) k2 bel lt2) trodAll_mk0))), rfl, bel.frame _, fun h => by cases h⟩
theorem over : Rows.rowsCoinsRow.holds Try.pinned (OpenSpec.ofChange Rows.rowsCoinsSpec) :=
  OpenClaim.holds_of_wide 11 Try.f11 rfl rfl rfl rfl rfl rfl rfl ⟨rfl, rfl, rfl, rfl, rfl⟩ rfl rfl rfl rfl rfl (by kernel_rfl) Try.func11 (by kernel_rfl)
    (of_decide_eq_true (by kernel_rfl)) (by unfold Func.isWrapper; first | (rw [if_pos (by decide +kernel)]; kernel_rfl) | (rw [if_neg (by decide +kernel)]; exact ⟨rfl, rfl⟩))
    (fun os started H enc _ => lifted os started H enc)
#print axioms over
end Go.Proofs.Ytglkagicmolbeaa.rowsCoins
namespace Go.Proofs.Ytglkagicmolbeaa
theorem rowsCoins_holds : Rows.RowsCoinsSaid := rowsCoins.over
end Go.Proofs.Ytglkagicmolbeaa
