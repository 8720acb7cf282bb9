/- Contracts of package key: Put, text. -/
import Derived.Test.YtgnicgcdhldmmaaKeyG
import Derived.Test.YtgnicgcdhldmmaaKeyJ
import Derived.Test.YtgnicgcdhldmmaaGrS
namespace Go.Proofs.Ytgnicgcdhldmmaa.Key
set_option linter.unusedVariables false
set_option linter.unusedSimpArgs false
open Go.Proofs.Ytgnicgcdhldmmaa.Kit Go.Proofs.Ytgnicgcdhldmmaa.Num Go.RowKit Go.Proofs.YtgnicgcdhldmmaaW.PrintWords Go.Proofs.YtgnicgcdhldmmaaW.PrintLast Go.Proofs.YtgnicgcdhldmmaaW.PrintMore NumPure
/-- An entry's bytes. -/
def Ent.putL (x : Ent) : List Int := put7 x.inner.size ++ numsOf x.inner ++ put7 x.val.size ++ numsOf x.val
theorem reg_15_3 : RegOk (opsOf Try.f15 3) [[], [], [1], [1, 2], [1, 2, 3], [0, 1, 2, 3, 4], [], [6], [0, 1, 2, 3, 4, 5, 6, 7], [0, 1, 2, 3, 4, 5, 6, 7, 8]] [5, 8, 9] [some 15, some 16, some 17, some 18, some 19, some 20, some 21, some 22, some 23, some 4] := regOk (by kernel_rfl)
set_option maxRecDepth 20000 in
set_option maxHeartbeats 3200000 in
theorem entPut_any (x : Ent) (hx : x.ok) (hkk : x.key.size ≤ 70000) (hvv : x.val.size ≤ 70000) (v : Value) (xs : List Int) (w0 w : World) (HO : GrB w w0.heap.size v xs) (HB : Below w0.heap.size w0 w) (hl : xs.length + 300000 ≤ 140737488355328) :
    Calls Try.prog 15 #[x.ag, v] w fun e w' => ∃ v', e = .returned v' ∧ AppB w0 w w' v v' (xs ++ x.putL) := by
  have hin : x.inner.size ≤ 140010 := by
    have h1 := esc_length (numsOf x.key)
    rw [numsOf_length] at h1
    rw [show x.inner = strOfNums (esc (numsOf x.key) ++ [0, 1] ++ be x.flip 8) from rfl, strOf_size, List.length_append, List.length_append, be_length]
    simp
    omega
  have hpl : x.putL = put7 x.inner.size ++ numsOf x.inner ++ put7 x.val.size ++ numsOf x.val := rfl
  have CI := Lib.hid (fun wq => inner_any x hx hkk wq)
  have h10 := put7_len10 (n := x.inner.size) (by omega)
  have h11 := put7_len10 (n := x.val.size) (by omega)
  generalize x.inner = R at CI hin hpl h10
  generalize x.putL = PL at hpl
  obtain ⟨K, s, d, V⟩ := x
  change V.size ≤ 70000 at hvv
  change (put7 V.size).length ≤ 10 at h11
  have hpl2 : PL = put7 R.size ++ numsOf R ++ put7 V.size ++ numsOf V := hpl
  have HPL := Lib.hid hpl2
  have CI2 : Hid (∀ wq, Calls Try.prog 13 #[.agg #[.string K, .int .u64 s, .bool d, .string V]] wq fun e w' => e = .returned (.string R) ∧ Below wq.heap.size wq w') := CI
  clear hpl hpl2 CI hx hkk
  simp only [Ent.ag, Ent.cells]
  have hO1 : GrB (w.alloc (.cells #[.string K, .int .u64 s, .bool d, .string V] 24)) w0.heap.size v xs := gr_below HO (below_alloc (Below.refl _ _) _)
  have hB1 : Below w0.heap.size w0 (w.alloc (.cells #[.string K, .int .u64 s, .bool d, .string V] 24)) := below_alloc HB _
  have hbw : Below w.heap.size w (w.alloc (.cells #[.string K, .int .u64 s, .bool d, .string V] 24)) := below_alloc (Below.refl _ _) _
  have hX1 : (w.alloc (.cells #[.string K, .int .u64 s, .bool d, .string V] 24)).heap[w.heap.size]? = some (.cells #[.string K, .int .u64 s, .bool d, .string V] 24) := heap_alloc_new w _
  have HV := Lib.hid (fun j h => gr_lt HO j h)
  have HO1 := Lib.hid hO1
  have HB1 := Lib.hid hB1
  have HBW := Lib.hid hbw
  have HX1 := Lib.hid hX1
  clear hO1 hB1 hbw hX1 HO HB
  have hwr : IntKind.u64.wrap (R.size : Int) = (R.size : Int) := u64_nat _ (by omega)
  go_enter Try.func15, Try.ntmps15
  go_wp2_with fail
  refine (CI2.out _).mono ?_
  rintro e w2 ⟨rfl, hb2⟩
  have HO2 := Lib.hid (gr_below HO1.out hb2)
  have HB2 := Lib.hid (below_then HB1.out HB1.out.size hb2)
  have HBW2 := Lib.hid (below_then HBW.out HBW.out.size hb2)
  have HX2 := Lib.hid (box_below HX1.out hb2)
  clear hb2 HO1 HB1 HBW HX1 CI2
  go_wp2_with fail
  refine (put_any R.size (by omega) v xs w0 w2 HO2.out HB2.out (by omega)).mono ?_
  rintro e w3 ⟨v3, rfl, hA3⟩
  have HO3 := Lib.hid hA3.own
  have HB3 := Lib.hid hA3.bel
  have HF3 := Lib.hid hA3.fr
  clear hA3
  go_wp2_with (at_builtin; refine gapp_str tb rfl Try.underlying9 rfl (.tmp 12) (.tmp 13) rfl rfl rfl HO3.out HB3.out HB3.out.size ?cL ?_; (case cL => rw [List.length_append]; omega); intro v4 w4 ho hb4 hs1 hf; have HO4 := Lib.hid ho; have HB4 := Lib.hid hb4; have HF4 := Lib.hid hf; clear ho hb4 hs1 hf)
  have hne : v.ownBlock ≠ some w.heap.size := fun e => by have := HV.out _ e; omega
  have hsz2 : w.heap.size < w2.heap.size := by have := mk_lt HX2.out; exact this
  have hne3 : v3.ownBlock ≠ some w.heap.size := by
    rcases HF3.out.at_ with e | ⟨b, e, hb⟩
    · rw [e]; exact hne
    · rw [e]; intro h; injection h with h; omega
  have hsz3 : w.heap.size < w3.heap.size := Nat.lt_of_lt_of_le hsz2 HF3.out.grown.size
  have hne4 : v4.ownBlock ≠ some w.heap.size := by
    rcases HF4.out.at_ with e | ⟨b, e, hb⟩
    · rw [e]; exact hne3
    · rw [e]; intro h; injection h with h; omega
  have hx3 : w3.heap[w.heap.size]? = some (.cells #[.string K, .int .u64 s, .bool d, .string V] 24) := by rw [HF3.out.grown.block _ hsz2 (Ne.symm hne)]; exact HX2.out
  have hx4 : w4.heap[w.heap.size]? = some (.cells #[.string K, .int .u64 s, .bool d, .string V] 24) := by rw [HF4.out.grown.block _ hsz3 (Ne.symm hne3)]; exact hx3
  have HFR := Lib.hid (Fr.from HBW2.out (HF3.out.trans HF4.out))
  obtain ⟨xs4, hxs4⟩ : ∃ xs4, xs4 = xs ++ put7 R.size ++ numsOf R := ⟨_, rfl⟩
  have hxl : xs4.length ≤ xs.length + 140030 := by rw [hxs4, List.length_append, List.length_append, numsOf_length]; omega
  have hpe : xs ++ PL = xs4 ++ put7 V.size ++ numsOf V := by rw [HPL.out, hxs4]; simp
  have HPE := Lib.hid hpe
  rw [← hxs4] at HO4
  have hJ0 : AppB w0 w4 w4.drew v4 v4 xs4 := app_start HO4.out HB4.out (below_drew (Below.refl _ _))
  have hI0 : Keeps w0 w.heap.size (.cells #[.string K, .int .u64 s, .bool d, .string V] 24) w4.drew := Keeps.mk (below_drew HB4.out) hx4
  have HJ0 := Lib.hid hJ0
  have HI0 := Lib.hid hI0
  have HNE := Lib.hid hne4
  have HG := Lib.hid (mk_lt hx4)
  clear hne hsz2 hne3 hsz3 hne4 hx3 hx4 hxs4 hpe hJ0 hI0 HPL HV HX2 HO2 HB2 HBW2 HO3 HB3 HF3 HF4
  go_upto_region 3 with fail
  refine draws_ (Keeps w0 w.heap.size (.cells #[.string K, .int .u64 s, .bool d, .string V] 24)) (fun w' => AppB w0 w4 w' v4 v4 xs4) (by kernel_rfl) reg_15_3 rfl keeps_below app_st HI0.out HJ0.out ?_
  refine w_move (.inl rfl) (fun vs w hK => ⟨wants_none rfl, rho_out rfl rfl⟩) ?_
  refine w_val [(2, _)] _ (fun vs w hK => ⟨wants_none rfl, rho_out rfl rfl, trivial⟩) rfl (fun wq hI => by simp only [execOp, Option.map_some, Option.map_none, lk_tmp, lk_const, lkT_cons, ↓reduceIte, Nat.reduceEqDiff]; go_simp; (first | done | rfl)) ?_
  refine w_val [(16, _)] (_) (fun vs w hK => ⟨wants_none rfl, rho_in rfl (fv (hK 1 (by decide))), trivial⟩) rfl (fun wq hI => by have hc : wq.cell? ⟨w.heap.size, 3, none⟩ = some (.string V) := (by simp [World.cell?, hI.at_]); exact run_load_cell rfl rfl rfl Try.underlying9 rfl hc) ?_
  refine w_val [(17, _)] (_) (fun vs w hK => ⟨wants_none rfl, rho_in rfl (fv (hK 2 (by decide))), trivial⟩) rfl (fun wq hI => by exact run_len_str rfl Try.underlying9 rfl rfl) ?_
  refine w_val [(18, _)] (_) (fun vs w hK => ⟨wants_none rfl, rho_in rfl (fv (hK 3 (by decide))), trivial⟩) rfl (fun wq hI => by exact op_conv_int rfl Try.underlying3 Try.underlying22 rfl (u64_nat V.size (by omega))) ?_
  refine w_lin (FW.app .u8 5 w0 w4 v4 (xs4 ++ put7 V.size)) (by decide) (fun vs wq hI hJ hK => ?_) ?_
  · have hA := hJ (by decide) (by decide)
    refine ob_call [(15, _), (19, _)] _ (wants_none rfl) ⟨rho_in rfl (fv (hK 0 (by decide))), rho_in rfl (fv (hK 4 (by decide))), trivial⟩ rfl rfl Try.func21 (by kernel_rfl) rfl (margs rfl) ((put_any V.size (by omega) v4 xs4 w0 wq hA.own hA.bel (by omega)).mono ?_)
    rintro e w5 ⟨v5, rfl, hA2⟩
    exact ⟨v5, rfl, keeps_fr hI hA2.bel hA2.fr (app_ne hA HG.out HNE.out), app_next hA hA2⟩
  refine w_val [(2, _)] _ (fun vs w hK => ⟨wants_none rfl, rho_out rfl rfl, trivial⟩) rfl (fun wq hI => by simp only [execOp, Option.map_some, Option.map_none, lk_tmp, lk_const, lkT_cons, ↓reduceIte, Nat.reduceEqDiff]; go_simp; (first | done | rfl)) ?_
  refine w_val [(21, _)] (_) (fun vs w hK => ⟨wants_none rfl, rho_in rfl (fv (hK 6 (by decide))), trivial⟩) rfl (fun wq hI => by have hc : wq.cell? ⟨w.heap.size, 3, none⟩ = some (.string V) := (by simp [World.cell?, hI.at_]); exact run_load_cell rfl rfl rfl Try.underlying9 rfl hc) ?_
  refine w_lin (FW.app .u8 5 w0 w4 v4 (xs4 ++ put7 V.size ++ numsOf V)) (by decide) (fun vs wq hI hJ hK => ?_) ?_
  · have hA : AppB w0 w4 wq v4 (vs 5) (xs4 ++ put7 V.size) := hK 5 (by decide)
    obtain ⟨v1, w1, hrun, hA1⟩ := gr_run_str tb rfl Try.underlying9 33 V hA.own hA.bel.size (by rw [List.length_append]; omega)
    have hA2 := app_of_run hA hA1
    exact ob_run [(20, _), (22, _)] (wants_none rfl) ⟨rho_in rfl rfl, rho_in rfl (fv (hK 7 (by decide))), trivial⟩ rfl (run_append_op rfl rfl rfl hrun) ⟨keeps_fr hI hA2.bel hA1.fr (app_ne hA HG.out HNE.out), hA2⟩
  refine w_lin (FW.app .u8 5 w0 w4 v4 (xs4 ++ put7 V.size ++ numsOf V)) (by decide) (fun vs wq hI hJ hK => ?_) ?_
  · exact ob_copy (.inr rfl) (wants_none rfl) (rho_in rfl rfl) ⟨hI, hK 8 (by decide)⟩
  refine w_end rfl rfl rfl (fun vs wq hI hF => ?_)
  simp only [List.reverse_cons, List.reverse_nil, List.nil_append, List.cons_append, finL_val, finL_of, finL_any, finL_app, finL_new, finL_gr, finL_row, finL_box, finL_nil, Act.put, List.setIfInBounds_toArray, List.set_cons_zero, List.set_cons_succ, Nat.reduceAdd]
  have hfin : AppB w0 w4 wq v4 (vs 9) (xs4 ++ put7 V.size ++ numsOf V) := hF 9 (by decide) (by decide)
  have HF := Lib.hid hfin
  clear hfin hF hI
  go_wp2_with fail
  go_ret
  exact ⟨_, rfl, by rw [HPE.out]; exact HF.out.own, HF.out.bel, HFR.out.trans HF.out.fr⟩
end Go.Proofs.Ytgnicgcdhldmmaa.Key

