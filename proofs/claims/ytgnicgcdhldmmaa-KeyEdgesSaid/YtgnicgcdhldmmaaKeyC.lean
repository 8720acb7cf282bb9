/- The document's example of key. -/
import Derived.Test.YtgnicgcdhldmmaaKeyB
namespace Go.Proofs.Ytgnicgcdhldmmaa.Key
set_option linter.unusedVariables false
set_option linter.unusedSimpArgs false
open Go.Proofs.Ytgnicgcdhldmmaa.Kit Go.Proofs.Ytgnicgcdhldmmaa.Num Go.RowKit Go.Proofs.YtgnicgcdhldmmaaW.PrintWords Go.Proofs.YtgnicgcdhldmmaaW.PrintLast Go.Proofs.YtgnicgcdhldmmaaW.PrintMore NumPure
theorem box_below {w w' : World} {g : Nat} {o : Obj} (h : w.heap[g]? = some o) (hb : Below w.heap.size w w') : w'.heap[g]? = some o := by rw [hb.block g (mk_lt h)]; exact h
def ex1 : Ent := ⟨⟨#[97]⟩, 1, true, ⟨#[]⟩⟩
def ex9 : Ent := ⟨⟨#[97]⟩, 9, false, ⟨#[]⟩⟩
def ex7 : Ent := ⟨⟨#[97]⟩, 7, false, ⟨#[]⟩⟩
theorem ex_ok (n : Nat) (hn : n < 100) (d : Bool) : Ent.ok ⟨⟨#[97]⟩, n, d, ⟨#[]⟩⟩ := ⟨by show n < _; omega, by show (1 : Nat) ≤ _; omega, by show (0 : Nat) ≤ _; omega⟩
theorem ex1_inner : ex1.inner = ⟨#[97, 0, 1, 255, 255, 255, 255, 255, 255, 255, 253]⟩ := by
  have h1 : numsOf ⟨#[97]⟩ = [97] := by rw [numsOf, ByteArray.toList_eq]; rfl
  have h2 : ex1.inL = [97, 0, 1, 255, 255, 255, 255, 255, 255, 255, 253] := by
    unfold Ent.inL
    rw [show ex1.key = ⟨#[97]⟩ from rfl, h1, show ex1.flip = 18446744073709551613 from rfl]
    simp [esc, be, le]
    decide
  unfold Ent.inner
  rw [h2]
  rfl
theorem ex_cmp : ex9.cmp ex7 = -1 := by
  unfold Ent.cmp CB
  simp [ex9, ex7, Lib.compareBytes]
theorem reg_9_2 : RegOk (opsOf Try.f9 2) [[], [0], [0, 1], [0, 1, 2], [0, 1, 2, 3], [0, 1, 2, 3], [0, 1, 2, 3, 4, 5], [0, 1, 2, 3, 4, 5, 6], [0, 1, 2, 3, 4, 5, 6, 7], [0, 1, 2, 3, 4, 5, 6, 7, 8]] [] [some 3, some 4, some 5, some 6, some 7, some 8, some 9, some 10, some 11, some 0] := regOk (by kernel_rfl)
set_option maxRecDepth 20000 in
set_option maxHeartbeats 3200000 in
theorem head_any (w : World) : Calls Try.prog 9 #[] w fun e w' => e = .returned (.bool true) ∧ Below w.heap.size w w' := by
  have C1 := Lib.hid (fun wq => inner_any ex1 (ex_ok 1 (by omega) true) (by decide) wq)
  rw [ex1_inner] at C1
  have C2 := Lib.hid (fun wq => cmp_any ex9 ex7 (ex_ok 9 (by omega) false) (ex_ok 7 (by omega) false) wq)
  rw [ex_cmp] at C2
  go_enter Try.func9, Try.ntmps9
  go_upto_region 2 with fail
  have hg1 : (w.alloc (.cells ex1.cells.toArray 24)).heap[w.heap.size]? = some (.cells ex1.cells.toArray 24) := by show (w.heap.push _)[w.heap.size]? = _; simp
  have HG1 := Lib.hid hg1
  have HB1 : Hid (Below w.heap.size w (w.alloc (.cells ex1.cells.toArray 24))) := Lib.hid (below_alloc (Below.refl _ _) _)
  clear hg1
  change Code.wp _ _ _ _ (w.alloc (.cells ex1.cells.toArray 24))
  generalize w.alloc (.cells ex1.cells.toArray 24) = w1 at HG1 HB1 ⊢
  refine plain_ (fun wq => Below w1.heap.size w1 wq) (fun _ => True) reg_9_2 rfl inv0 (fun _ _ _ _ => trivial) (Below.refl _ _) trivial ?_
  refine w_val [(1, _)] (_) (fun vs w hK => ⟨wants_none rfl, rho_out rfl rfl, trivial⟩) rfl (fun wq hI => by exact run_load_op rfl rfl (run_loadAt_mid wq _ 0 24 ex1.cells _ (range_block (box_below HG1.out hI)) Try.underlying24 rfl (by kernel_rfl))) ?_
  refine w_call [(3, _)] _ _ (by decide) (fun vs w hK => ⟨wants_none rfl, rho_in rfl (fv (hK 0 (by decide))), trivial⟩) rfl rfl Try.func13 (by kernel_rfl) rfl (fun wq hI => C1.out wq) (margs rfl) ?_
  refine w_val [(4, _)] (_) (fun vs w hK => ⟨wants_none rfl, rho_in rfl (fv (hK 1 (by decide))), trivial⟩) rfl (fun wq hI => by exact run_eql_same rfl rfl rfl rfl) ?_
  refine w_move (.inl rfl) (fun vs w hK => ⟨wants_none rfl, rho_in rfl (fv (hK 2 (by decide)))⟩) ?_
  refine w_val [] _ (fun vs w hK => ⟨wants_g rfl (fv (hK 3 (by decide))), trivial⟩) rfl (fun wq hI => by simp only [execOp, Option.map_some, Option.map_none, lk_tmp, lk_const, lkT_cons, ↓reduceIte, Nat.reduceEqDiff]; go_simp; (first | done | rfl)) ?_
  refine w_val [] _ (fun vs w hK => ⟨wants_g rfl (fv (hK 3 (by decide))), trivial⟩) rfl (fun wq hI => by simp only [execOp, Option.map_some, Option.map_none, lk_tmp, lk_const, lkT_cons, ↓reduceIte, Nat.reduceEqDiff]; go_simp; (first | done | rfl)) ?_
  refine w_call [(7, _), (8, _)] _ _ (by decide) (fun vs w hK => ⟨wants_g rfl (fv (hK 3 (by decide))), rho_in rfl (fv (hK 4 (by decide))), rho_in rfl (fv (hK 5 (by decide))), trivial⟩) rfl rfl Try.func12 (by kernel_rfl) rfl (fun wq hI => C2.out wq) (margs rfl) ?_
  refine w_val [(9, _)] (_) (fun vs w hK => ⟨wants_g rfl (fv (hK 3 (by decide))), rho_in rfl (fv (hK 6 (by decide))), trivial⟩) rfl (fun wq hI => by exact run_int_eql (r := true) rfl rfl rfl rfl) ?_
  refine w_pick (b := true) rfl (fun vs w hK => ⟨wants_none rfl, (rho_in rfl (fv (hK 3 (by decide)))), (rho_in rfl (fv (hK 7 (by decide))))⟩) ?_
  refine w_move (.inr rfl) (fun vs w hK => ⟨wants_none rfl, rho_in rfl (fv (hK 8 (by decide)))⟩) ?_
  refine w_end rfl rfl rfl (fun vs wq hI hF => ?_)
  simp only [List.reverse_cons, List.reverse_nil, List.nil_append, List.cons_append, finL_val, finL_of, finL_any, finL_app, finL_new, finL_gr, finL_row, finL_box, finL_nil, Act.put, List.setIfInBounds_toArray, List.set_cons_zero, List.set_cons_succ, Nat.reduceAdd]
  have HW := Lib.hid (below_then HB1.out HB1.out.size hI)
  clear hI hF
  go_wp2_with fail
  go_ret
  exact ⟨rfl, HW.out⟩
end Go.Proofs.Ytgnicgcdhldmmaa.Key

