/- The walk of the law RowsCoins. -/
import Derived.Test.YtglkagicmolbeaaRowsParts
import Derived.Test.YtglkagicmolbeaaRowsH
namespace Go.Proofs.Ytglkagicmolbeaa.Rw
set_option linter.unusedVariables false
set_option linter.unusedSimpArgs false
open Go.Proofs.Ytglkagicmolbeaa.Kit Go.Proofs.Ytglkagicmolbeaa.Num Go.RowKit Go.Proofs.YtglkagicmolbeaaW.PrintWords Go.Proofs.YtglkagicmolbeaaW.PrintLast Go.Proofs.YtglkagicmolbeaaW.PrintMore NumPure
/-- The law's three arguments, in variables of its own. -/
structure Bc (w0 : World) (x y z : List Value) (W : World) : Prop where
  bel : Below w0.heap.size w0 W
  a : W.heap[w0.heap.size]? = some (.cells x.toArray 56 (0, 0))
  b : W.heap[w0.heap.size + 1]? = some (.cells y.toArray 58 (0, 0))
  c : W.heap[w0.heap.size + 2]? = some (.cells z.toArray 39 (0, 0))
theorem Bc.below {w0 W W' : World} {x y z : List Value} (h : Bc w0 x y z W) (hb : Below W.heap.size W W') : Bc w0 x y z W' := ⟨below_then h.bel h.bel.size hb, box_stays h.a hb, box_stays h.b hb, box_stays h.c hb⟩
theorem bc_new (w : World) (x y z : List Value) : Bc w x y z (((w.alloc (.cells x.toArray 56)).alloc (.cells y.toArray 58)).alloc (.cells z.toArray 39)) :=
  ⟨below_alloc (below_alloc (below_alloc (Below.refl _ _) _) _) _, (heap_alloc_old _ _ (by simp; omega)).trans ((heap_alloc_old _ _ (by simp)).trans (heap_alloc_new w _)), (heap_alloc_old _ _ (by simp)).trans (by have := heap_alloc_new (w.alloc (.cells x.toArray 56)) (.cells y.toArray 58); simpa using this), by have := heap_alloc_new ((w.alloc (.cells x.toArray 56)).alloc (.cells y.toArray 58)) (.cells z.toArray 39); simpa using this⟩
theorem Bc.setA {w0 W : World} {x y z x' : List Value} (h : Bc w0 x y z W) (i : Nat) (v : Value) (e : x.set i v = x') : Bc w0 x' y z (W.setCell ⟨w0.heap.size, i, none⟩ v) := by
  subst e
  refine ⟨h.bel.setCell (p := ⟨w0.heap.size, i, none⟩) (Nat.le_refl _) _, ?_, by rw [Below.heap_setCell _ _ _ _ (by show w0.heap.size + 1 ≠ w0.heap.size; omega)]; exact h.b, by rw [Below.heap_setCell _ _ _ _ (by show w0.heap.size + 2 ≠ w0.heap.size; omega)]; exact h.c⟩
  rw [setCell_eq_setRow W _ i _ _ _ v h.a, setRow_heap W _ _ _ _ _ h.a]
  simp
theorem Bc.setB {w0 W : World} {x y z y' : List Value} (h : Bc w0 x y z W) (i : Nat) (v : Value) (e : y.set i v = y') : Bc w0 x y' z (W.setCell ⟨w0.heap.size + 1, i, none⟩ v) := by
  subst e
  refine ⟨h.bel.setCell (p := ⟨w0.heap.size + 1, i, none⟩) (by show w0.heap.size ≤ w0.heap.size + 1; omega) _, by rw [Below.heap_setCell _ _ _ _ (by show w0.heap.size ≠ w0.heap.size + 1; omega)]; exact h.a, ?_, by rw [Below.heap_setCell _ _ _ _ (by show w0.heap.size + 2 ≠ w0.heap.size + 1; omega)]; exact h.c⟩
  rw [setCell_eq_setRow W _ i _ _ _ v h.b, setRow_heap W _ _ _ _ _ h.b]
  simp
theorem cn_set33 {c : Int} {s : List Int} {h p h' : Int} (hs : s.length = 32) : (cn c s h p).set 33 (.int .i64 h') = cn c s h' p := by
  unfold cn
  rw [show 33 = 32 + 1 from rfl, List.set_cons_succ, List.set_append_right _ _ (by simp [nums, hs])]
  simp [nums, hs]
theorem cn_set34 {c : Int} {s : List Int} {h p p' : Int} (hs : s.length = 32) : (cn c s h p).set 34 (.int .i64 p') = cn c s h p' := by
  unfold cn
  rw [show 34 = 33 + 1 from rfl, List.set_cons_succ, List.set_append_right _ _ (by simp [nums, hs])]
  simp [nums, hs]
theorem sp_set32 {b : List Int} {i k i' : Int} (hb : b.length = 32) : (sp b i k).set 32 (.int .i64 i') = sp b i' k := by
  unfold sp
  rw [List.set_append_right _ _ (by simp [nums, hb])]
  simp [nums, hb]
theorem sp_set33 {b : List Int} {i k k' : Int} (hb : b.length = 32) : (sp b i k).set 33 (.int .i64 k') = sp b i k' := by
  unfold sp
  rw [List.set_append_right _ _ (by simp [nums, hb])]
  simp [nums, hb]
theorem load_cn {w : World} {g : Nat} {c : Int} {s : List Int} {h p : Int} {t : TypeId} (hs : s.length = 32) (hg : w.heap[g]? = some (.cells (cn c s h p).toArray t)) : (Instr.loadAt 56 (.pointer (some ⟨g, 0, none⟩))).run Try.prog w = .ok (.agg (cn c s h p).toArray) w :=
  run_loadAt_mid w _ 0 56 (cn c s h p) _ (range_block hg) Try.underlying56 rfl (by rw [cn_length hs]; exact size56)
theorem load_sp {w : World} {g : Nat} {b : List Int} {i k : Int} {t : TypeId} (hb : b.length = 32) (hg : w.heap[g]? = some (.cells (sp b i k).toArray t)) : (Instr.loadAt 58 (.pointer (some ⟨g, 0, none⟩))).run Try.prog w = .ok (.agg (sp b i k).toArray) w :=
  run_loadAt_mid w _ 0 58 (sp b i k) _ (range_block hg) Try.underlying58 rfl (by rw [sp_length hb]; exact size58)
theorem size3 : (Try.prog.info? 3).map (·.size) = some 1 := by kernel_rfl
theorem reg_11_3 : RegOk (opsOf Try.f11 3) [[], [0], [0, 1], [0, 1, 2], [0, 1, 2, 3]] [4] [some 18, some 19, some 20, some 21, none] := regOk (by kernel_rfl)
theorem reg_11_4 : RegOk (opsOf Try.f11 4) [[], [0], [0, 1], [0, 1, 2], [0, 1, 2, 3]] [4] [some 22, some 23, some 24, some 25, none] := regOk (by kernel_rfl)
theorem reg_11_5 : RegOk (opsOf Try.f11 5) [[], [0], [0, 1], [0, 1, 2], [0, 1, 2, 3]] [4] [some 26, some 27, some 28, some 29, none] := regOk (by kernel_rfl)
theorem reg_11_6 : RegOk (opsOf Try.f11 6) [[], [0], [0, 1], [0, 1, 2], [0, 1, 2, 3]] [4] [some 30, some 31, some 32, some 33, none] := regOk (by kernel_rfl)
theorem reg_11_7 : RegOk (opsOf Try.f11 7) [[], [0], [0, 1], [0, 1, 2]] [] [some 34, some 35, some 36, some 7] := regOk (by kernel_rfl)
theorem reg_11_8 : RegOk (opsOf Try.f11 8) [[], [0], [0, 1], [0, 1, 2], [], [4], [4, 5], [0, 1, 2, 3, 4, 5, 6], [0, 1, 2, 3, 4, 5, 6, 7], [], [9], [9, 10], [0, 1, 2, 3, 4, 5, 6, 7, 8, 9, 10, 11], [], [13], [0, 1, 2, 3, 4, 5, 6, 7, 13, 14], [0, 1, 2, 3, 4, 5, 6, 7, 8, 9, 10, 11, 12, 13, 14, 15], [], [17], [0, 1, 2, 3, 4, 5, 6, 7, 13, 14, 15, 17, 18], [0, 1, 2, 3, 4, 5, 6, 7, 8, 9, 10, 11, 12, 13, 14, 15, 16, 17, 18, 19], [0, 1, 2, 3, 4, 5, 6, 7, 8, 9, 10, 11, 12, 13, 14, 15, 16, 17, 18, 19, 20]] [] [some 37, some 38, some 39, some 40, some 41, some 42, some 43, some 44, some 45, some 46, some 47, some 48, some 49, some 50, some 51, some 52, some 53, some 54, some 55, some 56, some 57, some 8] := regOk (by kernel_rfl)
theorem reg_11_9 : RegOk (opsOf Try.f11 9) [[], [0], [], [0, 1, 2], [0, 1, 2, 3], [0, 1, 2, 3, 4], [0, 1, 2, 3, 4, 5], [0, 1, 2, 3, 4], [0, 1, 2, 3, 4, 7], [0, 1, 2, 3, 4, 7, 8], [0, 1, 2, 3, 4], [0, 1, 2, 3, 4, 10], [0, 1, 2, 3, 4, 5, 6, 10, 11], [0, 1, 2, 3, 4, 5, 6, 7, 8, 9, 10, 11, 12], [0, 1, 2, 3, 4], [0, 1, 2, 3, 4, 14], [0, 1, 2, 3, 4, 5, 6, 10, 11, 12, 14, 15], [0, 1, 2, 3, 4, 5, 6, 7, 8, 9, 10, 11, 12, 13, 14, 15, 16], [0, 1, 2, 3, 4, 5, 6, 7, 8, 9, 10, 11, 12, 13, 14, 15, 16, 17], [0, 1, 2, 3, 4, 5, 6, 7, 8, 9, 10, 11, 12, 13, 14, 15, 16, 17, 18], [0, 1, 2, 3, 4, 5, 6, 7, 8, 9, 10, 11, 12, 13, 14, 15, 16, 17, 18, 19], [0, 1, 2, 3, 4, 5, 6, 7, 8, 9, 10, 11, 12, 13, 14, 15, 16, 17, 18, 19, 20], [0, 1, 2, 3, 4, 5, 6, 7, 8, 9, 10, 11, 12, 13, 14, 15, 16, 17, 18, 19, 20], [0, 1, 2, 3, 4, 5, 6, 7, 8, 9, 10, 11, 12, 13, 14, 15, 16, 17, 18, 19, 20, 21, 22], [0, 1, 2, 3, 4, 5, 6, 7, 8, 9, 10, 11, 12, 13, 14, 15, 16, 17, 18, 19, 20], [0, 1, 2, 3, 4, 5, 6, 7, 8, 9, 10, 11, 12, 13, 14, 15, 16, 17, 18, 19, 20, 24], [0, 1, 2, 3, 4, 5, 6, 7, 8, 9, 10, 11, 12, 13, 14, 15, 16, 17, 18, 19, 20, 24, 25], [0, 1, 2, 3, 4, 5, 6, 7, 8, 9, 10, 11, 12, 13, 14, 15, 16, 17, 18, 19, 20], [0, 1, 2, 3, 4, 5, 6, 7, 8, 9, 10, 11, 12, 13, 14, 15, 16, 17, 18, 19, 20, 27], [0, 1, 2, 3, 4, 5, 6, 7, 8, 9, 10, 11, 12, 13, 14, 15, 16, 17, 18, 19, 20, 27, 28], [0, 1, 2, 3, 4, 5, 6, 7, 8, 9, 10, 11, 12, 13, 14, 15, 16, 17, 18, 19, 20, 21, 22, 23, 27, 28, 29], [0, 1, 2, 3, 4, 5, 6, 7, 8, 9, 10, 11, 12, 13, 14, 15, 16, 17, 18, 19, 20, 21, 22, 23, 24, 25, 26, 27, 28, 29, 30], [0, 1, 2, 3, 4, 5, 6, 7, 8, 9, 10, 11, 12, 13, 14, 15, 16, 17, 18, 19, 20], [0, 1, 2, 3, 4, 5, 6, 7, 8, 9, 10, 11, 12, 13, 14, 15, 16, 17, 18, 19, 20, 21, 22, 23, 24, 25, 26, 27, 28, 29, 30, 31, 32], [0, 1, 2, 3, 4, 5, 6, 7, 8, 9, 10, 11, 12, 13, 14, 15, 16, 17, 18, 19, 20, 21, 22, 23, 24, 25, 26, 27, 28, 29, 30, 31, 32, 33], [0, 1, 2, 3, 4, 5, 6, 7, 8, 9, 10, 11, 12, 13, 14, 15, 16, 17, 18, 19, 20, 21, 22, 23, 24, 25, 26, 27, 28, 29, 30, 31, 32, 33, 34]] [] [some 58, some 59, some 60, some 61, some 62, some 63, some 64, some 65, some 66, some 67, some 68, some 69, some 70, some 71, some 72, some 73, some 74, some 75, some 76, some 77, some 78, some 79, some 80, some 81, some 82, some 83, some 84, some 85, some 86, some 87, some 88, some 89, some 90, some 91, some 92, some 93] := regOk (by kernel_rfl)
theorem reg_11_14 : RegOk (opsOf Try.f11 14) [[], [0], [0, 1], [0, 1, 2], [0, 1, 2, 3], [0, 1, 2, 3, 4], [0, 1, 2, 3, 4, 5], [0, 1, 2, 3, 4, 5, 6], [0, 1, 2, 3, 4, 5, 6, 7], [0, 1, 2, 3, 4, 5, 6, 7, 8], [0, 1, 2, 3, 4, 5, 6, 7, 8, 9], [0, 1, 2, 3, 4, 5, 6, 7, 8, 9, 10], [0, 1, 2, 3, 4, 5, 6, 7, 8, 9, 10], [0, 1, 2, 3, 4, 5, 6, 7, 8, 9, 10, 11, 12], [0, 1, 2, 3, 4, 5, 6, 7, 8, 9, 10, 11, 12, 13], [0, 1, 2, 3, 4, 5, 6, 7, 8, 9, 10, 11, 12, 13, 14], [0, 1, 2, 3, 4, 5, 6, 7, 8, 9, 10, 11, 12, 13, 14, 15], [0, 1, 2, 3, 4, 5, 6, 7, 8, 9, 10, 11, 12, 13, 14, 15], [0, 1, 2, 3, 4, 5, 6, 7, 8, 9, 10, 11, 12, 13, 14, 15, 16, 17], [0, 1, 2, 3, 4, 5, 6, 7, 8, 9, 10, 11, 12, 13, 14, 15, 16, 17, 18], [0, 1, 2, 3, 4, 5, 6, 7, 8, 9, 10, 11, 12, 13, 14, 15, 16, 17, 18, 19], [0, 1, 2, 3, 4, 5, 6, 7, 8, 9, 10, 11, 12, 13, 14, 15, 16, 17, 18, 19, 20], [0, 1, 2, 3, 4, 5, 6, 7, 8, 9, 10, 11, 12, 13, 14, 15, 16, 17, 18, 19, 20], [0, 1, 2, 3, 4, 5, 6, 7, 8, 9, 10, 11, 12, 13, 14, 15, 16, 17, 18, 19, 20, 21, 22], [0, 1, 2, 3, 4, 5, 6, 7, 8, 9, 10, 11, 12, 13, 14, 15, 16, 17, 18, 19, 20, 21, 22, 23], [0, 1, 2, 3, 4, 5, 6, 7, 8, 9, 10, 11, 12, 13, 14, 15, 16, 17, 18, 19, 20, 21, 22, 23, 24], [0, 1, 2, 3, 4, 5, 6, 7, 8, 9, 10, 11, 12, 13, 14, 15, 16, 17, 18, 19, 20, 21, 22, 23, 24, 25], [0, 1, 2, 3, 4, 5, 6, 7, 8, 9, 10, 11, 12, 13, 14, 15, 16, 17, 18, 19, 20, 21, 22, 23, 24, 25], [0, 1, 2, 3, 4, 5, 6, 7, 8, 9, 10, 11, 12, 13, 14, 15, 16, 17, 18, 19, 20, 21, 22, 23, 24, 25, 26, 27], [0, 1, 2, 3, 4, 5, 6, 7, 8, 9, 10, 11, 12, 13, 14, 15, 16, 17, 18, 19, 20, 21, 22, 23, 24, 25, 26, 27, 28], [0, 1, 2, 3, 4, 5, 6, 7, 8, 9, 10, 11, 12, 13, 14, 15, 16, 17, 18, 19, 20, 21, 22, 23, 24, 25, 26, 27, 28, 29]] [] [some 114, some 115, some 116, some 117, some 118, some 119, some 120, some 121, some 122, some 123, some 124, some 125, some 126, some 127, some 128, some 129, some 130, some 131, some 132, some 133, some 134, some 135, some 136, some 137, some 138, some 139, some 140, some 141, some 142, some 143, some 6] := regOk (by kernel_rfl)
set_option maxRecDepth 20000 in
set_option maxHeartbeats 3200000 in
theorem coins_any (c : Int) (s : List Int) (h p : Int) (b : List Int) (i k : Int) (id : List Int) (out : Int) (w : World) (hcw : (Lit.int .i64 c).wf = true) (hs : s.length = 32) (hsw : ∀ x ∈ s, (Lit.int .u8 x).wf = true) (_ : (Lit.int .i64 h).wf = true) (_ : (Lit.int .i64 p).wf = true) (hb : b.length = 32) (hbw : ∀ x ∈ b, (Lit.int .u8 x).wf = true) (_ : (Lit.int .i64 i).wf = true) (_ : (Lit.int .i64 k).wf = true) (hid : id.length = 32) (hidw : ∀ x ∈ id, (Lit.int .u8 x).wf = true) (how : (Lit.int .u32 out).wf = true) :
    Calls Try.prog 11 #[.agg ([Value.int .i64 c] ++ (nums .u8 s ++ ([Value.int .i64 h] ++ ([Value.int .i64 p] ++ [])))).toArray, .agg (nums .u8 b ++ ([Value.int .i64 i] ++ ([Value.int .i64 k] ++ []))).toArray, .agg (nums .u8 id ++ ([Value.int .u32 out] ++ [])).toArray] w fun e w' => e = .returned (.bool true) ∧ Below w.heap.size w w' := by
  change Calls Try.prog 11 #[.agg (cn c s h p).toArray, .agg (sp b i k).toArray, .agg (pt id out).toArray] w _
  have C0 := Lib.hid (fun wq => head18_any wq)
  have HS := Lib.hid hs
  have HBL := Lib.hid hb
  have HID := Lib.hid hid
  have HN := Lib.hid (bc_new w (cn c s h p) (sp b i k) (pt id out))
  go_enter Try.func11, Try.ntmps11
  go_upto_region 1 with fail
  generalize ((w.alloc (.cells (cn c s h p).toArray 56)).alloc (.cells (sp b i k).toArray 58)).alloc (.cells (pt id out).toArray 39) = w0 at HN ⊢
  go_wp2_with fail
  refine (C0.out _).mono ?_
  rintro e w1 ⟨rfl, hb1⟩
  have HB1 := Lib.hid (HN.out.below hb1)
  clear hb1 HN C0
  go_upto_region 3 with fail
  refine plain_ (fun _ => True) (Bc w (cn c s h p) (sp b i k) (pt id out)) reg_11_3 rfl (fun _ _ _ _ => trivial) (fun _ _ h hb => h.below hb) trivial HB1.out ?_
  refine w_val [(3, _)] _ (fun vs w hK => ⟨wants_none rfl, rho_out rfl rfl, trivial⟩) rfl (fun wq hI => by simp only [execOp, Option.map_some, Option.map_none, lk_tmp, lk_const, lkT_cons, ↓reduceIte, Nat.reduceEqDiff]; go_simp; (first | done | rfl)) ?_
  refine w_anyJ (FW.val (.int .i64 h)) (by decide) (fun vs wq hI hJ hK => ?_) ?_
  · have hA := hJ (by decide)
    exact ob_run [(18, _)] (wants_none rfl) ⟨rho_in rfl (fv (hK 0 (memE rfl))), trivial⟩ rfl (run_load_cell rfl rfl rfl Try.underlying3 rfl ((cell_of_row _ _ 33 _ _ _ hA.a).trans (cn_at33 HS.out))) ⟨Below.refl _ _, rfl⟩
  refine w_val [(19, _)] (_) (fun vs w hK => ⟨wants_none rfl, rho_in rfl (fv (hK 1 (memE rfl))), trivial⟩) rfl (fun wq hI => by exact op_and rfl rfl rfl (and32 h)) ?_
  refine w_val [(3, _)] _ (fun vs w hK => ⟨wants_none rfl, rho_out rfl rfl, trivial⟩) rfl (fun wq hI => by simp only [execOp, Option.map_some, Option.map_none, lk_tmp, lk_const, lkT_cons, ↓reduceIte, Nat.reduceEqDiff]; go_simp; (first | done | rfl)) ?_
  refine w_lin (FW.of (fun _ W => Bc w (cn c s (U h : Nat) p) (sp b i k) (pt id out) W) (fun _ _ _ h hb => h.below hb)) (by decide) (fun vs wq hI hJ hK => ?_) ?_
  · have hA := hJ (by decide) (by decide)
    exact ob_store_cell [(21, _), (20, _)] (wants_none rfl) ⟨rho_in rfl (fv (hK 3 (memE rfl))), rho_in rfl (fv (hK 2 (memE rfl))), trivial⟩ rfl rfl rfl rfl rfl ((cell_of_row _ _ 33 _ _ _ hA.a).trans (cn_at33 HS.out)) (by simp [World.frozen?, hA.a]) size3 ⟨trivial, hA.setA 33 _ (cn_set33 HS.out)⟩
  refine w_end rfl rfl rfl (fun vs wq hI hF => ?_)
  simp only [List.reverse_cons, List.reverse_nil, List.nil_append, List.cons_append, finL_val, finL_of, finL_any, finL_app, finL_new, finL_gr, finL_row, finL_box, finL_nil, Act.put, List.setIfInBounds_toArray, List.set_cons_zero, List.set_cons_succ, Nat.reduceAdd]
  have HB2 : Hid (Bc w (cn c s (U h : Nat) p) (sp b i k) (pt id out) wq) := Lib.hid (hF 4 (by decide) rfl)
  clear hI hF HB1
  go_upto_region 4 with fail
  refine plain_ (fun _ => True) (Bc w (cn c s (U h : Nat) p) (sp b i k) (pt id out)) reg_11_4 rfl (fun _ _ _ _ => trivial) (fun _ _ h hb => h.below hb) trivial HB2.out ?_
  refine w_val [(3, _)] _ (fun vs w hK => ⟨wants_none rfl, rho_out rfl rfl, trivial⟩) rfl (fun wq hI => by simp only [execOp, Option.map_some, Option.map_none, lk_tmp, lk_const, lkT_cons, ↓reduceIte, Nat.reduceEqDiff]; go_simp; (first | done | rfl)) ?_
  refine w_anyJ (FW.val (.int .i64 p)) (by decide) (fun vs wq hI hJ hK => ?_) ?_
  · have hA := hJ (by decide)
    exact ob_run [(22, _)] (wants_none rfl) ⟨rho_in rfl (fv (hK 0 (memE rfl))), trivial⟩ rfl (run_load_cell rfl rfl rfl Try.underlying3 rfl ((cell_of_row _ _ 34 _ _ _ hA.a).trans (cn_at34 HS.out))) ⟨Below.refl _ _, rfl⟩
  refine w_val [(23, _)] (_) (fun vs w hK => ⟨wants_none rfl, rho_in rfl (fv (hK 1 (memE rfl))), trivial⟩) rfl (fun wq hI => by exact op_and rfl rfl rfl (and32 p)) ?_
  refine w_val [(3, _)] _ (fun vs w hK => ⟨wants_none rfl, rho_out rfl rfl, trivial⟩) rfl (fun wq hI => by simp only [execOp, Option.map_some, Option.map_none, lk_tmp, lk_const, lkT_cons, ↓reduceIte, Nat.reduceEqDiff]; go_simp; (first | done | rfl)) ?_
  refine w_lin (FW.of (fun _ W => Bc w (cn c s (U h : Nat) (U p : Nat)) (sp b i k) (pt id out) W) (fun _ _ _ h hb => h.below hb)) (by decide) (fun vs wq hI hJ hK => ?_) ?_
  · have hA := hJ (by decide) (by decide)
    exact ob_store_cell [(25, _), (24, _)] (wants_none rfl) ⟨rho_in rfl (fv (hK 3 (memE rfl))), rho_in rfl (fv (hK 2 (memE rfl))), trivial⟩ rfl rfl rfl rfl rfl ((cell_of_row _ _ 34 _ _ _ hA.a).trans (cn_at34 HS.out)) (by simp [World.frozen?, hA.a]) size3 ⟨trivial, hA.setA 34 _ (cn_set34 HS.out)⟩
  refine w_end rfl rfl rfl (fun vs wq hI hF => ?_)
  simp only [List.reverse_cons, List.reverse_nil, List.nil_append, List.cons_append, finL_val, finL_of, finL_any, finL_app, finL_new, finL_gr, finL_row, finL_box, finL_nil, Act.put, List.setIfInBounds_toArray, List.set_cons_zero, List.set_cons_succ, Nat.reduceAdd]
  have HB3 : Hid (Bc w (cn c s (U h : Nat) (U p : Nat)) (sp b i k) (pt id out) wq) := Lib.hid (hF 4 (by decide) rfl)
  clear hI hF HB2
  go_upto_region 5 with fail
  refine plain_ (fun _ => True) (Bc w (cn c s (U h : Nat) (U p : Nat)) (sp b i k) (pt id out)) reg_11_5 rfl (fun _ _ _ _ => trivial) (fun _ _ h hb => h.below hb) trivial HB3.out ?_
  refine w_val [(4, _)] _ (fun vs w hK => ⟨wants_none rfl, rho_out rfl rfl, trivial⟩) rfl (fun wq hI => by simp only [execOp, Option.map_some, Option.map_none, lk_tmp, lk_const, lkT_cons, ↓reduceIte, Nat.reduceEqDiff]; go_simp; (first | done | rfl)) ?_
  refine w_anyJ (FW.val (.int .i64 i)) (by decide) (fun vs wq hI hJ hK => ?_) ?_
  · have hA := hJ (by decide)
    exact ob_run [(26, _)] (wants_none rfl) ⟨rho_in rfl (fv (hK 0 (memE rfl))), trivial⟩ rfl (run_load_cell rfl rfl rfl Try.underlying3 rfl ((cell_of_row _ _ 32 _ _ _ hA.b).trans (sp_at32 HBL.out))) ⟨Below.refl _ _, rfl⟩
  refine w_val [(27, _)] (_) (fun vs w hK => ⟨wants_none rfl, rho_in rfl (fv (hK 1 (memE rfl))), trivial⟩) rfl (fun wq hI => by exact op_and rfl rfl rfl (and32 i)) ?_
  refine w_val [(4, _)] _ (fun vs w hK => ⟨wants_none rfl, rho_out rfl rfl, trivial⟩) rfl (fun wq hI => by simp only [execOp, Option.map_some, Option.map_none, lk_tmp, lk_const, lkT_cons, ↓reduceIte, Nat.reduceEqDiff]; go_simp; (first | done | rfl)) ?_
  refine w_lin (FW.of (fun _ W => Bc w (cn c s (U h : Nat) (U p : Nat)) (sp b (U i : Nat) k) (pt id out) W) (fun _ _ _ h hb => h.below hb)) (by decide) (fun vs wq hI hJ hK => ?_) ?_
  · have hA := hJ (by decide) (by decide)
    exact ob_store_cell [(29, _), (28, _)] (wants_none rfl) ⟨rho_in rfl (fv (hK 3 (memE rfl))), rho_in rfl (fv (hK 2 (memE rfl))), trivial⟩ rfl rfl rfl rfl rfl ((cell_of_row _ _ 32 _ _ _ hA.b).trans (sp_at32 HBL.out)) (by simp [World.frozen?, hA.b]) size3 ⟨trivial, hA.setB 32 _ (sp_set32 HBL.out)⟩
  refine w_end rfl rfl rfl (fun vs wq hI hF => ?_)
  simp only [List.reverse_cons, List.reverse_nil, List.nil_append, List.cons_append, finL_val, finL_of, finL_any, finL_app, finL_new, finL_gr, finL_row, finL_box, finL_nil, Act.put, List.setIfInBounds_toArray, List.set_cons_zero, List.set_cons_succ, Nat.reduceAdd]
  have HB4 : Hid (Bc w (cn c s (U h : Nat) (U p : Nat)) (sp b (U i : Nat) k) (pt id out) wq) := Lib.hid (hF 4 (by decide) rfl)
  clear hI hF HB3
  go_upto_region 6 with fail
  refine plain_ (fun _ => True) (Bc w (cn c s (U h : Nat) (U p : Nat)) (sp b (U i : Nat) k) (pt id out)) reg_11_6 rfl (fun _ _ _ _ => trivial) (fun _ _ h hb => h.below hb) trivial HB4.out ?_
  refine w_val [(4, _)] _ (fun vs w hK => ⟨wants_none rfl, rho_out rfl rfl, trivial⟩) rfl (fun wq hI => by simp only [execOp, Option.map_some, Option.map_none, lk_tmp, lk_const, lkT_cons, ↓reduceIte, Nat.reduceEqDiff]; go_simp; (first | done | rfl)) ?_
  refine w_anyJ (FW.val (.int .i64 k)) (by decide) (fun vs wq hI hJ hK => ?_) ?_
  · have hA := hJ (by decide)
    exact ob_run [(30, _)] (wants_none rfl) ⟨rho_in rfl (fv (hK 0 (memE rfl))), trivial⟩ rfl (run_load_cell rfl rfl rfl Try.underlying3 rfl ((cell_of_row _ _ 33 _ _ _ hA.b).trans (sp_at33 HBL.out))) ⟨Below.refl _ _, rfl⟩
  refine w_val [(31, _)] (_) (fun vs w hK => ⟨wants_none rfl, rho_in rfl (fv (hK 1 (memE rfl))), trivial⟩) rfl (fun wq hI => by exact op_and rfl rfl rfl (and32 k)) ?_
  refine w_val [(4, _)] _ (fun vs w hK => ⟨wants_none rfl, rho_out rfl rfl, trivial⟩) rfl (fun wq hI => by simp only [execOp, Option.map_some, Option.map_none, lk_tmp, lk_const, lkT_cons, ↓reduceIte, Nat.reduceEqDiff]; go_simp; (first | done | rfl)) ?_
  refine w_lin (FW.of (fun _ W => Bc w (cn c s (U h : Nat) (U p : Nat)) (sp b (U i : Nat) (U k : Nat)) (pt id out) W) (fun _ _ _ h hb => h.below hb)) (by decide) (fun vs wq hI hJ hK => ?_) ?_
  · have hA := hJ (by decide) (by decide)
    exact ob_store_cell [(33, _), (32, _)] (wants_none rfl) ⟨rho_in rfl (fv (hK 3 (memE rfl))), rho_in rfl (fv (hK 2 (memE rfl))), trivial⟩ rfl rfl rfl rfl rfl ((cell_of_row _ _ 33 _ _ _ hA.b).trans (sp_at33 HBL.out)) (by simp [World.frozen?, hA.b]) size3 ⟨trivial, hA.setB 33 _ (sp_set33 HBL.out)⟩
  refine w_end rfl rfl rfl (fun vs wq hI hF => ?_)
  simp only [List.reverse_cons, List.reverse_nil, List.nil_append, List.cons_append, finL_val, finL_of, finL_any, finL_app, finL_new, finL_gr, finL_row, finL_box, finL_nil, Act.put, List.setIfInBounds_toArray, List.set_cons_zero, List.set_cons_succ, Nat.reduceAdd]
  have HB5 : Hid (Bc w (cn c s (U h : Nat) (U p : Nat)) (sp b (U i : Nat) (U k : Nat)) (pt id out) wq) := Lib.hid (hF 4 (by decide) rfl)
  clear hI hF HB4
  have hsb : Byte s := byte_wf hsw
  have hbb : Byte b := byte_wf hbw
  have hib : Byte id := byte_wf hidw
  have hc2 := wf_i64 hcw
  have ho := wf_u32 how
  have hzs : (strOfNums s).size = 32 := by rw [strOfNums_size, hs]
  have hzb : (strOfNums b).size = 32 := by rw [strOfNums_size, hb]
  have hzi : (strOfNums id).size = 32 := by rw [strOfNums_size, hid]
  have hUo : ((U out : Nat) : Int) = out := by unfold U; omega
  have hpc := PC_CR c hc2 s hs hsb (U h : Nat) (U p : Nat)
  have hps := PS_SR b hb hbb (U i : Nat) (U k : Nat)
  have hpu := PU_UR id hid hib out ho c hc2 s hs hsb (U h : Nat) (U p : Nat)
  rw [U_U, U_U] at hpc hps hpu
  have hcr := CR_eq c s (U h : Nat) (U p : Nat)
  have hUh := U_lt h
  have hUp := U_lt p
  have hUi := U_lt i
  have hUk := U_lt k
  have CRow := Lib.hid (fun wq => coinRow_any c s hs (U h : Nat) (U p : Nat) wq)
  have SRow := Lib.hid (fun wq => spendRow_any b hb (U i : Nat) (U k : Nat) wq)
  have URow := Lib.hid (fun wq => undoRow_any id hid out ho c s hs (U h : Nat) (U p : Nat) wq)
  have hcs := CR_size c s hs (U h : Nat) (U p : Nat)
  have hss := SR_size hb (U i : Nat) (U k : Nat)
  have PCon := parseCoin_any (CR c s (U h : Nat) (U p : Nat)) (by omega)
  have PSp := parseSpend_any (SR b (U i : Nat) (U k : Nat)) (by omega)
  have PUn := parseUndo_any (strOfNums id ++ F4 out ++ CR c s (U h : Nat) (U p : Nat)) (by rw [ByteArray.size_append, ByteArray.size_append, hzi, F4_size, hcs]; omega)
  rw [hpc] at PCon
  rw [hps] at PSp
  rw [hpu] at PUn
  generalize hgh : ((U h : Nat) : Int) = uh at *
  generalize hgp : ((U p : Nat) : Int) = up at *
  generalize hgi : ((U i : Nat) : Int) = ui at *
  generalize hgk : ((U k : Nat) : Int) = uk at *
  have hhi : hi c < 4294967296 := by unfold hi; have := U8_lt c; omega
  have hlo : lo c < 4294967296 := by unfold lo; omega
  have hshr : ((U8 c : Nat) : Int) / 2 ^ min (32 : Int).toNat IntKind.u64.bits = ((hi c : Nat) : Int) := by
    have e : min (32 : Int).toNat IntKind.u64.bits = 32 := by simp [IntKind.bits]
    rw [e]
    unfold hi
    omega
  have hwh : IntKind.i64.wrap ((hi c : Nat) : Int) = ((hi c : Nat) : Int) := i64_id (by omega) (by omega)
  have hwl : IntKind.i64.wrap ((lo c : Nat) : Int) = ((lo c : Nat) : Int) := i64_id (by omega) (by omega)
  have hand : Go.bits .and .u64 ((U8 c : Nat) : Int) 4294967295 = ((lo c : Nat) : Int) := and32u _ (U8_lt c)
  have hwo : IntKind.i64.wrap out = out := i64_id (by omega) (by omega)
  have HWU := Lib.hid (wrap_U8 c)
  generalize U8 c = u8 at HWU hshr hand
  generalize hi c = ch at hshr hwh hcr hhi
  generalize lo c = cl at hand hwl hcr hlo
  obtain ⟨Wn, hWn⟩ : ∃ Wn, Wn = F4 (ch : Nat) ++ F4 (cl : Nat) ++ strOfNums s ++ F4 uh ++ F4 up := ⟨_, rfl⟩
  rw [← hWn] at hcr
  have HSHR := Lib.hid hshr
  have HWH := Lib.hid hwh
  have HWL := Lib.hid hwl
  have HAND := Lib.hid hand
  have HWO := Lib.hid hwo
  have HCR := Lib.hid hcr
  have HWN := Lib.hid hWn
  have HZS := Lib.hid hzs
  have HZB := Lib.hid hzb
  have HZI := Lib.hid hzi
  have HSR : Hid (SR b ui uk = strOfNums b ++ F4 ui ++ F4 uk) := Lib.hid rfl
  have HCS := Lib.hid hcs
  have HWS : Hid (Wn.size = 48) := Lib.hid (by rw [← hcr]; exact hcs)
  have PCO := Lib.hid PCon
  have PSO := Lib.hid PSp
  have PUO := Lib.hid PUn
  clear hshr hwh hwl hand hwo hcr hWn hzs hzb hzi hcs hss PCon PSp PUn hpc hps hpu hsw hbw hidw hcw how hc2 hhi hlo hgh hgp hgi hgk hUh hUp hUi hUk hUo hs hb hid hsb hbb hib
  obtain ⟨w2, rfl⟩ : ∃ w2 : World, w2 = wq := ⟨_, rfl⟩
  go_upto_region 7 with fail
  refine plain_ _ (fun _ => True) reg_11_7 rfl inv0 (fun _ _ _ _ => trivial) (Below.refl _ _) trivial ?_
  refine w_val [(3, _)] _ (fun vs w hK => ⟨wants_none rfl, rho_out rfl rfl, trivial⟩) rfl (fun wq hI => by simp only [execOp, Option.map_some, Option.map_none, lk_tmp, lk_const, lkT_cons, ↓reduceIte, Nat.reduceEqDiff]; go_simp; (first | done | rfl)) ?_
  refine w_val [(34, _)] (.int .i64 c) (fun vs w hK => ⟨wants_none rfl, rho_in rfl (fv (hK 0 (memE rfl))), trivial⟩) rfl (fun wq hI => by exact run_load_cell rfl rfl rfl Try.underlying2 rfl ((cell_of_row _ _ 0 _ _ _ (HB5.out.below hI).a).trans cn_at0)) ?_
  refine w_val [(35, _)] (_) (fun vs w hK => ⟨wants_none rfl, rho_in rfl (fv (hK 1 (memE rfl))), trivial⟩) rfl (fun wq hI => by exact op_conv_int rfl Try.underlying2 Try.underlying24 rfl HWU.out) ?_
  refine w_move (.inr rfl) (fun vs w hK => ⟨wants_none rfl, rho_in rfl (fv (hK 2 (memE rfl)))⟩) ?_
  refine w_end rfl rfl rfl (fun vs wq hI hF => ?_)
  simp only [List.reverse_cons, List.reverse_nil, List.nil_append, List.cons_append, finL_val, finL_of, finL_any, finL_app, finL_new, finL_gr, finL_row, finL_box, finL_nil, Act.put, List.setIfInBounds_toArray, List.set_cons_zero, List.set_cons_succ, Nat.reduceAdd]
  have HB6 := Lib.hid (HB5.out.below hI)
  clear hI hF HB5
  obtain ⟨w3, rfl⟩ : ∃ w3 : World, w3 = wq := ⟨_, rfl⟩
  go_upto_region 8 with fail
  refine draws_ _ (fun _ => True) (by kernel_rfl) reg_11_8 rfl inv0 (fun _ _ _ _ => trivial) (below_drew (Below.refl _ _)) trivial ?_
  refine w_move (.inl rfl) (fun vs w hK => ⟨wants_none rfl, rho_out rfl rfl⟩) ?_
  refine w_val [(37, _)] (_) (fun vs w hK => ⟨wants_none rfl, rho_in rfl (fv (hK 0 (memE rfl))), trivial⟩) rfl (fun wq hI => by exact op_shr rfl rfl rfl (by decide) HSHR.out) ?_
  refine w_val [(38, _)] (_) (fun vs w hK => ⟨wants_none rfl, rho_in rfl (fv (hK 1 (memE rfl))), trivial⟩) rfl (fun wq hI => by exact op_conv_int rfl Try.underlying24 Try.underlying3 rfl HWH.out) ?_
  refine w_call [(39, _)] _ _ (by decide) (fun vs w hK => ⟨wants_none rfl, rho_in rfl (fv (hK 2 (memE rfl))), trivial⟩) rfl rfl Try.func29 (by kernel_rfl) rfl (fun wq hI => lawfour_any _ wq) (margs rfl) ?_
  refine w_move (.inl rfl) (fun vs w hK => ⟨wants_none rfl, rho_out rfl rfl⟩) ?_
  refine w_val [(41, _)] (_) (fun vs w hK => ⟨wants_none rfl, rho_in rfl (fv (hK 4 (memE rfl))), trivial⟩) rfl (fun wq hI => by exact op_and rfl rfl rfl HAND.out) ?_
  refine w_val [(42, _)] (_) (fun vs w hK => ⟨wants_none rfl, rho_in rfl (fv (hK 5 (memE rfl))), trivial⟩) rfl (fun wq hI => by exact op_conv_int rfl Try.underlying24 Try.underlying3 rfl HWL.out) ?_
  refine w_call [(43, _)] _ _ (by decide) (fun vs w hK => ⟨wants_none rfl, rho_in rfl (fv (hK 6 (memE rfl))), trivial⟩) rfl rfl Try.func29 (by kernel_rfl) rfl (fun wq hI => lawfour_any _ wq) (margs rfl) ?_
  refine w_val [(40, _), (44, _)] (_) (fun vs w hK => ⟨wants_none rfl, rho_in rfl (fv (hK 3 (memE rfl))), rho_in rfl (fv (hK 7 (memE rfl))), trivial⟩) rfl (fun wq hI => by exact run_cat_op rfl rfl rfl (by rw [F4_size, F4_size]; omega)) ?_
  refine w_val [(3, _)] _ (fun vs w hK => ⟨wants_none rfl, rho_out rfl rfl, trivial⟩) rfl (fun wq hI => by simp only [execOp, Option.map_some, Option.map_none, lk_tmp, lk_const, lkT_cons, ↓reduceIte, Nat.reduceEqDiff]; go_simp; (first | done | rfl)) ?_
  refine w_val [(46, _)] _ (fun vs w hK => ⟨wants_none rfl, rho_in rfl (fv (hK 9 (memE rfl))), trivial⟩) rfl (fun wq hI => by simp only [execOp, Option.map_some, Option.map_none, lk_tmp, lk_const, lkT_cons, ↓reduceIte, Nat.reduceEqDiff]; go_simp; (first | done | rfl)) ?_
  refine w_val [(47, _)] (.string (strOfNums s)) (fun vs w hK => ⟨wants_none rfl, rho_in rfl (fv (hK 10 (memE rfl))), trivial⟩) rfl (fun wq hI => by exact run_conv_op rfl rfl (conv_rds tb Try.underlying5 Try.underlying9 (rds_block (o := 1) (HB6.out.below hI).a (cn_mid HS.out) HS.out (by omega)))) ?_
  refine w_val [(45, _), (48, _)] (_) (fun vs w hK => ⟨wants_none rfl, rho_in rfl (fv (hK 8 (memE rfl))), rho_in rfl (fv (hK 11 (memE rfl))), trivial⟩) rfl (fun wq hI => by exact run_cat_op rfl rfl rfl (by rw [ByteArray.size_append, F4_size, F4_size, HZS.out]; omega)) ?_
  refine w_val [(3, _)] _ (fun vs w hK => ⟨wants_none rfl, rho_out rfl rfl, trivial⟩) rfl (fun wq hI => by simp only [execOp, Option.map_some, Option.map_none, lk_tmp, lk_const, lkT_cons, ↓reduceIte, Nat.reduceEqDiff]; go_simp; (first | done | rfl)) ?_
  refine w_val [(50, _)] (.int .i64 uh) (fun vs w hK => ⟨wants_none rfl, rho_in rfl (fv (hK 13 (memE rfl))), trivial⟩) rfl (fun wq hI => by exact run_load_cell rfl rfl rfl Try.underlying3 rfl ((cell_of_row _ _ 33 _ _ _ (HB6.out.below hI).a).trans (cn_at33 HS.out))) ?_
  refine w_call [(51, _)] _ _ (by decide) (fun vs w hK => ⟨wants_none rfl, rho_in rfl (fv (hK 14 (memE rfl))), trivial⟩) rfl rfl Try.func29 (by kernel_rfl) rfl (fun wq hI => lawfour_any _ wq) (margs rfl) ?_
  refine w_val [(49, _), (52, _)] (_) (fun vs w hK => ⟨wants_none rfl, rho_in rfl (fv (hK 12 (memE rfl))), rho_in rfl (fv (hK 15 (memE rfl))), trivial⟩) rfl (fun wq hI => by exact run_cat_op rfl rfl rfl (by rw [ByteArray.size_append, ByteArray.size_append, F4_size, F4_size, F4_size, HZS.out]; omega)) ?_
  refine w_val [(3, _)] _ (fun vs w hK => ⟨wants_none rfl, rho_out rfl rfl, trivial⟩) rfl (fun wq hI => by simp only [execOp, Option.map_some, Option.map_none, lk_tmp, lk_const, lkT_cons, ↓reduceIte, Nat.reduceEqDiff]; go_simp; (first | done | rfl)) ?_
  refine w_val [(54, _)] (.int .i64 up) (fun vs w hK => ⟨wants_none rfl, rho_in rfl (fv (hK 17 (memE rfl))), trivial⟩) rfl (fun wq hI => by exact run_load_cell rfl rfl rfl Try.underlying3 rfl ((cell_of_row _ _ 34 _ _ _ (HB6.out.below hI).a).trans (cn_at34 HS.out))) ?_
  refine w_call [(55, _)] _ _ (by decide) (fun vs w hK => ⟨wants_none rfl, rho_in rfl (fv (hK 18 (memE rfl))), trivial⟩) rfl rfl Try.func29 (by kernel_rfl) rfl (fun wq hI => lawfour_any _ wq) (margs rfl) ?_
  refine w_val [(53, _), (56, _)] (.string Wn) (fun vs w hK => ⟨wants_none rfl, rho_in rfl (fv (hK 16 (memE rfl))), rho_in rfl (fv (hK 19 (memE rfl))), trivial⟩) rfl (fun wq hI => by (rw [HWN.out]; exact run_cat_op rfl rfl rfl (by rw [ByteArray.size_append, ByteArray.size_append, ByteArray.size_append, F4_size, F4_size, F4_size, F4_size, HZS.out]; omega))) ?_
  refine w_move (.inr rfl) (fun vs w hK => ⟨wants_none rfl, rho_in rfl (fv (hK 20 (memE rfl)))⟩) ?_
  refine w_end rfl rfl rfl (fun vs wq hI hF => ?_)
  simp only [List.reverse_cons, List.reverse_nil, List.nil_append, List.cons_append, finL_val, finL_of, finL_any, finL_app, finL_new, finL_gr, finL_row, finL_box, finL_nil, Act.put, List.setIfInBounds_toArray, List.set_cons_zero, List.set_cons_succ, Nat.reduceAdd]
  have HB7 := Lib.hid (HB6.out.below hI)
  clear hI hF HB6
  obtain ⟨w4, rfl⟩ : ∃ w4 : World, w4 = wq := ⟨_, rfl⟩
  go_upto_region 9 with fail
  refine draws_ _ (fun _ => True) (by kernel_rfl) reg_11_9 rfl inv0 (fun _ _ _ _ => trivial) (below_drew (Below.refl _ _)) trivial ?_
  refine w_val [(3, _)] (.agg (cn c s uh up).toArray) (fun vs w hK => ⟨wants_none rfl, rho_out rfl rfl, trivial⟩) rfl (fun wq hI => by exact run_load_op rfl rfl (load_cn HS.out (HB7.out.below hI).a)) ?_
  refine w_call [(58, _)] _ _ (by decide) (fun vs w hK => ⟨wants_none rfl, rho_in rfl (fv (hK 0 (memE rfl))), trivial⟩) rfl rfl Try.func42 (by kernel_rfl) rfl (fun wq hI => CRow.out wq) (margs rfl) ?_
  refine w_move (.inl rfl) (fun vs w hK => ⟨wants_none rfl, rho_out rfl rfl⟩) ?_
  refine w_val [(59, _), (60, _)] (.bool false) (fun vs w hK => ⟨wants_none rfl, rho_in rfl (fv (hK 1 (memE rfl))), rho_in rfl (fv (hK 2 (memE rfl))), trivial⟩) rfl (fun wq hI => by exact run_neq_same rfl rfl rfl HCR.out) ?_
  refine w_move (.inl rfl) (fun vs w hK => ⟨wants_none rfl, rho_in rfl (fv (hK 3 (memE rfl)))⟩) ?_
  refine w_val [(4, _)] (.agg (sp b ui uk).toArray) (fun vs w hK => ⟨wants_g rfl (fv (hK 4 (memE rfl))), rho_out rfl rfl, trivial⟩) rfl (fun wq hI => by exact run_load_op rfl rfl (load_sp HBL.out (HB7.out.below hI).b)) ?_
  refine w_call [(63, _)] _ _ (by decide) (fun vs w hK => ⟨wants_g rfl (fv (hK 4 (memE rfl))), rho_in rfl (fv (hK 5 (memE rfl))), trivial⟩) rfl rfl Try.func43 (by kernel_rfl) rfl (fun wq hI => SRow.out wq) (margs rfl) ?_
  refine w_val [(4, _)] _ (fun vs w hK => ⟨wants_g rfl (fv (hK 4 (memE rfl))), rho_out rfl rfl, trivial⟩) rfl (fun wq hI => by simp only [execOp, Option.map_some, Option.map_none, lk_tmp, lk_const, lkT_cons, ↓reduceIte, Nat.reduceEqDiff]; go_simp; (first | done | rfl)) ?_
  refine w_val [(65, _)] _ (fun vs w hK => ⟨wants_g rfl (fv (hK 4 (memE rfl))), rho_in rfl (fv (hK 7 (memE rfl))), trivial⟩) rfl (fun wq hI => by simp only [execOp, Option.map_some, Option.map_none, lk_tmp, lk_const, lkT_cons, ↓reduceIte, Nat.reduceEqDiff]; go_simp; (first | done | rfl)) ?_
  refine w_val [(66, _)] (.string (strOfNums b)) (fun vs w hK => ⟨wants_g rfl (fv (hK 4 (memE rfl))), rho_in rfl (fv (hK 8 (memE rfl))), trivial⟩) rfl (fun wq hI => by exact run_conv_op rfl rfl (conv_rds tb Try.underlying5 Try.underlying9 (rds_block (o := 0) (HB7.out.below hI).b (sp_mid HBL.out) HBL.out (by omega)))) ?_
  refine w_val [(4, _)] _ (fun vs w hK => ⟨wants_g rfl (fv (hK 4 (memE rfl))), rho_out rfl rfl, trivial⟩) rfl (fun wq hI => by simp only [execOp, Option.map_some, Option.map_none, lk_tmp, lk_const, lkT_cons, ↓reduceIte, Nat.reduceEqDiff]; go_simp; (first | done | rfl)) ?_
  refine w_val [(68, _)] (.int .i64 ui) (fun vs w hK => ⟨wants_g rfl (fv (hK 4 (memE rfl))), rho_in rfl (fv (hK 10 (memE rfl))), trivial⟩) rfl (fun wq hI => by exact run_load_cell rfl rfl rfl Try.underlying3 rfl ((cell_of_row _ _ 32 _ _ _ (HB7.out.below hI).b).trans (sp_at32 HBL.out))) ?_
  refine w_call [(69, _)] _ _ (by decide) (fun vs w hK => ⟨wants_g rfl (fv (hK 4 (memE rfl))), rho_in rfl (fv (hK 11 (memE rfl))), trivial⟩) rfl rfl Try.func29 (by kernel_rfl) rfl (fun wq hI => lawfour_any _ wq) (margs rfl) ?_
  refine w_val [(67, _), (70, _)] (_) (fun vs w hK => ⟨wants_g rfl (fv (hK 4 (memE rfl))), rho_in rfl (fv (hK 9 (memE rfl))), rho_in rfl (fv (hK 12 (memE rfl))), trivial⟩) rfl (fun wq hI => by exact run_cat_op rfl rfl rfl (by rw [F4_size, HZB.out]; omega)) ?_
  refine w_val [(4, _)] _ (fun vs w hK => ⟨wants_g rfl (fv (hK 4 (memE rfl))), rho_out rfl rfl, trivial⟩) rfl (fun wq hI => by simp only [execOp, Option.map_some, Option.map_none, lk_tmp, lk_const, lkT_cons, ↓reduceIte, Nat.reduceEqDiff]; go_simp; (first | done | rfl)) ?_
  refine w_val [(72, _)] (.int .i64 uk) (fun vs w hK => ⟨wants_g rfl (fv (hK 4 (memE rfl))), rho_in rfl (fv (hK 14 (memE rfl))), trivial⟩) rfl (fun wq hI => by exact run_load_cell rfl rfl rfl Try.underlying3 rfl ((cell_of_row _ _ 33 _ _ _ (HB7.out.below hI).b).trans (sp_at33 HBL.out))) ?_
  refine w_call [(73, _)] _ _ (by decide) (fun vs w hK => ⟨wants_g rfl (fv (hK 4 (memE rfl))), rho_in rfl (fv (hK 15 (memE rfl))), trivial⟩) rfl rfl Try.func29 (by kernel_rfl) rfl (fun wq hI => lawfour_any _ wq) (margs rfl) ?_
  refine w_val [(71, _), (74, _)] (_) (fun vs w hK => ⟨wants_g rfl (fv (hK 4 (memE rfl))), rho_in rfl (fv (hK 13 (memE rfl))), rho_in rfl (fv (hK 16 (memE rfl))), trivial⟩) rfl (fun wq hI => by exact run_cat_op rfl rfl rfl (by rw [ByteArray.size_append, F4_size, F4_size, HZB.out]; omega)) ?_
  refine w_val [(64, _), (75, _)] (.bool false) (fun vs w hK => ⟨wants_g rfl (fv (hK 4 (memE rfl))), rho_in rfl (fv (hK 6 (memE rfl))), rho_in rfl (fv (hK 17 (memE rfl))), trivial⟩) rfl (fun wq hI => by exact run_neq_same rfl rfl rfl HSR.out) ?_
  refine w_pick (b := false) rfl (fun vs w hK => ⟨wants_none rfl, (rho_in rfl (fv (hK 4 (memE rfl)))), (rho_in rfl (fv (hK 18 (memE rfl))))⟩) ?_
  refine w_move (.inl rfl) (fun vs w hK => ⟨wants_none rfl, rho_in rfl (fv (hK 19 (memE rfl)))⟩) ?_
  refine w_val [(5, _)] (.agg (pt id out).toArray) (fun vs w hK => ⟨wants_g rfl (fv (hK 20 (memE rfl))), rho_out rfl rfl, trivial⟩) rfl (fun wq hI => by exact run_load_op rfl rfl (load_pt HID.out (HB7.out.below hI).c)) ?_
  refine w_val [(3, _)] (.agg (cn c s uh up).toArray) (fun vs w hK => ⟨wants_g rfl (fv (hK 20 (memE rfl))), rho_out rfl rfl, trivial⟩) rfl (fun wq hI => by exact run_load_op rfl rfl (load_cn HS.out (HB7.out.below hI).a)) ?_
  refine w_call [(79, _), (80, _)] _ _ (by decide) (fun vs w hK => ⟨wants_g rfl (fv (hK 20 (memE rfl))), rho_in rfl (fv (hK 21 (memE rfl))), rho_in rfl (fv (hK 22 (memE rfl))), trivial⟩) rfl rfl Try.func44 (by kernel_rfl) rfl (fun wq hI => URow.out wq) (margs rfl) ?_
  refine w_val [(5, _)] _ (fun vs w hK => ⟨wants_g rfl (fv (hK 20 (memE rfl))), rho_out rfl rfl, trivial⟩) rfl (fun wq hI => by simp only [execOp, Option.map_some, Option.map_none, lk_tmp, lk_const, lkT_cons, ↓reduceIte, Nat.reduceEqDiff]; go_simp; (first | done | rfl)) ?_
  refine w_val [(82, _)] _ (fun vs w hK => ⟨wants_g rfl (fv (hK 20 (memE rfl))), rho_in rfl (fv (hK 24 (memE rfl))), trivial⟩) rfl (fun wq hI => by simp only [execOp, Option.map_some, Option.map_none, lk_tmp, lk_const, lkT_cons, ↓reduceIte, Nat.reduceEqDiff]; go_simp; (first | done | rfl)) ?_
  refine w_val [(83, _)] (.string (strOfNums id)) (fun vs w hK => ⟨wants_g rfl (fv (hK 20 (memE rfl))), rho_in rfl (fv (hK 25 (memE rfl))), trivial⟩) rfl (fun wq hI => by exact run_conv_op rfl rfl (conv_rds tb Try.underlying5 Try.underlying9 (rds_block (o := 0) (HB7.out.below hI).c (by simp only [pt, List.drop_zero]; exact List.take_left' (by simp [nums, HID.out])) HID.out (by omega)))) ?_
  refine w_val [(5, _)] _ (fun vs w hK => ⟨wants_g rfl (fv (hK 20 (memE rfl))), rho_out rfl rfl, trivial⟩) rfl (fun wq hI => by simp only [execOp, Option.map_some, Option.map_none, lk_tmp, lk_const, lkT_cons, ↓reduceIte, Nat.reduceEqDiff]; go_simp; (first | done | rfl)) ?_
  refine w_val [(85, _)] (.int .u32 out) (fun vs w hK => ⟨wants_g rfl (fv (hK 20 (memE rfl))), rho_in rfl (fv (hK 27 (memE rfl))), trivial⟩) rfl (fun wq hI => by exact run_load_cell rfl rfl rfl Try.underlying37 rfl ((cell_of_row _ _ 32 _ _ _ (HB7.out.below hI).c).trans (pt_at HID.out))) ?_
  refine w_val [(86, _)] (_) (fun vs w hK => ⟨wants_g rfl (fv (hK 20 (memE rfl))), rho_in rfl (fv (hK 28 (memE rfl))), trivial⟩) rfl (fun wq hI => by exact op_conv_int rfl Try.underlying37 Try.underlying3 rfl HWO.out) ?_
  refine w_call [(87, _)] _ _ (by decide) (fun vs w hK => ⟨wants_g rfl (fv (hK 20 (memE rfl))), rho_in rfl (fv (hK 29 (memE rfl))), trivial⟩) rfl rfl Try.func29 (by kernel_rfl) rfl (fun wq hI => lawfour_any _ wq) (margs rfl) ?_
  refine w_val [(84, _), (88, _)] (_) (fun vs w hK => ⟨wants_g rfl (fv (hK 20 (memE rfl))), rho_in rfl (fv (hK 26 (memE rfl))), rho_in rfl (fv (hK 30 (memE rfl))), trivial⟩) rfl (fun wq hI => by exact run_cat_op rfl rfl rfl (by rw [F4_size, HZI.out]; omega)) ?_
  refine w_move (.inl rfl) (fun vs w hK => ⟨wants_g rfl (fv (hK 20 (memE rfl))), rho_out rfl rfl⟩) ?_
  refine w_val [(89, _), (90, _)] (_) (fun vs w hK => ⟨wants_g rfl (fv (hK 20 (memE rfl))), rho_in rfl (fv (hK 31 (memE rfl))), rho_in rfl (fv (hK 32 (memE rfl))), trivial⟩) rfl (fun wq hI => by exact run_cat_op rfl rfl rfl (by rw [ByteArray.size_append, F4_size, HZI.out, HWS.out]; omega)) ?_
  refine w_val [(81, _), (91, _)] (.bool false) (fun vs w hK => ⟨wants_g rfl (fv (hK 20 (memE rfl))), rho_in rfl (fv (hK 23 (memE rfl))), rho_in rfl (fv (hK 33 (memE rfl))), trivial⟩) rfl (fun wq hI => by exact run_neq_same rfl rfl rfl (by rw [HCR.out])) ?_
  refine w_pick (b := false) rfl (fun vs w hK => ⟨wants_none rfl, (rho_in rfl (fv (hK 20 (memE rfl)))), (rho_in rfl (fv (hK 34 (memE rfl))))⟩) ?_
  refine w_end rfl rfl rfl (fun vs wq hI hF => ?_)
  simp only [List.reverse_cons, List.reverse_nil, List.nil_append, List.cons_append, finL_val, finL_of, finL_any, finL_app, finL_new, finL_gr, finL_row, finL_box, finL_nil, Act.put, List.setIfInBounds_toArray, List.set_cons_zero, List.set_cons_succ, Nat.reduceAdd]
  have HB8 := Lib.hid (HB7.out.below hI)
  clear hI hF HB7
  obtain ⟨w5, rfl⟩ : ∃ w5 : World, w5 = wq := ⟨_, rfl⟩
  have HLC : Hid ((cn c s uh up).length = 35) := Lib.hid (cn_length HS.out _ _)
  have HLS : Hid ((sp b ui uk).length = 34) := Lib.hid (sp_length HBL.out _ _)
  have HLP : Hid ((pt id out).length = 33) := Lib.hid (pt_length HID.out _)
  go_wp2_with (refine wpList_load_box rfl 56 (.tmp 3) rfl w.heap.size (cn c s uh up) rfl HB8.out.a Try.underlying56 rfl (by rw [HLC.out]; exact size56) ?_)
  refine (CRow.out _).mono ?_
  rintro e w6 ⟨rfl, hb6⟩
  have HB9 := Lib.hid (HB8.out.below hb6)
  clear hb6 HB8
  go_wp2_with fail
  refine (PCO.out _).mono ?_
  rintro e w7 ⟨rfl, hb7⟩
  have HB10 := Lib.hid (HB9.out.below hb7)
  clear hb7 HB9
  go_upto_region 12 with (refine wpList_store_box rfl 56 (.tmp 9) (.tmp 98) rfl w7.heap.size (cn c s uh up) rfl rfl (heap_alloc_new w7 _) (by rw [HLC.out]; rfl) (by rw [HLC.out]; exact size56) (cn_one _ _ _ _) ?_; intro w8 hs8; have HS8 := Lib.hid hs8; clear hs8)
  have hb8 : Below w7.heap.size w7 w8 := HS8.out.then_ (below_alloc (Below.refl _ _) _) (Nat.le_refl _)
  have HB11 := Lib.hid (HB10.out.below hb8)
  have HX8 := Lib.hid HS8.out.at_
  clear hb8 HS8 HB10
  generalize w7.heap.size = p8 at HX8 ⊢
  go_wp2_with (refine wpList_load_box rfl 58 (.tmp 4) rfl (w.heap.size + 1) (sp b ui uk) rfl HB11.out.b Try.underlying58 rfl (by rw [HLS.out]; exact size58) ?_)
  refine (SRow.out _).mono ?_
  rintro e w9 ⟨rfl, hb9⟩
  have HB12 := Lib.hid (HB11.out.below hb9)
  have HX9 := Lib.hid (box_stays HX8.out hb9)
  clear hb9 HB11 HX8
  go_wp2_with fail
  refine (PSO.out _).mono ?_
  rintro e w10 ⟨rfl, hb10⟩
  have HB13 := Lib.hid (HB12.out.below hb10)
  have HX10 := Lib.hid (box_stays HX9.out hb10)
  clear hb10 HB12 HX9
  go_upto_region 13 with (refine wpList_store_box rfl 58 (.tmp 11) (.tmp 104) rfl w10.heap.size (sp b ui uk) rfl rfl (heap_alloc_new w10 _) (by rw [HLS.out]; rfl) (by rw [HLS.out]; exact size58) (sp_one _ _ _) ?_; intro w11 hs11; have HS11 := Lib.hid hs11; clear hs11)
  have hb11 : Below w10.heap.size w10 w11 := HS11.out.then_ (below_alloc (Below.refl _ _) _) (Nat.le_refl _)
  have HB14 := Lib.hid (HB13.out.below hb11)
  have HX11 := Lib.hid (box_stays HX10.out hb11)
  have HY11 := Lib.hid HS11.out.at_
  clear hb11 HS11 HB13 HX10
  generalize w10.heap.size = p11 at HY11 ⊢
  go_wp2_with (first
    | (refine wpList_load_box rfl 39 (.tmp 5) rfl (w.heap.size + 2) (pt id out) rfl HB14.out.c Try.underlying39 rfl (by rw [HLP.out]; exact size39) ?_)
    | (refine wpList_load_box rfl 56 (.tmp 3) rfl w.heap.size (cn c s uh up) rfl HB14.out.a Try.underlying56 rfl (by rw [HLC.out]; exact size56) ?_))
  refine (URow.out _).mono ?_
  rintro e w12 ⟨rfl, hb12⟩
  have HB15 := Lib.hid (HB14.out.below hb12)
  have HX12 := Lib.hid (box_stays HX11.out hb12)
  have HY12 := Lib.hid (box_stays HY11.out hb12)
  clear hb12 HB14 HX11 HY11
  go_wp2_with fail
  refine (PUO.out _).mono ?_
  rintro e w13 ⟨rfl, hb13⟩
  have HB16 := Lib.hid (HB15.out.below hb13)
  have HX13 := Lib.hid (box_stays HX12.out hb13)
  have HY13 := Lib.hid (box_stays HY12.out hb13)
  clear hb13 HB15 HX12 HY12
  have hxa : ((w13.alloc (.cells (pt z32 0).toArray 39)).alloc (.cells (cn 0 z32 0 0).toArray 56)).heap[w13.heap.size]? = some (.cells (pt z32 0).toArray 39) := (heap_alloc_old _ _ (by simp)).trans (heap_alloc_new w13 _)
  have hxb : ((w13.alloc (.cells (pt z32 0).toArray 39)).alloc (.cells (cn 0 z32 0 0).toArray 56)).heap[w13.heap.size + 1]? = some (.cells (cn 0 z32 0 0).toArray 56) := by have := heap_alloc_new (w13.alloc (.cells (pt z32 0).toArray 39)) (.cells (cn 0 z32 0 0).toArray 56); simpa using this
  have HXA := Lib.hid hxa
  have HXB := Lib.hid hxb
  have hba : Below w13.heap.size w13 ((w13.alloc (.cells (pt z32 0).toArray 39)).alloc (.cells (cn 0 z32 0 0).toArray 56)) := below_alloc (below_alloc (Below.refl _ _) _) _
  have HBA := Lib.hid hba
  clear hxa hxb hba
  go_upto_region 14 with (first
    | (refine wpList_store_box rfl 39 (.tmp 13) (.tmp 111) rfl w13.heap.size (pt id out) rfl rfl HXA.out (by rw [HLP.out]; rfl) (by rw [HLP.out]; exact size39) (pt_one _ _) ?_; intro w14 hs14; have HS14 := Lib.hid hs14; have HXB14 := Lib.hid ((hs14.other (w13.heap.size + 1) (by omega)).trans HXB.out); clear hs14)
    | (refine wpList_store_box rfl 56 (.tmp 14) (.tmp 112) rfl (w13.heap.size + 1) (cn c s uh up) rfl rfl HXB14.out (by rw [HLC.out]; rfl) (by rw [HLC.out]; exact size56) (cn_one _ _ _ _) ?_; intro w15 hs15; have HS15 := Lib.hid hs15; clear hs15))
  have hb15 : Below w13.heap.size w13 w15 := HS15.out.then_ (HS14.out.then_ HBA.out (Nat.le_refl _)) (by omega)
  have HB17 := Lib.hid (HB16.out.below hb15)
  have HX15 := Lib.hid (box_stays HX13.out hb15)
  have HY15 := Lib.hid (box_stays HY13.out hb15)
  have HP15 : Hid (w15.heap[w13.heap.size]? = some (.cells (pt id out).toArray 39 (0, 0))) := Lib.hid ((HS15.out.other _ (by omega)).trans HS14.out.at_)
  have HQ15 := Lib.hid HS15.out.at_
  clear hb15 HS14 HS15 HB16 HX13 HY13 HXA HXB HBA HXB14
  generalize hq15 : w13.heap.size + 1 = q15 at HQ15 ⊢
  generalize w13.heap.size = p15 at HP15 ⊢
  clear hq15
  refine plain_ _ (fun _ => True) reg_11_14 rfl inv0 (fun _ _ _ _ => trivial) (Below.refl _ _) trivial ?_
  refine w_move (.inl rfl) (fun vs w hK => ⟨wants_none rfl, rho_out rfl rfl⟩) ?_
  refine w_val [(114, _)] (.bool true) (fun vs w hK => ⟨wants_none rfl, rho_in rfl (fv (hK 0 (memE rfl))), trivial⟩) rfl (fun wq hI => by exact run_int_eql rfl rfl rfl rfl) ?_
  refine w_move (.inl rfl) (fun vs w hK => ⟨wants_none rfl, rho_in rfl (fv (hK 1 (memE rfl)))⟩) ?_
  refine w_move (.inl rfl) (fun vs w hK => ⟨wants_g rfl (fv (hK 2 (memE rfl))), rho_out rfl rfl⟩) ?_
  refine w_val [(117, _)] (.bool true) (fun vs w hK => ⟨wants_g rfl (fv (hK 2 (memE rfl))), rho_in rfl (fv (hK 3 (memE rfl))), trivial⟩) rfl (fun wq hI => by exact run_int_eql rfl rfl rfl rfl) ?_
  refine w_pick (b := true) rfl (fun vs w hK => ⟨wants_none rfl, (rho_in rfl (fv (hK 2 (memE rfl)))), (rho_in rfl (fv (hK 4 (memE rfl))))⟩) ?_
  refine w_move (.inl rfl) (fun vs w hK => ⟨wants_none rfl, rho_in rfl (fv (hK 5 (memE rfl)))⟩) ?_
  refine w_move (.inl rfl) (fun vs w hK => ⟨wants_g rfl (fv (hK 6 (memE rfl))), rho_out rfl rfl⟩) ?_
  refine w_val [(121, _)] (.bool true) (fun vs w hK => ⟨wants_g rfl (fv (hK 6 (memE rfl))), rho_in rfl (fv (hK 7 (memE rfl))), trivial⟩) rfl (fun wq hI => by exact run_int_eql rfl rfl rfl rfl) ?_
  refine w_pick (b := true) rfl (fun vs w hK => ⟨wants_none rfl, (rho_in rfl (fv (hK 6 (memE rfl)))), (rho_in rfl (fv (hK 8 (memE rfl))))⟩) ?_
  refine w_move (.inl rfl) (fun vs w hK => ⟨wants_none rfl, rho_in rfl (fv (hK 9 (memE rfl)))⟩) ?_
  refine w_val [(9, _)] (.agg (cn c s uh up).toArray) (fun vs w hK => ⟨wants_g rfl (fv (hK 10 (memE rfl))), rho_out rfl rfl, trivial⟩) rfl (fun wq hI => by exact run_load_op rfl rfl (load_cn HS.out (box_stays HX15.out hI))) ?_
  refine w_val [(3, _)] (.agg (cn c s uh up).toArray) (fun vs w hK => ⟨wants_g rfl (fv (hK 10 (memE rfl))), rho_out rfl rfl, trivial⟩) rfl (fun wq hI => by exact run_load_op rfl rfl (load_cn HS.out (HB17.out.below hI).a)) ?_
  refine w_val [(125, _), (126, _)] (.bool true) (fun vs w hK => ⟨wants_g rfl (fv (hK 10 (memE rfl))), rho_in rfl (fv (hK 11 (memE rfl))), rho_in rfl (fv (hK 12 (memE rfl))), trivial⟩) rfl (fun wq hI => by exact op_agg_eql rfl rfl rfl (by kernel_rfl) ((cn_equalIn 9997 s s c c uh uh up up HS.out HS.out wq).trans (by simp))) ?_
  refine w_pick (b := true) rfl (fun vs w hK => ⟨wants_none rfl, (rho_in rfl (fv (hK 10 (memE rfl)))), (rho_in rfl (fv (hK 13 (memE rfl))))⟩) ?_
  refine w_move (.inl rfl) (fun vs w hK => ⟨wants_none rfl, rho_in rfl (fv (hK 14 (memE rfl)))⟩) ?_
  refine w_val [(11, _)] (.agg (sp b ui uk).toArray) (fun vs w hK => ⟨wants_g rfl (fv (hK 15 (memE rfl))), rho_out rfl rfl, trivial⟩) rfl (fun wq hI => by exact run_load_op rfl rfl (load_sp HBL.out (box_stays HY15.out hI))) ?_
  refine w_val [(4, _)] (.agg (sp b ui uk).toArray) (fun vs w hK => ⟨wants_g rfl (fv (hK 15 (memE rfl))), rho_out rfl rfl, trivial⟩) rfl (fun wq hI => by exact run_load_op rfl rfl (load_sp HBL.out (HB17.out.below hI).b)) ?_
  refine w_val [(130, _), (131, _)] (.bool true) (fun vs w hK => ⟨wants_g rfl (fv (hK 15 (memE rfl))), rho_in rfl (fv (hK 16 (memE rfl))), rho_in rfl (fv (hK 17 (memE rfl))), trivial⟩) rfl (fun wq hI => by exact op_agg_eql rfl rfl rfl (by kernel_rfl) ((sp_equalIn 9997 b b ui ui uk uk HBL.out HBL.out wq).trans (by simp))) ?_
  refine w_pick (b := true) rfl (fun vs w hK => ⟨wants_none rfl, (rho_in rfl (fv (hK 15 (memE rfl)))), (rho_in rfl (fv (hK 18 (memE rfl))))⟩) ?_
  refine w_move (.inl rfl) (fun vs w hK => ⟨wants_none rfl, rho_in rfl (fv (hK 19 (memE rfl)))⟩) ?_
  refine w_val [(13, _)] (.agg (pt id out).toArray) (fun vs w hK => ⟨wants_g rfl (fv (hK 20 (memE rfl))), rho_out rfl rfl, trivial⟩) rfl (fun wq hI => by exact run_load_op rfl rfl (load_pt HID.out (box_stays HP15.out hI))) ?_
  refine w_val [(5, _)] (.agg (pt id out).toArray) (fun vs w hK => ⟨wants_g rfl (fv (hK 20 (memE rfl))), rho_out rfl rfl, trivial⟩) rfl (fun wq hI => by exact run_load_op rfl rfl (load_pt HID.out (HB17.out.below hI).c)) ?_
  refine w_val [(135, _), (136, _)] (.bool true) (fun vs w hK => ⟨wants_g rfl (fv (hK 20 (memE rfl))), rho_in rfl (fv (hK 21 (memE rfl))), rho_in rfl (fv (hK 22 (memE rfl))), trivial⟩) rfl (fun wq hI => by exact op_agg_eql rfl rfl rfl (by kernel_rfl) ((pt_equalIn 9997 id id out out HID.out HID.out wq).trans (by simp))) ?_
  refine w_pick (b := true) rfl (fun vs w hK => ⟨wants_none rfl, (rho_in rfl (fv (hK 20 (memE rfl)))), (rho_in rfl (fv (hK 23 (memE rfl))))⟩) ?_
  refine w_move (.inl rfl) (fun vs w hK => ⟨wants_none rfl, rho_in rfl (fv (hK 24 (memE rfl)))⟩) ?_
  refine w_val [(14, _)] (.agg (cn c s uh up).toArray) (fun vs w hK => ⟨wants_g rfl (fv (hK 25 (memE rfl))), rho_out rfl rfl, trivial⟩) rfl (fun wq hI => by exact run_load_op rfl rfl (load_cn HS.out (box_stays HQ15.out hI))) ?_
  refine w_val [(3, _)] (.agg (cn c s uh up).toArray) (fun vs w hK => ⟨wants_g rfl (fv (hK 25 (memE rfl))), rho_out rfl rfl, trivial⟩) rfl (fun wq hI => by exact run_load_op rfl rfl (load_cn HS.out (HB17.out.below hI).a)) ?_
  refine w_val [(140, _), (141, _)] (.bool true) (fun vs w hK => ⟨wants_g rfl (fv (hK 25 (memE rfl))), rho_in rfl (fv (hK 26 (memE rfl))), rho_in rfl (fv (hK 27 (memE rfl))), trivial⟩) rfl (fun wq hI => by exact op_agg_eql rfl rfl rfl (by kernel_rfl) ((cn_equalIn 9997 s s c c uh uh up up HS.out HS.out wq).trans (by simp))) ?_
  refine w_pick (b := true) rfl (fun vs w hK => ⟨wants_none rfl, (rho_in rfl (fv (hK 25 (memE rfl)))), (rho_in rfl (fv (hK 28 (memE rfl))))⟩) ?_
  refine w_move (.inr rfl) (fun vs w hK => ⟨wants_none rfl, rho_in rfl (fv (hK 29 (memE rfl)))⟩) ?_
  refine w_end rfl rfl rfl (fun vs wq hI hF => ?_)
  simp only [List.reverse_cons, List.reverse_nil, List.nil_append, List.cons_append, finL_val, finL_of, finL_any, finL_app, finL_new, finL_gr, finL_row, finL_box, finL_nil, Act.put, List.setIfInBounds_toArray, List.set_cons_zero, List.set_cons_succ, Nat.reduceAdd]
  have HB18 := Lib.hid (HB17.out.below hI).bel
  clear hI hF
  go_wp2_with fail
  go_ret
  exact ⟨rfl, HB18.out⟩
end Go.Proofs.Ytglkagicmolbeaa.Rw

