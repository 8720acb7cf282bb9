/- The walk of the law RowsOrders: keys of one kind stand in the order of their numbers; no two kinds begin alike. -/
import Derived.Test.YtglkagicmolbeaaRowsCoins
import Derived.Test.YtglkagicmolbeaaRowsM
namespace Go.Proofs.Ytglkagicmolbeaa.Rw
set_option linter.unusedVariables false
set_option linter.unusedSimpArgs false
open Go.Maps Go.Proofs.Ytglkagicmolbeaa.Kit Go.Proofs.Ytglkagicmolbeaa.Num Go.RowKit Go.Proofs.YtglkagicmolbeaaW.PrintWords Go.Proofs.YtglkagicmolbeaaW.PrintLast Go.Proofs.YtglkagicmolbeaaW.PrintMore NumPure
theorem op_bool_nq {P : Program} {o : Oper} {l : List (Nat × Value)} {x y : Operand} {t : TypeId} {m : Nat} {a b r : Bool} {w : World} (hu : P.underlying t = some .bool) (ho : o.op = .binOp .neq t x y m) (hx : lk l x = .bool a) (hy : lk l y = .bool b) (h : (a != b) = r) : (execOp (lk l) o).run P w = .ok (.value (.bool r)) w := by
  subst h
  have e : (Op.equal t (.bool a) (.bool b)).run P w = .ok (a == b) w := by
    show (Op.equalIn (9999 + 1) t _ _).run P w = _
    unfold Op.equalIn
    simp [Sem.run_bind, run_underlying hu]
  unfold execOp
  simp [ho, hx, hy, eqGuard, binOp, e, bne]
/-- The law's order. -/
def Less (a b c d : Nat) : Bool := decide (((a : Nat) : Int) < ((c : Nat) : Int)) || ((((a : Nat) : Int) == ((c : Nat) : Int)) && decide (((b : Nat) : Int) < ((d : Nat) : Int)))
theorem less_two (p : ByteArray) (a b c d : Int) : Op.bytesLess (p ++ F4 a ++ F4 b).toList (p ++ F4 c ++ F4 d).toList = Less (U a) (U b) (U c) (U d) := by
  have h2 : Op.bytesLess (F4 b).toList (F4 d).toList = decide (U b < U d) := by
    have := less_F4_end ⟨#[]⟩ b d
    have e : ∀ q : ByteArray, (⟨#[]⟩ : ByteArray) ++ q = q := fun q => numsOf_inj (by rw [numsOf_append, numsOf_empty, List.nil_append])
    rwa [e, e] at this
  rw [less_F4, h2]
  unfold Less
  congr 1
  · exact decide_eq_decide.2 (by omega)
  · congr 1
    · by_cases h : U a = U c
      · rw [h]; simp
      · rw [decide_eq_false h]; symm; simp only [beq_eq_false_iff_ne]; omega
    · exact decide_eq_decide.2 (by omega)
theorem less_one (p : ByteArray) (a c : Int) : Op.bytesLess (p ++ F4 a).toList (p ++ F4 c).toList = decide (((U a : Nat) : Int) < ((U c : Nat) : Int)) := by
  rw [less_F4_end]
  exact decide_eq_decide.2 (by omega)
theorem reg_5_3 : RegOk (opsOf Try.f5 3) [[], [0], [0, 1]] [] [some 19, some 20, some 1] := regOk (by kernel_rfl)
theorem reg_5_4 : RegOk (opsOf Try.f5 4) [[], [0], [0, 1]] [] [some 21, some 22, some 2] := regOk (by kernel_rfl)
theorem reg_5_5 : RegOk (opsOf Try.f5 5) [[], [0], [0, 1]] [] [some 23, some 24, some 3] := regOk (by kernel_rfl)
theorem reg_5_6 : RegOk (opsOf Try.f5 6) [[], [0], [0, 1]] [] [some 25, some 26, some 4] := regOk (by kernel_rfl)
theorem reg_5_7 : RegOk (opsOf Try.f5 7) [[], [], [0, 1], [0, 1, 2], [0, 1, 2, 3], [0, 1, 2, 3], [0, 1, 2, 3, 4, 5], [0, 1, 2, 3, 4, 5, 6], [0, 1, 2, 3, 4, 5, 6, 7], [0, 1, 2, 3, 4, 5, 6, 7], [0, 1, 2, 3, 4, 5, 6, 7, 8, 9], [0, 1, 2, 3, 4, 5, 6, 7, 8, 9, 10], [0, 1, 2, 3, 4, 5, 6, 7, 8, 9, 10, 11], [0, 1, 2, 3, 4, 5, 6, 7, 8, 9, 10, 11, 12]] [] [some 27, some 28, some 29, some 30, some 31, some 32, some 33, some 34, some 35, some 36, some 37, some 38, some 39, some 11] := regOk (by kernel_rfl)
theorem reg_5_8 : RegOk (opsOf Try.f5 8) [[], [], [0, 1], [], [], [0, 1, 2, 3, 4], [0, 1, 2, 3, 4, 5], [], [0, 1, 2, 3, 4, 5, 6, 7], [0, 1, 2, 3, 4, 5, 6, 7, 8], [0, 1, 2, 3, 4, 5, 6, 7, 8, 9], [0, 1, 2, 3, 4, 5, 6, 7, 8, 9], [0, 1, 2, 3, 4, 5, 6, 7, 8, 9], [0, 1, 2, 3, 4, 5, 6, 7, 8, 9, 10, 11, 12], [0, 1, 2, 3, 4, 5, 6, 7, 8, 9], [0, 1, 2, 3, 4, 5, 6, 7, 8, 9], [0, 1, 2, 3, 4, 5, 6, 7, 8, 9], [0, 1, 2, 3, 4, 5, 6, 7, 8, 9, 10, 11, 12, 13, 14, 15, 16], [0, 1, 2, 3, 4, 5, 6, 7, 8, 9, 10, 11, 12, 13, 14, 15, 16, 17], [0, 1, 2, 3, 4, 5, 6, 7, 8, 9], [0, 1, 2, 3, 4, 5, 6, 7, 8, 9, 10, 11, 12, 13, 14, 15, 16, 17, 18, 19], [0, 1, 2, 3, 4, 5, 6, 7, 8, 9, 10, 11, 12, 13, 14, 15, 16, 17, 18, 19, 20], [0, 1, 2, 3, 4, 5, 6, 7, 8, 9, 10, 11, 12, 13, 14, 15, 16, 17, 18, 19, 20, 21], [0, 1, 2, 3, 4, 5, 6, 7, 8, 9, 10, 11, 12, 13, 14, 15, 16, 17, 18, 19, 20, 21, 22], [0, 1, 2, 3, 4, 5, 6, 7, 8, 9, 10, 11, 12, 13, 14, 15, 16, 17, 18, 19, 20, 21, 22, 23], [0, 1, 2, 3, 4, 5, 6, 7, 8, 9, 10, 11, 12, 13, 14, 15, 16, 17, 18, 19, 20, 21, 22], [0, 1, 2, 3, 4, 5, 6, 7, 8, 9, 10, 11, 12, 13, 14, 15, 16, 17, 18, 19, 20, 21, 22, 23, 24, 25], [0, 1, 2, 3, 4, 5, 6, 7, 8, 9, 10, 11, 12, 13, 14, 15, 16, 17, 18, 19, 20, 21, 22, 23, 24, 25, 26], [0, 1, 2, 3, 4, 5, 6, 7, 8, 9, 10, 11, 12, 13, 14, 15, 16, 17, 18, 19, 20, 21, 22], [0, 1, 2, 3, 4, 5, 6, 7, 8, 9, 10, 11, 12, 13, 14, 15, 16, 17, 18, 19, 20, 21, 22], [0, 1, 2, 3, 4, 5, 6, 7, 8, 9, 10, 11, 12, 13, 14, 15, 16, 17, 18, 19, 20, 21, 22, 28, 29], [0, 1, 2, 3, 4, 5, 6, 7, 8, 9, 10, 11, 12, 13, 14, 15, 16, 17, 18, 19, 20, 21, 22, 23, 24, 25, 26, 27, 28, 29, 30], [0, 1, 2, 3, 4, 5, 6, 7, 8, 9, 10, 11, 12, 13, 14, 15, 16, 17, 18, 19, 20, 21, 22, 23, 24, 25, 26, 27, 28, 29, 30, 31]] [] [some 40, some 41, some 42, some 43, some 44, some 45, some 46, some 47, some 48, some 49, some 50, some 51, some 52, some 53, some 54, some 55, some 56, some 57, some 58, some 59, some 60, some 61, some 62, some 63, some 64, some 65, some 66, some 67, some 68, some 69, some 70, some 71, some 72] := regOk (by kernel_rfl)
theorem reg_5_12 : RegOk (opsOf Try.f5 12) [[], [0], [], [0, 1, 2], [0, 1, 2, 3], [], [], [5, 6], [0, 1, 2, 3, 4, 5, 6, 7], [0, 1, 2, 3, 4, 5, 6, 7, 8], [0, 1, 2, 3, 4, 5, 6, 7, 8, 9], [0, 1, 2, 3, 4, 5, 6, 7, 8, 9], [0, 1, 2, 3, 4, 5, 6, 7, 8, 9, 10, 11], [0, 1, 2, 3, 4, 5, 6, 7, 8, 9], [0, 1, 2, 3, 4, 5, 6, 7, 8, 9], [0, 1, 2, 3, 4, 5, 6, 7, 8, 9, 10, 11, 12, 13, 14], [0, 1, 2, 3, 4, 5, 6, 7, 8, 9, 10, 11, 12, 13, 14, 15], [0, 1, 2, 3, 4, 5, 6, 7, 8, 9], [0, 1, 2, 3, 4, 5, 6, 7, 8, 9], [0, 1, 2, 3, 4, 5, 6, 7, 8, 9, 17, 18], [0, 1, 2, 3, 4, 5, 6, 7, 8, 9, 10, 11, 12, 13, 14, 15, 16, 17, 18, 19], [0, 1, 2, 3, 4, 5, 6, 7, 8, 9, 10, 11, 12, 13, 14, 15, 16, 17, 18, 19, 20], [0, 1, 2, 3, 4, 5, 6, 7, 8, 9, 10, 11, 12, 13, 14, 15, 16, 17, 18, 19, 20, 21], [0, 1, 2, 3, 4, 5, 6, 7, 8, 9, 10, 11, 12, 13, 14, 15, 16, 17, 18, 19, 20, 21, 22], [0, 1, 2, 3, 4, 5, 6, 7, 8, 9, 10, 11, 12, 13, 14, 15, 16, 17, 18, 19, 20, 21, 22], [0, 1, 2, 3, 4, 5, 6, 7, 8, 9, 10, 11, 12, 13, 14, 15, 16, 17, 18, 19, 20, 21, 22], [0, 1, 2, 3, 4, 5, 6, 7, 8, 9, 10, 11, 12, 13, 14, 15, 16, 17, 18, 19, 20, 21, 22, 23, 24, 25], [0, 1, 2, 3, 4, 5, 6, 7, 8, 9, 10, 11, 12, 13, 14, 15, 16, 17, 18, 19, 20, 21, 22], [0, 1, 2, 3, 4, 5, 6, 7, 8, 9, 10, 11, 12, 13, 14, 15, 16, 17, 18, 19, 20, 21, 22], [0, 1, 2, 3, 4, 5, 6, 7, 8, 9, 10, 11, 12, 13, 14, 15, 16, 17, 18, 19, 20, 21, 22], [0, 1, 2, 3, 4, 5, 6, 7, 8, 9, 10, 11, 12, 13, 14, 15, 16, 17, 18, 19, 20, 21, 22, 23, 24, 25, 26, 27, 28, 29], [0, 1, 2, 3, 4, 5, 6, 7, 8, 9, 10, 11, 12, 13, 14, 15, 16, 17, 18, 19, 20, 21, 22, 23, 24, 25, 26, 27, 28, 29, 30], [0, 1, 2, 3, 4, 5, 6, 7, 8, 9, 10, 11, 12, 13, 14, 15, 16, 17, 18, 19, 20, 21, 22], [0, 1, 2, 3, 4, 5, 6, 7, 8, 9, 10, 11, 12, 13, 14, 15, 16, 17, 18, 19, 20, 21, 22], [0, 1, 2, 3, 4, 5, 6, 7, 8, 9, 10, 11, 12, 13, 14, 15, 16, 17, 18, 19, 20, 21, 22, 32, 33], [0, 1, 2, 3, 4, 5, 6, 7, 8, 9, 10, 11, 12, 13, 14, 15, 16, 17, 18, 19, 20, 21, 22, 23, 24, 25, 26, 27, 28, 29, 30, 31, 32, 33, 34], [0, 1, 2, 3, 4, 5, 6, 7, 8, 9, 10, 11, 12, 13, 14, 15, 16, 17, 18, 19, 20, 21, 22, 23, 24, 25, 26, 27, 28, 29, 30, 31, 32, 33, 34, 35]] [] [some 81, some 82, some 83, some 84, some 85, some 86, some 87, some 88, some 89, some 90, some 91, some 92, some 93, some 94, some 95, some 96, some 97, some 98, some 99, some 100, some 101, some 102, some 103, some 104, some 105, some 106, some 107, some 108, some 109, some 110, some 111, some 112, some 113, some 114, some 115, some 116, some 117] := regOk (by kernel_rfl)
theorem reg_5_15 : RegOk (opsOf Try.f5 15) [[], [0], [], [0, 1, 2], [], [0, 1, 2, 3, 4], [], [], [0, 1, 2, 3, 4, 5, 6, 7], [], [], [], [0, 1, 2, 3, 4, 5, 6, 7, 8, 9, 10, 11], [], [], [0, 1, 2, 3, 4, 5, 6, 7, 8, 9, 10, 11, 12, 13, 14], [], [0, 1, 2, 3, 4, 5, 6, 7, 8, 9, 10, 11, 12, 13, 14, 15, 16], [], [0, 1, 2, 3, 4, 5, 6, 7, 8, 9, 10, 11, 12, 13, 14, 15, 16, 17, 18], [], [], [], [0, 1, 2, 3, 4, 5, 6, 7, 8, 9, 10, 11, 12, 13, 14, 15, 16, 17, 18, 19, 20, 21, 22], [0, 1, 2, 3, 4, 5, 6, 7, 8, 9, 10, 11, 12, 13, 14, 15, 16, 17, 18, 19, 20, 21, 22, 23], [0, 1, 2, 3, 4, 5, 6, 7, 8, 9, 10, 11, 12, 13, 14, 15, 16, 17, 18, 19, 20, 21, 22, 23, 24], []] [] [some 119, some 120, some 121, some 122, some 123, some 124, some 125, some 126, some 127, some 128, some 129, some 130, some 131, some 132, some 133, some 134, some 135, some 136, some 137, some 138, some 139, some 140, some 141, some 142, some 143, some 144, some 145] := regOk (by kernel_rfl)
theorem infos9 : (Try.prog.info? 9).map (fun i => (i.zero, i.size, i.bytes)) = some (some (.string ⟨#[]⟩), 1, 16) := by kernel_rfl
theorem ts9 : SlTy Try.prog 46 9 (.string ⟨#[]⟩) 16 := ⟨Try.underlying46, infos9, rfl, by decide⟩
theorem zero4 (w : World) : (zeroValue 4).run Try.prog w = .ok (.bool false) w := by kernel_rfl
set_option maxRecDepth 20000 in
set_option maxHeartbeats 3200000 in
theorem orders_any (h : List Int) (a b c d : Int) (w : World) (hl : h.length = 32) (hlw : ∀ x ∈ h, (Lit.int .u8 x).wf = true) (_ : (Lit.int .i64 a).wf = true) (_ : (Lit.int .i64 b).wf = true) (_ : (Lit.int .i64 c).wf = true) (_ : (Lit.int .i64 d).wf = true) :
    Calls Try.prog 5 #[.agg (nums .u8 h).toArray, .int .i64 a, .int .i64 b, .int .i64 c, .int .i64 d] w fun e w' => e = .returned (.bool true) ∧ Below w.heap.size w w' := by
  have C0 := Lib.hid (fun wq => head18_any wq)
  have hx0 : (w.alloc (.cells (nums .u8 h).toArray 32)).heap[w.heap.size]? = some (.cells (nums .u8 h).toArray 32) := heap_alloc_new w _
  have hb0 : Below w.heap.size w (w.alloc (.cells (nums .u8 h).toArray 32)) := below_alloc (Below.refl _ _) _
  have L2 := Lib.hid (fun p => less_two p (U a : Nat) (U b : Nat) (U c : Nat) (U d : Nat))
  have L1 := Lib.hid (fun p => less_one p (U a : Nat) (U c : Nat))
  have e2 := L2.out
  have e1 := L1.out
  rw [U_U, U_U, U_U, U_U] at e2
  rw [U_U, U_U] at e1
  obtain ⟨L, hL⟩ : ∃ L, Less (U a) (U b) (U c) (U d) = L := ⟨_, rfl⟩
  rw [hL] at e2
  have E2 := Lib.hid e2
  have E1 := Lib.hid e1
  have HL := Lib.hid hL
  have HH := Lib.hid hl
  have e3 := fun p => less_one p (U c : Nat) (U d : Nat)
  rw [U_U, U_U] at e3
  have E3 := Lib.hid e3
  have HWA : Hid (IntKind.u32.wrap ((U a : Nat) : Int) = ((U a : Nat) : Int)) := Lib.hid (u32_nat _ (U_lt a))
  have HWC : Hid (IntKind.u32.wrap ((U c : Nat) : Int) = ((U c : Nat) : Int)) := Lib.hid (u32_nat _ (U_lt c))
  have HOA : Hid (0 ≤ ((U a : Nat) : Int) ∧ ((U a : Nat) : Int) < 4294967296) := Lib.hid (by have := U_lt a; omega)
  have HOC : Hid (0 ≤ ((U c : Nat) : Int) ∧ ((U c : Nat) : Int) < 4294967296) := Lib.hid (by have := U_lt c; omega)
  clear L1 L2 e1 e2 e3 hL
  go_enter Try.func5, Try.ntmps5
  go_upto_region 1 with fail
  generalize w.alloc (.cells (nums .u8 h).toArray 32) = w0 at hx0 hb0 ⊢
  go_wp2_with fail
  refine (C0.out _).mono ?_
  rintro e w1 ⟨rfl, hb1⟩
  have HX1 := Lib.hid (box_stays hx0 hb1)
  have HB1 := Lib.hid (below_then hb0 hb0.size hb1)
  clear hx0 hb0 hb1 C0
  go_upto_region 3 with fail
  refine plain_ _ (fun _ => True) reg_5_3 rfl inv0 (fun _ _ _ _ => trivial) (Below.refl _ _) trivial ?_
  refine w_move (.inl rfl) (fun vs w hK => ⟨wants_none rfl, rho_out rfl rfl⟩) ?_
  refine w_val [(19, _)] (_) (fun vs w hK => ⟨wants_none rfl, rho_in rfl (fv (hK 0 (memE rfl))), trivial⟩) rfl (fun wq hI => by exact op_and rfl rfl rfl (and32 a)) ?_
  refine w_move (.inr rfl) (fun vs w hK => ⟨wants_none rfl, rho_in rfl (fv (hK 1 (memE rfl)))⟩) ?_
  refine w_end rfl rfl rfl (fun vs wq hI hF => ?_)
  simp only [List.reverse_cons, List.reverse_nil, List.nil_append, List.cons_append, finL_val, finL_of, finL_any, finL_app, finL_new, finL_gr, finL_row, finL_box, finL_nil, Act.put, List.setIfInBounds_toArray, List.set_cons_zero, List.set_cons_succ, Nat.reduceAdd]
  have HX2 := Lib.hid (box_stays HX1.out hI)
  have HB2 := Lib.hid (below_then HB1.out HB1.out.size hI)
  clear hI hF HX1 HB1
  obtain ⟨w2, rfl⟩ : ∃ w2 : World, w2 = wq := ⟨_, rfl⟩
  go_upto_region 4 with fail
  refine plain_ _ (fun _ => True) reg_5_4 rfl inv0 (fun _ _ _ _ => trivial) (Below.refl _ _) trivial ?_
  refine w_move (.inl rfl) (fun vs w hK => ⟨wants_none rfl, rho_out rfl rfl⟩) ?_
  refine w_val [(21, _)] (_) (fun vs w hK => ⟨wants_none rfl, rho_in rfl (fv (hK 0 (memE rfl))), trivial⟩) rfl (fun wq hI => by exact op_and rfl rfl rfl (and32 b)) ?_
  refine w_move (.inr rfl) (fun vs w hK => ⟨wants_none rfl, rho_in rfl (fv (hK 1 (memE rfl)))⟩) ?_
  refine w_end rfl rfl rfl (fun vs wq hI hF => ?_)
  simp only [List.reverse_cons, List.reverse_nil, List.nil_append, List.cons_append, finL_val, finL_of, finL_any, finL_app, finL_new, finL_gr, finL_row, finL_box, finL_nil, Act.put, List.setIfInBounds_toArray, List.set_cons_zero, List.set_cons_succ, Nat.reduceAdd]
  have HX3 := Lib.hid (box_stays HX2.out hI)
  have HB3 := Lib.hid (below_then HB2.out HB2.out.size hI)
  clear hI hF HX2 HB2
  obtain ⟨w3, rfl⟩ : ∃ w3 : World, w3 = wq := ⟨_, rfl⟩
  go_upto_region 5 with fail
  refine plain_ _ (fun _ => True) reg_5_5 rfl inv0 (fun _ _ _ _ => trivial) (Below.refl _ _) trivial ?_
  refine w_move (.inl rfl) (fun vs w hK => ⟨wants_none rfl, rho_out rfl rfl⟩) ?_
  refine w_val [(23, _)] (_) (fun vs w hK => ⟨wants_none rfl, rho_in rfl (fv (hK 0 (memE rfl))), trivial⟩) rfl (fun wq hI => by exact op_and rfl rfl rfl (and32 c)) ?_
  refine w_move (.inr rfl) (fun vs w hK => ⟨wants_none rfl, rho_in rfl (fv (hK 1 (memE rfl)))⟩) ?_
  refine w_end rfl rfl rfl (fun vs wq hI hF => ?_)
  simp only [List.reverse_cons, List.reverse_nil, List.nil_append, List.cons_append, finL_val, finL_of, finL_any, finL_app, finL_new, finL_gr, finL_row, finL_box, finL_nil, Act.put, List.setIfInBounds_toArray, List.set_cons_zero, List.set_cons_succ, Nat.reduceAdd]
  have HX4 := Lib.hid (box_stays HX3.out hI)
  have HB4 := Lib.hid (below_then HB3.out HB3.out.size hI)
  clear hI hF HX3 HB3
  obtain ⟨w4, rfl⟩ : ∃ w4 : World, w4 = wq := ⟨_, rfl⟩
  go_upto_region 6 with fail
  refine plain_ _ (fun _ => True) reg_5_6 rfl inv0 (fun _ _ _ _ => trivial) (Below.refl _ _) trivial ?_
  refine w_move (.inl rfl) (fun vs w hK => ⟨wants_none rfl, rho_out rfl rfl⟩) ?_
  refine w_val [(25, _)] (_) (fun vs w hK => ⟨wants_none rfl, rho_in rfl (fv (hK 0 (memE rfl))), trivial⟩) rfl (fun wq hI => by exact op_and rfl rfl rfl (and32 d)) ?_
  refine w_move (.inr rfl) (fun vs w hK => ⟨wants_none rfl, rho_in rfl (fv (hK 1 (memE rfl)))⟩) ?_
  refine w_end rfl rfl rfl (fun vs wq hI hF => ?_)
  simp only [List.reverse_cons, List.reverse_nil, List.nil_append, List.cons_append, finL_val, finL_of, finL_any, finL_app, finL_new, finL_gr, finL_row, finL_box, finL_nil, Act.put, List.setIfInBounds_toArray, List.set_cons_zero, List.set_cons_succ, Nat.reduceAdd]
  have HX5 := Lib.hid (box_stays HX4.out hI)
  have HB5 := Lib.hid (below_then HB4.out HB4.out.size hI)
  clear hI hF HX4 HB4
  obtain ⟨w5, rfl⟩ : ∃ w5 : World, w5 = wq := ⟨_, rfl⟩
  go_upto_region 7 with fail
  refine plain_ (fun wq => Below w5.heap.size w5 wq) (fun _ => True) reg_5_7 rfl inv0 (fun _ _ _ _ => trivial) (Below.refl _ _) trivial ?_
  refine w_move (.inl rfl) (fun vs w hK => ⟨wants_none rfl, rho_out rfl rfl⟩) ?_
  refine w_move (.inl rfl) (fun vs w hK => ⟨wants_none rfl, rho_out rfl rfl⟩) ?_
  refine w_val [(27, _), (28, _)] (_) (fun vs w hK => ⟨wants_none rfl, rho_in rfl (fv (hK 0 (memE rfl))), rho_in rfl (fv (hK 1 (memE rfl))), trivial⟩) rfl (fun wq hI => by exact run_int_lss rfl rfl rfl rfl) ?_
  refine w_move (.inl rfl) (fun vs w hK => ⟨wants_none rfl, rho_in rfl (fv (hK 2 (memE rfl)))⟩) ?_
  refine w_moveG (.inl rfl) (fun vs w hK => wantsF rfl (fv (hK 3 (memE rfl)))) (fun hG vs w hK => (rho_out rfl rfl)) ?_
  refine w_moveG (.inl rfl) (fun vs w hK => wantsF rfl (fv (hK 3 (memE rfl)))) (fun hG vs w hK => (rho_out rfl rfl)) ?_
  refine w_valG [(31, _), (32, _)] (_) (fun vs w hK => wantsF rfl (fv (hK 3 (memE rfl)))) (fun hG vs w hK => ⟨(rho_in rfl (fvg (hK 4 (memE rfl)) hG)), (rho_in rfl (fvg (hK 5 (memE rfl)) hG)), trivial⟩) rfl (fun hG wq hI => by exact run_int_eql rfl rfl rfl rfl) ?_
  refine w_moveG (.inl rfl) (fun vs w hK => wantsF rfl (fv (hK 3 (memE rfl)))) (fun hG vs w hK => (rho_in rfl (fvg (hK 6 (memE rfl)) hG))) ?_
  refine w_moveG (.inl rfl) (fun vs w hK => wantsTg rfl (fv (hK 7 (memE rfl)))) (fun hG vs w hK => (rho_out rfl rfl)) ?_
  refine w_moveG (.inl rfl) (fun vs w hK => wantsTg rfl (fv (hK 7 (memE rfl)))) (fun hG vs w hK => (rho_out rfl rfl)) ?_
  refine w_valG [(35, _), (36, _)] (_) (fun vs w hK => wantsTg rfl (fv (hK 7 (memE rfl)))) (fun hG vs w hK => ⟨(rho_in rfl (fvg (hK 8 (memE rfl)) hG)), (rho_in rfl (fvg (hK 9 (memE rfl)) hG)), trivial⟩) rfl (fun hG wq hI => by exact run_int_lss rfl rfl rfl rfl) ?_
  refine w_andG rfl (fun vs w hK => wantsF rfl (fv (hK 3 (memE rfl)))) (fun hG vs w hK => (rho_in rfl (fvg (hK 7 (memE rfl)) hG))) (fun hG hB vs w hK => (rho_in rfl (fvg (hK 10 (memE rfl)) (gand hG hB)))) ?_
  refine w_or rfl (fun vs w hK => wants_none rfl) (fun vs w hK => (rho_in rfl (fv (hK 3 (memE rfl))))) (fun hB vs w hK => (rho_in rfl (fvg (hK 11 (memE rfl)) (gnot hB)))) ?_
  refine w_as (c' := .bool L) (congrArg Value.bool HL.out) ?_
  refine w_move (.inr rfl) (fun vs w hK => ⟨wants_none rfl, rho_in rfl (fv (hK 12 (memE rfl)))⟩) ?_
  refine w_endM [false, false, false, false, false, false, false, false, false, false, false, false, false, true] rfl rfl rfl (fun vs wq hI hF => ?_)
  simp only [List.reverse_cons, List.reverse_nil, List.nil_append, List.cons_append, finL_val, finL_of, finL_any, finL_app, finL_new, finL_gr, finL_row, finL_box, finL_nil, Act.put, List.setIfInBounds_toArray, List.set_cons_zero, List.set_cons_succ, Nat.reduceAdd, maskF, finL_imp, Bool.not_false, Bool.not_true, Bool.true_and, Bool.false_and]
  have HX6 := Lib.hid (box_stays HX5.out hI)
  have HB6 := Lib.hid (below_then HB5.out HB5.out.size hI)
  clear hI hF HX5 HB5
  obtain ⟨w6, rfl⟩ : ∃ w6 : World, w6 = wq := ⟨_, rfl⟩
  go_upto_region 8 with fail
  refine draws_ (fun wq => Below w6.heap.size w6 wq) (fun _ => True) (by kernel_rfl) reg_5_8 rfl inv0 (fun _ _ _ _ => trivial) (below_drew (Below.refl _ _)) trivial ?_
  refine w_move (.inl rfl) (fun vs w hK => ⟨wants_none rfl, rho_out rfl rfl⟩) ?_
  refine w_move (.inl rfl) (fun vs w hK => ⟨wants_none rfl, rho_out rfl rfl⟩) ?_
  refine w_call [(40, _), (41, _)] _ _ (by decide) (fun vs w hK => ⟨wants_none rfl, rho_in rfl (fv (hK 0 (memE rfl))), rho_in rfl (fv (hK 1 (memE rfl))), trivial⟩) rfl rfl Try.func19 (by kernel_rfl) rfl (fun wq hI => pos_any _ _ wq) (margs rfl) ?_
  refine w_move (.inl rfl) (fun vs w hK => ⟨wants_none rfl, rho_out rfl rfl⟩) ?_
  refine w_move (.inl rfl) (fun vs w hK => ⟨wants_none rfl, rho_out rfl rfl⟩) ?_
  refine w_call [(43, _), (44, _)] _ _ (by decide) (fun vs w hK => ⟨wants_none rfl, rho_in rfl (fv (hK 3 (memE rfl))), rho_in rfl (fv (hK 4 (memE rfl))), trivial⟩) rfl rfl Try.func19 (by kernel_rfl) rfl (fun wq hI => pos_any _ _ wq) (margs rfl) ?_
  refine w_val [(42, _), (45, _)] (_) (fun vs w hK => ⟨wants_none rfl, rho_in rfl (fv (hK 2 (memE rfl))), rho_in rfl (fv (hK 5 (memE rfl))), trivial⟩) rfl (fun wq hI => by exact op_str_lss rfl rfl rfl (E2.out _)) ?_
  refine w_move (.inl rfl) (fun vs w hK => ⟨wants_none rfl, rho_out rfl rfl⟩) ?_
  refine w_val [(46, _), (47, _)] (_) (fun vs w hK => ⟨wants_none rfl, rho_in rfl (fv (hK 6 (memE rfl))), rho_in rfl (fv (hK 7 (memE rfl))), trivial⟩) rfl (fun wq hI => by exact op_bool_nq Try.underlying4 rfl rfl rfl rfl) ?_
  refine w_move (.inl rfl) (fun vs w hK => ⟨wants_none rfl, rho_in rfl (fv (hK 8 (memE rfl)))⟩) ?_
  refine w_valG [(5, _)] (_) (fun vs w hK => wantsF rfl (fv (hK 9 (memE rfl)))) (fun hG vs w hK => ⟨(rho_out rfl rfl), trivial⟩) rfl (fun hG wq hI => by exact run_load_op rfl rfl (load_hash HH.out (box_stays HX6.out hI))) ?_
  refine w_moveG (.inl rfl) (fun vs w hK => wantsF rfl (fv (hK 9 (memE rfl)))) (fun hG vs w hK => (rho_out rfl rfl)) ?_
  refine w_moveG (.inl rfl) (fun vs w hK => wantsF rfl (fv (hK 9 (memE rfl)))) (fun hG vs w hK => (rho_out rfl rfl)) ?_
  refine w_callG [(50, _), (51, _), (52, _)] _ _ (by decide) (fun vs w hK => wantsF rfl (fv (hK 9 (memE rfl)))) (fun hG vs w hK => ⟨(rho_in rfl (fvg (hK 10 (memE rfl)) hG)), (rho_in rfl (fvg (hK 11 (memE rfl)) hG)), (rho_in rfl (fvg (hK 12 (memE rfl)) hG)), trivial⟩) rfl rfl Try.func20 (by kernel_rfl) rfl (fun hG wq hI => hist_any h HH.out _ _ wq) (margs rfl) ?_
  refine w_valG [(5, _)] (_) (fun vs w hK => wantsF rfl (fv (hK 9 (memE rfl)))) (fun hG vs w hK => ⟨(rho_out rfl rfl), trivial⟩) rfl (fun hG wq hI => by exact run_load_op rfl rfl (load_hash HH.out (box_stays HX6.out hI))) ?_
  refine w_moveG (.inl rfl) (fun vs w hK => wantsF rfl (fv (hK 9 (memE rfl)))) (fun hG vs w hK => (rho_out rfl rfl)) ?_
  refine w_moveG (.inl rfl) (fun vs w hK => wantsF rfl (fv (hK 9 (memE rfl)))) (fun hG vs w hK => (rho_out rfl rfl)) ?_
  refine w_callG [(54, _), (55, _), (56, _)] _ _ (by decide) (fun vs w hK => wantsF rfl (fv (hK 9 (memE rfl)))) (fun hG vs w hK => ⟨(rho_in rfl (fvg (hK 14 (memE rfl)) hG)), (rho_in rfl (fvg (hK 15 (memE rfl)) hG)), (rho_in rfl (fvg (hK 16 (memE rfl)) hG)), trivial⟩) rfl rfl Try.func20 (by kernel_rfl) rfl (fun hG wq hI => hist_any h HH.out _ _ wq) (margs rfl) ?_
  refine w_valG [(53, _), (57, _)] (_) (fun vs w hK => wantsF rfl (fv (hK 9 (memE rfl)))) (fun hG vs w hK => ⟨(rho_in rfl (fvg (hK 13 (memE rfl)) hG)), (rho_in rfl (fvg (hK 17 (memE rfl)) hG)), trivial⟩) rfl (fun hG wq hI => by exact op_str_lss rfl rfl rfl (E2.out _)) ?_
  refine w_moveG (.inl rfl) (fun vs w hK => wantsF rfl (fv (hK 9 (memE rfl)))) (fun hG vs w hK => (rho_out rfl rfl)) ?_
  refine w_valG [(58, _), (59, _)] (_) (fun vs w hK => wantsF rfl (fv (hK 9 (memE rfl)))) (fun hG vs w hK => ⟨(rho_in rfl (fvg (hK 18 (memE rfl)) hG)), (rho_in rfl (fvg (hK 19 (memE rfl)) hG)), trivial⟩) rfl (fun hG wq hI => by exact op_bool_nq Try.underlying4 rfl rfl rfl rfl) ?_
  refine w_or rfl (fun vs w hK => wants_none rfl) (fun vs w hK => (rho_in rfl (fv (hK 9 (memE rfl))))) (fun hB vs w hK => (rho_in rfl (fvg (hK 20 (memE rfl)) (gnot hB)))) ?_
  refine w_move (.inl rfl) (fun vs w hK => ⟨wants_none rfl, rho_in rfl (fv (hK 21 (memE rfl)))⟩) ?_
  refine w_moveG (.inl rfl) (fun vs w hK => wantsF rfl (fv (hK 22 (memE rfl)))) (fun hG vs w hK => (rho_out rfl rfl)) ?_
  refine w_callG [(63, _)] _ _ (by decide) (fun vs w hK => wantsF rfl (fv (hK 22 (memE rfl)))) (fun hG vs w hK => ⟨(rho_in rfl (fvg (hK 23 (memE rfl)) hG)), trivial⟩) rfl rfl Try.func21 (by kernel_rfl) rfl (fun hG wq hI => Rw.head_any _ wq) (margs rfl) ?_
  refine w_moveG (.inl rfl) (fun vs w hK => wantsF rfl (fv (hK 22 (memE rfl)))) (fun hG vs w hK => (rho_out rfl rfl)) ?_
  refine w_callG [(65, _)] _ _ (by decide) (fun vs w hK => wantsF rfl (fv (hK 22 (memE rfl)))) (fun hG vs w hK => ⟨(rho_in rfl (fvg (hK 25 (memE rfl)) hG)), trivial⟩) rfl rfl Try.func21 (by kernel_rfl) rfl (fun hG wq hI => Rw.head_any _ wq) (margs rfl) ?_
  refine w_valG [(64, _), (66, _)] (_) (fun vs w hK => wantsF rfl (fv (hK 22 (memE rfl)))) (fun hG vs w hK => ⟨(rho_in rfl (fvg (hK 24 (memE rfl)) hG)), (rho_in rfl (fvg (hK 26 (memE rfl)) hG)), trivial⟩) rfl (fun hG wq hI => by exact op_str_lss rfl rfl rfl (E1.out _)) ?_
  refine w_moveG (.inl rfl) (fun vs w hK => wantsF rfl (fv (hK 22 (memE rfl)))) (fun hG vs w hK => (rho_out rfl rfl)) ?_
  refine w_moveG (.inl rfl) (fun vs w hK => wantsF rfl (fv (hK 22 (memE rfl)))) (fun hG vs w hK => (rho_out rfl rfl)) ?_
  refine w_valG [(68, _), (69, _)] (_) (fun vs w hK => wantsF rfl (fv (hK 22 (memE rfl)))) (fun hG vs w hK => ⟨(rho_in rfl (fvg (hK 28 (memE rfl)) hG)), (rho_in rfl (fvg (hK 29 (memE rfl)) hG)), trivial⟩) rfl (fun hG wq hI => by exact run_int_lss rfl rfl rfl rfl) ?_
  refine w_valG [(67, _), (70, _)] (_) (fun vs w hK => wantsF rfl (fv (hK 22 (memE rfl)))) (fun hG vs w hK => ⟨(rho_in rfl (fvg (hK 27 (memE rfl)) hG)), (rho_in rfl (fvg (hK 30 (memE rfl)) hG)), trivial⟩) rfl (fun hG wq hI => by exact op_bool_nq Try.underlying4 rfl rfl rfl rfl) ?_
  refine w_or rfl (fun vs w hK => wants_none rfl) (fun vs w hK => (rho_in rfl (fv (hK 22 (memE rfl))))) (fun hB vs w hK => (rho_in rfl (fvg (hK 31 (memE rfl)) (gnot hB)))) ?_
  refine w_as (c' := .bool false) (by simp) ?_
  refine w_endM [false, false, false, false, false, false, false, false, false, false, false, false, false, false, false, false, false, false, false, false, false, false, false, false, false, false, false, false, false, false, false, false, true] rfl rfl rfl (fun vs wq hI hF => ?_)
  simp only [List.reverse_cons, List.reverse_nil, List.nil_append, List.cons_append, finL_val, finL_of, finL_any, finL_app, finL_new, finL_gr, finL_row, finL_box, finL_nil, Act.put, List.setIfInBounds_toArray, List.set_cons_zero, List.set_cons_succ, Nat.reduceAdd, maskF, finL_imp, Bool.not_false, Bool.not_true, Bool.true_and, Bool.false_and]
  have HX7 := Lib.hid (box_stays HX6.out hI)
  have HB7 := Lib.hid (below_then HB6.out HB6.out.size hI)
  clear hI hF HX6 HB6
  obtain ⟨w7, rfl⟩ : ∃ w7 : World, w7 = wq := ⟨_, rfl⟩
  go_upto_region 10 with fail
  have hwa := HWA.out
  have LP := Lib.hid (fun x : Int => pt_length HH.out x)
  have LH : Hid ((nums .u8 h).length = 32) := Lib.hid (by simp [nums, HH.out])
  go_upto_region 11 with (first
    | (refine wpList_load_box rfl 32 (.tmp 5) rfl w.heap.size (nums .u8 h) rfl HX7.out Try.underlying32 rfl (by rw [LH.out]; exact size32) ?_)
    | (refine wpList_build_as rfl 39 #[(0, .tmp 73), (1, .tmp 75)] rfl (pt h (U a : Nat)).toArray [(0, .agg (nums .u8 h).toArray), (1, .int .u32 (U a : Nat))] rfl (built_pt h HH.out _) ?_)
    | (refine wpList_store_box rfl 39 (.tmp 12) (.tmp 76) rfl w7.heap.size (pt h (U a : Nat)) rfl rfl (heap_alloc_new w7 _) (by rw [LP.out]; try rfl) (by rw [LP.out]; exact size39) (pt_one _ _) ?_; intro w8 hs8; have HS8 := Lib.hid hs8; clear hs8))
  have hb8 : Below w7.heap.size w7 w8 := HS8.out.then_ (below_alloc (Below.refl _ _) _) (Nat.le_refl _)
  have HB8 := Lib.hid (below_then HB7.out HB7.out.size hb8)
  have HX8 := Lib.hid (box_stays HX7.out hb8)
  have HP8 := Lib.hid HS8.out.at_
  clear hb8 HS8 HB7 HX7 hwa
  generalize w7.heap.size = p8 at HP8 ⊢
  have hwc := HWC.out
  go_upto_region 12 with (first
    | (refine wpList_load_box rfl 32 (.tmp 5) rfl w.heap.size (nums .u8 h) rfl HX8.out Try.underlying32 rfl (by rw [LH.out]; exact size32) ?_)
    | (refine wpList_build_as rfl 39 #[(0, .tmp 77), (1, .tmp 79)] rfl (pt h (U c : Nat)).toArray [(0, .agg (nums .u8 h).toArray), (1, .int .u32 (U c : Nat))] rfl (built_pt h HH.out _) ?_)
    | (refine wpList_store_box rfl 39 (.tmp 13) (.tmp 80) rfl w8.heap.size (pt h (U c : Nat)) rfl rfl (heap_alloc_new w8 _) (by rw [LP.out]; try rfl) (by rw [LP.out]; exact size39) (pt_one _ _) ?_; intro w9 hs9; have HS9 := Lib.hid hs9; clear hs9))
  have hb9 : Below w8.heap.size w8 w9 := HS9.out.then_ (below_alloc (Below.refl _ _) _) (Nat.le_refl _)
  have HB9 := Lib.hid (below_then HB8.out HB8.out.size hb9)
  have HX9 := Lib.hid (box_stays HX8.out hb9)
  have HP9 := Lib.hid (box_stays HP8.out hb9)
  have HQ9 := Lib.hid HS9.out.at_
  clear hb9 HS9 HB8 HX8 HP8 hwc
  generalize w8.heap.size = p9 at HQ9 ⊢
  refine draws_ (fun wq => Below w9.heap.size w9 wq) (fun _ => True) (by kernel_rfl) reg_5_12 rfl inv0 (fun _ _ _ _ => trivial) (below_drew (Below.refl _ _)) trivial ?_
  refine w_val [(12, _)] (_) (fun vs w hK => ⟨wants_none rfl, rho_out rfl rfl, trivial⟩) rfl (fun wq hI => by exact run_load_op rfl rfl (load_pt HH.out (box_stays HP9.out hI))) ?_
  refine w_call [(81, _)] _ _ (by decide) (fun vs w hK => ⟨wants_none rfl, rho_in rfl (fv (hK 0 (memE rfl))), trivial⟩) rfl rfl Try.func22 (by kernel_rfl) rfl (fun wq hI => out_any h HH.out _ HOA.out wq) (margs rfl) ?_
  refine w_val [(13, _)] (_) (fun vs w hK => ⟨wants_none rfl, rho_out rfl rfl, trivial⟩) rfl (fun wq hI => by exact run_load_op rfl rfl (load_pt HH.out (box_stays HQ9.out hI))) ?_
  refine w_call [(83, _)] _ _ (by decide) (fun vs w hK => ⟨wants_none rfl, rho_in rfl (fv (hK 2 (memE rfl))), trivial⟩) rfl rfl Try.func22 (by kernel_rfl) rfl (fun wq hI => out_any h HH.out _ HOC.out wq) (margs rfl) ?_
  refine w_val [(82, _), (84, _)] (_) (fun vs w hK => ⟨wants_none rfl, rho_in rfl (fv (hK 1 (memE rfl))), rho_in rfl (fv (hK 3 (memE rfl))), trivial⟩) rfl (fun wq hI => by exact op_str_lss (r := decide (((U a : Nat) : Int) < ((U c : Nat) : Int))) rfl rfl rfl (by rw [← ByteArray.append_assoc, ← ByteArray.append_assoc]; exact E1.out _)) ?_
  refine w_move (.inl rfl) (fun vs w hK => ⟨wants_none rfl, rho_out rfl rfl⟩) ?_
  refine w_move (.inl rfl) (fun vs w hK => ⟨wants_none rfl, rho_out rfl rfl⟩) ?_
  refine w_val [(86, _), (87, _)] (_) (fun vs w hK => ⟨wants_none rfl, rho_in rfl (fv (hK 5 (memE rfl))), rho_in rfl (fv (hK 6 (memE rfl))), trivial⟩) rfl (fun wq hI => by exact run_int_lss rfl rfl rfl rfl) ?_
  refine w_val [(85, _), (88, _)] (_) (fun vs w hK => ⟨wants_none rfl, rho_in rfl (fv (hK 4 (memE rfl))), rho_in rfl (fv (hK 7 (memE rfl))), trivial⟩) rfl (fun wq hI => by exact op_bool_nq Try.underlying4 rfl rfl rfl rfl) ?_
  refine w_move (.inl rfl) (fun vs w hK => ⟨wants_none rfl, rho_in rfl (fv (hK 8 (memE rfl)))⟩) ?_
  refine w_valG [(5, _)] (_) (fun vs w hK => wantsF rfl (fv (hK 9 (memE rfl)))) (fun hG vs w hK => ⟨(rho_out rfl rfl), trivial⟩) rfl (fun hG wq hI => by exact run_load_op rfl rfl (load_hash HH.out (box_stays HX9.out hI))) ?_
  refine w_valG [(12, _)] (_) (fun vs w hK => wantsF rfl (fv (hK 9 (memE rfl)))) (fun hG vs w hK => ⟨(rho_out rfl rfl), trivial⟩) rfl (fun hG wq hI => by exact run_load_op rfl rfl (load_pt HH.out (box_stays HP9.out hI))) ?_
  refine w_callG [(91, _), (92, _)] _ _ (by decide) (fun vs w hK => wantsF rfl (fv (hK 9 (memE rfl)))) (fun hG vs w hK => ⟨(rho_in rfl (fvg (hK 10 (memE rfl)) hG)), (rho_in rfl (fvg (hK 11 (memE rfl)) hG)), trivial⟩) rfl rfl Try.func23 (by kernel_rfl) rfl (fun hG wq hI => unspent_any h HH.out h HH.out _ HOA.out wq) (margs rfl) ?_
  refine w_valG [(5, _)] (_) (fun vs w hK => wantsF rfl (fv (hK 9 (memE rfl)))) (fun hG vs w hK => ⟨(rho_out rfl rfl), trivial⟩) rfl (fun hG wq hI => by exact run_load_op rfl rfl (load_hash HH.out (box_stays HX9.out hI))) ?_
  refine w_valG [(13, _)] (_) (fun vs w hK => wantsF rfl (fv (hK 9 (memE rfl)))) (fun hG vs w hK => ⟨(rho_out rfl rfl), trivial⟩) rfl (fun hG wq hI => by exact run_load_op rfl rfl (load_pt HH.out (box_stays HQ9.out hI))) ?_
  refine w_callG [(94, _), (95, _)] _ _ (by decide) (fun vs w hK => wantsF rfl (fv (hK 9 (memE rfl)))) (fun hG vs w hK => ⟨(rho_in rfl (fvg (hK 13 (memE rfl)) hG)), (rho_in rfl (fvg (hK 14 (memE rfl)) hG)), trivial⟩) rfl rfl Try.func23 (by kernel_rfl) rfl (fun hG wq hI => unspent_any h HH.out h HH.out _ HOC.out wq) (margs rfl) ?_
  refine w_valG [(93, _), (96, _)] (_) (fun vs w hK => wantsF rfl (fv (hK 9 (memE rfl)))) (fun hG vs w hK => ⟨(rho_in rfl (fvg (hK 12 (memE rfl)) hG)), (rho_in rfl (fvg (hK 15 (memE rfl)) hG)), trivial⟩) rfl (fun hG wq hI => by exact op_str_lss (r := decide (((U a : Nat) : Int) < ((U c : Nat) : Int))) rfl rfl rfl (by rw [← ByteArray.append_assoc, ← ByteArray.append_assoc]; exact E1.out _)) ?_
  refine w_moveG (.inl rfl) (fun vs w hK => wantsF rfl (fv (hK 9 (memE rfl)))) (fun hG vs w hK => (rho_out rfl rfl)) ?_
  refine w_moveG (.inl rfl) (fun vs w hK => wantsF rfl (fv (hK 9 (memE rfl)))) (fun hG vs w hK => (rho_out rfl rfl)) ?_
  refine w_valG [(98, _), (99, _)] (_) (fun vs w hK => wantsF rfl (fv (hK 9 (memE rfl)))) (fun hG vs w hK => ⟨(rho_in rfl (fvg (hK 17 (memE rfl)) hG)), (rho_in rfl (fvg (hK 18 (memE rfl)) hG)), trivial⟩) rfl (fun hG wq hI => by exact run_int_lss rfl rfl rfl rfl) ?_
  refine w_valG [(97, _), (100, _)] (_) (fun vs w hK => wantsF rfl (fv (hK 9 (memE rfl)))) (fun hG vs w hK => ⟨(rho_in rfl (fvg (hK 16 (memE rfl)) hG)), (rho_in rfl (fvg (hK 19 (memE rfl)) hG)), trivial⟩) rfl (fun hG wq hI => by exact op_bool_nq Try.underlying4 rfl rfl rfl rfl) ?_
  refine w_or rfl (fun vs w hK => wants_none rfl) (fun vs w hK => (rho_in rfl (fv (hK 9 (memE rfl))))) (fun hB vs w hK => (rho_in rfl (fvg (hK 20 (memE rfl)) (gnot hB)))) ?_
  refine w_move (.inl rfl) (fun vs w hK => ⟨wants_none rfl, rho_in rfl (fv (hK 21 (memE rfl)))⟩) ?_
  refine w_moveG (.inl rfl) (fun vs w hK => wantsF rfl (fv (hK 22 (memE rfl)))) (fun hG vs w hK => (rho_out rfl rfl)) ?_
  refine w_moveG (.inl rfl) (fun vs w hK => wantsF rfl (fv (hK 22 (memE rfl)))) (fun hG vs w hK => (rho_out rfl rfl)) ?_
  refine w_moveG (.inl rfl) (fun vs w hK => wantsF rfl (fv (hK 22 (memE rfl)))) (fun hG vs w hK => (rho_out rfl rfl)) ?_
  refine w_callG [(104, _), (105, _), (106, _)] _ _ (by decide) (fun vs w hK => wantsF rfl (fv (hK 22 (memE rfl)))) (fun hG vs w hK => ⟨(rho_in rfl (fvg (hK 23 (memE rfl)) hG)), (rho_in rfl (fvg (hK 24 (memE rfl)) hG)), (rho_in rfl (fvg (hK 25 (memE rfl)) hG)), trivial⟩) rfl rfl Try.func24 (by kernel_rfl) rfl (fun hG wq hI => undo_any _ _ _ wq) (margs rfl) ?_
  refine w_moveG (.inl rfl) (fun vs w hK => wantsF rfl (fv (hK 22 (memE rfl)))) (fun hG vs w hK => (rho_out rfl rfl)) ?_
  refine w_moveG (.inl rfl) (fun vs w hK => wantsF rfl (fv (hK 22 (memE rfl)))) (fun hG vs w hK => (rho_out rfl rfl)) ?_
  refine w_moveG (.inl rfl) (fun vs w hK => wantsF rfl (fv (hK 22 (memE rfl)))) (fun hG vs w hK => (rho_out rfl rfl)) ?_
  refine w_callG [(108, _), (109, _), (110, _)] _ _ (by decide) (fun vs w hK => wantsF rfl (fv (hK 22 (memE rfl)))) (fun hG vs w hK => ⟨(rho_in rfl (fvg (hK 27 (memE rfl)) hG)), (rho_in rfl (fvg (hK 28 (memE rfl)) hG)), (rho_in rfl (fvg (hK 29 (memE rfl)) hG)), trivial⟩) rfl rfl Try.func24 (by kernel_rfl) rfl (fun hG wq hI => undo_any _ _ _ wq) (margs rfl) ?_
  refine w_valG [(107, _), (111, _)] (_) (fun vs w hK => wantsF rfl (fv (hK 22 (memE rfl)))) (fun hG vs w hK => ⟨(rho_in rfl (fvg (hK 26 (memE rfl)) hG)), (rho_in rfl (fvg (hK 30 (memE rfl)) hG)), trivial⟩) rfl (fun hG wq hI => by exact op_str_lss rfl rfl rfl (E3.out _)) ?_
  refine w_moveG (.inl rfl) (fun vs w hK => wantsF rfl (fv (hK 22 (memE rfl)))) (fun hG vs w hK => (rho_out rfl rfl)) ?_
  refine w_moveG (.inl rfl) (fun vs w hK => wantsF rfl (fv (hK 22 (memE rfl)))) (fun hG vs w hK => (rho_out rfl rfl)) ?_
  refine w_valG [(113, _), (114, _)] (_) (fun vs w hK => wantsF rfl (fv (hK 22 (memE rfl)))) (fun hG vs w hK => ⟨(rho_in rfl (fvg (hK 32 (memE rfl)) hG)), (rho_in rfl (fvg (hK 33 (memE rfl)) hG)), trivial⟩) rfl (fun hG wq hI => by exact run_int_lss rfl rfl rfl rfl) ?_
  refine w_valG [(112, _), (115, _)] (_) (fun vs w hK => wantsF rfl (fv (hK 22 (memE rfl)))) (fun hG vs w hK => ⟨(rho_in rfl (fvg (hK 31 (memE rfl)) hG)), (rho_in rfl (fvg (hK 34 (memE rfl)) hG)), trivial⟩) rfl (fun hG wq hI => by exact op_bool_nq Try.underlying4 rfl rfl rfl rfl) ?_
  refine w_or rfl (fun vs w hK => wants_none rfl) (fun vs w hK => (rho_in rfl (fv (hK 22 (memE rfl))))) (fun hB vs w hK => (rho_in rfl (fvg (hK 35 (memE rfl)) (gnot hB)))) ?_
  refine w_as (c' := .bool false) (by simp) ?_
  refine w_endM [false, false, false, false, false, false, false, false, false, false, false, false, false, false, false, false, false, false, false, false, false, false, false, false, false, false, false, false, false, false, false, false, false, false, false, false, true] rfl rfl rfl (fun vs wq hI hF => ?_)
  simp only [List.reverse_cons, List.reverse_nil, List.nil_append, List.cons_append, finL_val, finL_of, finL_any, finL_app, finL_new, finL_gr, finL_row, finL_box, finL_nil, Act.put, List.setIfInBounds_toArray, List.set_cons_zero, List.set_cons_succ, Nat.reduceAdd, maskF, finL_imp, Bool.not_false, Bool.not_true, Bool.true_and, Bool.false_and]
  have HX10 := Lib.hid (box_stays HX9.out hI)
  have HP10 := Lib.hid (box_stays HP9.out hI)
  have HB10 := Lib.hid (below_then HB9.out HB9.out.size hI)
  clear hI hF HX9 HP9 HQ9 HB9
  obtain ⟨w10, rfl⟩ : ∃ w10 : World, w10 = wq := ⟨_, rfl⟩
  have hmm := @run_makeMap Try.prog
  go_upto_region 15 with fail
  have hown : (w10.alloc (.map #[] 0)).ownsMap Try.prog 5 (plainElem (H := Unit) Try.prog 4) w10.heap.size 0 (seen 0) := World.ownsMap_made _ _ _ _
  have hbm : Below w10.heap.size w10 (w10.alloc (.map #[] 0)) := below_alloc (Below.refl _ _) _
  have HX11 := Lib.hid (box_stays HX10.out hbm)
  have HP11 := Lib.hid (box_stays HP10.out hbm)
  have HB11 := Lib.hid (below_then HB10.out HB10.out.size hbm)
  have HMB : Hid (w.heap.size ≤ w10.heap.size) := Lib.hid HB10.out.size
  have HO11 := Lib.hid hown
  clear hbm hmm hown HX10 HP10 HB10
  generalize w10.alloc (.map #[] 0) = w11 at HO11 HX11 HP11 HB11 ⊢
  generalize w10.heap.size = mb at HO11 HMB ⊢
  refine draws_ (fun wq => Below w11.heap.size w11 wq) (fun _ => True) (by kernel_rfl) reg_5_15 rfl inv0 (fun _ _ _ _ => trivial) (below_drew (Below.refl _ _)) trivial ?_
  refine w_call [] _ _ (by decide) (fun vs w hK => ⟨wants_none rfl, trivial⟩) rfl rfl Try.func25 (by kernel_rfl) rfl (fun wq hI => tip_any wq) (margs rfl) ?_
  refine w_call [] _ _ (by decide) (fun vs w hK => ⟨wants_none rfl, trivial⟩) rfl rfl Try.func26 (by kernel_rfl) rfl (fun wq hI => low_any wq) (margs rfl) ?_
  refine w_move (.inl rfl) (fun vs w hK => ⟨wants_none rfl, rho_out rfl rfl⟩) ?_
  refine w_call [(121, _)] _ _ (by decide) (fun vs w hK => ⟨wants_none rfl, rho_in rfl (fv (hK 2 (memE rfl))), trivial⟩) rfl rfl Try.func21 (by kernel_rfl) rfl (fun wq hI => Rw.head_any _ wq) (margs rfl) ?_
  refine w_val [(5, _)] (_) (fun vs w hK => ⟨wants_none rfl, rho_out rfl rfl, trivial⟩) rfl (fun wq hI => by exact run_load_op rfl rfl (load_hash HH.out (box_stays HX11.out hI))) ?_
  refine w_call [(123, _)] _ _ (by decide) (fun vs w hK => ⟨wants_none rfl, rho_in rfl (fv (hK 4 (memE rfl))), trivial⟩) rfl rfl Try.func27 (by kernel_rfl) rfl (fun wq hI => tx_any h HH.out wq) (margs rfl) ?_
  refine w_move (.inl rfl) (fun vs w hK => ⟨wants_none rfl, rho_out rfl rfl⟩) ?_
  refine w_move (.inl rfl) (fun vs w hK => ⟨wants_none rfl, rho_out rfl rfl⟩) ?_
  refine w_call [(125, _), (126, _)] _ _ (by decide) (fun vs w hK => ⟨wants_none rfl, rho_in rfl (fv (hK 6 (memE rfl))), rho_in rfl (fv (hK 7 (memE rfl))), trivial⟩) rfl rfl Try.func19 (by kernel_rfl) rfl (fun wq hI => pos_any _ _ wq) (margs rfl) ?_
  refine w_val [(5, _)] (_) (fun vs w hK => ⟨wants_none rfl, rho_out rfl rfl, trivial⟩) rfl (fun wq hI => by exact run_load_op rfl rfl (load_hash HH.out (box_stays HX11.out hI))) ?_
  refine w_move (.inl rfl) (fun vs w hK => ⟨wants_none rfl, rho_out rfl rfl⟩) ?_
  refine w_move (.inl rfl) (fun vs w hK => ⟨wants_none rfl, rho_out rfl rfl⟩) ?_
  refine w_call [(128, _), (129, _), (130, _)] _ _ (by decide) (fun vs w hK => ⟨wants_none rfl, rho_in rfl (fv (hK 9 (memE rfl))), rho_in rfl (fv (hK 10 (memE rfl))), rho_in rfl (fv (hK 11 (memE rfl))), trivial⟩) rfl rfl Try.func20 (by kernel_rfl) rfl (fun wq hI => hist_any h HH.out _ _ wq) (margs rfl) ?_
  refine w_val [(5, _)] (_) (fun vs w hK => ⟨wants_none rfl, rho_out rfl rfl, trivial⟩) rfl (fun wq hI => by exact run_load_op rfl rfl (load_hash HH.out (box_stays HX11.out hI))) ?_
  refine w_val [(12, _)] (_) (fun vs w hK => ⟨wants_none rfl, rho_out rfl rfl, trivial⟩) rfl (fun wq hI => by exact run_load_op rfl rfl (load_pt HH.out (box_stays HP11.out hI))) ?_
  refine w_call [(132, _), (133, _)] _ _ (by decide) (fun vs w hK => ⟨wants_none rfl, rho_in rfl (fv (hK 13 (memE rfl))), rho_in rfl (fv (hK 14 (memE rfl))), trivial⟩) rfl rfl Try.func23 (by kernel_rfl) rfl (fun wq hI => unspent_any h HH.out h HH.out _ HOA.out wq) (margs rfl) ?_
  refine w_val [(12, _)] (_) (fun vs w hK => ⟨wants_none rfl, rho_out rfl rfl, trivial⟩) rfl (fun wq hI => by exact run_load_op rfl rfl (load_pt HH.out (box_stays HP11.out hI))) ?_
  refine w_call [(135, _)] _ _ (by decide) (fun vs w hK => ⟨wants_none rfl, rho_in rfl (fv (hK 16 (memE rfl))), trivial⟩) rfl rfl Try.func22 (by kernel_rfl) rfl (fun wq hI => out_any h HH.out _ HOA.out wq) (margs rfl) ?_
  refine w_val [(12, _)] (_) (fun vs w hK => ⟨wants_none rfl, rho_out rfl rfl, trivial⟩) rfl (fun wq hI => by exact run_load_op rfl rfl (load_pt HH.out (box_stays HP11.out hI))) ?_
  refine w_call [(137, _)] _ _ (by decide) (fun vs w hK => ⟨wants_none rfl, rho_in rfl (fv (hK 18 (memE rfl))), trivial⟩) rfl rfl Try.func28 (by kernel_rfl) rfl (fun wq hI => spent_any h HH.out _ HOA.out wq) (margs rfl) ?_
  refine w_move (.inl rfl) (fun vs w hK => ⟨wants_none rfl, rho_out rfl rfl⟩) ?_
  refine w_move (.inl rfl) (fun vs w hK => ⟨wants_none rfl, rho_out rfl rfl⟩) ?_
  refine w_move (.inl rfl) (fun vs w hK => ⟨wants_none rfl, rho_out rfl rfl⟩) ?_
  refine w_call [(139, _), (140, _), (141, _)] _ _ (by decide) (fun vs w hK => ⟨wants_none rfl, rho_in rfl (fv (hK 20 (memE rfl))), rho_in rfl (fv (hK 21 (memE rfl))), rho_in rfl (fv (hK 22 (memE rfl))), trivial⟩) rfl rfl Try.func24 (by kernel_rfl) rfl (fun wq hI => undo_any _ _ _ wq) (margs rfl) ?_
  refine w_lits (by decide) [(119, _), (120, _), (122, _), (124, _), (127, _), (131, _), (134, _), (136, _), (138, _), (142, _)] (keysOf h (U a : Nat) (U a : Nat) (U b : Nat) (U a : Nat) (U b : Nat) (U a : Nat) (U a : Nat) (U a : Nat) (U a : Nat) (U b : Nat) (U c : Nat)) _ ts9 (fun vs w hK => ⟨wants_none rfl, rho_in rfl (fv (hK 0 (memE rfl))), rho_in rfl (fv (hK 1 (memE rfl))), rho_in rfl (fv (hK 3 (memE rfl))), rho_in rfl (fv (hK 5 (memE rfl))), rho_in rfl (fv (hK 8 (memE rfl))), rho_in rfl (fv (hK 12 (memE rfl))), rho_in rfl (fv (hK 15 (memE rfl))), rho_in rfl (fv (hK 17 (memE rfl))), rho_in rfl (fv (hK 19 (memE rfl))), rho_in rfl (fv (hK 23 (memE rfl))), trivial⟩) rfl rfl rfl (by decide) (by decide) rfl _ (fun wq hI => hI.size) ?_
  refine w_any (.val (.int .i64 10)) (by decide) (fun vs wq hI hK => ?_) ?_
  · obtain ⟨g, e1, _⟩ : ∃ g, vs 24 = .slice (some ⟨g, 0, none⟩) 10 10 ∧ _ := hK 24 (memE rfl)
    exact ob_run [(143, .slice (some ⟨g, 0, none⟩) 10 10)] (wants_none rfl) ⟨rho_in rfl e1, trivial⟩ rfl (run_len_sl rfl Try.underlying46 rfl rfl) ⟨Below.refl _ _, rfl⟩
  refine w_const (.inl rfl) (fun vs w hK => wants_none rfl) ?_
  refine w_end rfl rfl rfl (fun vs wq hI hF => ?_)
  simp only [List.reverse_cons, List.reverse_nil, List.nil_append, List.cons_append, finL_val, finL_of, finL_any, finL_app, finL_new, finL_gr, finL_row, finL_box, finL_nil, Act.put, List.setIfInBounds_toArray, List.set_cons_zero, List.set_cons_succ, Nat.reduceAdd]
  obtain ⟨g, e24, hg0, hg⟩ : ∃ g, vs 24 = .slice (some ⟨g, 0, none⟩) 10 10 ∧ w11.heap.size ≤ g ∧ wq.heap[g]? = some (.cells (encs Value.string (keysOf h (U a : Nat) (U a : Nat) (U b : Nat) (U a : Nat) (U b : Nat) (U a : Nat) (U a : Nat) (U a : Nat) (U a : Nat) (U b : Nat) (U c : Nat))).toArray 9) := hF 24 (by decide) rfl
  simp only [e24]
  have HT := Lib.hid (ten_keys h HH.out (U a : Nat) (U a : Nat) (U b : Nat) (U a : Nat) (U b : Nat) (U a : Nat) (U a : Nat) (U a : Nat) (U a : Nat) (U b : Nat) (U c : Nat))
  generalize keysOf h (U a : Nat) (U a : Nat) (U b : Nat) (U a : Nat) (U b : Nat) (U a : Nat) (U a : Nat) (U a : Nat) (U a : Nat) (U b : Nat) (U c : Nat) = ks at hg HT ⊢
  have HMG : Hid (mb ≠ g) := Lib.hid (by have := HO11.out.lt; omega)
  have HO12 : Hid (wq.ownsMap Try.prog 5 (plainElem (H := Unit) Try.prog 4) mb 0 (seen 0)) := Lib.hid (HO11.out.kept (row := none) ⟨hI.os, hI.tape, hI.output, hI.size, fun k hk _ => hI.block k hk⟩ (by simp))
  have HB12 := Lib.hid (below_then HB11.out HB11.out.size hI)
  have HG12 := Lib.hid hg
  obtain ⟨ad, had⟩ : ∃ ad : Addr, ad = ⟨g, 0, none⟩ := ⟨_, rfl⟩
  rw [← had]
  have HAD := Lib.hid had
  clear hI hF hg hg0 e24 had HX11 HP11 HO11 HB11 E1 E2 E3 HWA HWC HOA HOC LP LH HH HL
  obtain ⟨w12, rfl⟩ : ∃ w12 : World, w12 = wq := ⟨_, rfl⟩
  go_wp2_with fail
  go_loopw [145] (fun i wr => ∃ k : Nat, k ≤ 10 ∧ i = .int .i64 k ∧ Hid (wr.ownsMap Try.prog 5 (plainElem (H := Unit) Try.prog 4) mb k (seen k)) ∧ Hid (wr.heap[g]? = some (.cells (encs Value.string ks).toArray 9)) ∧ Hid (Below w.heap.size w wr)) (fun i _ => 10 - (intOf i).toNat)
  case atStart => exact ⟨0, by omega, rfl, HO12, HG12, HB12⟩
  case round =>
    obtain ⟨k, hk, rfl, HO, HG, HW⟩ := hrel
    by_cases hlt : k < 10
    · have hrd := mk_rds (enc := Value.string) (h1 := fun _ => rfl) (cap := 10) default HG.out (Nat.le_of_eq HT.out.len) (by omega) (by rw [List.take_of_length_le (by simp [encs])])
      rw [HT.out.len, ← HAD.out] at hrd
      obtain ⟨ad2, e2, hc⟩ := rds_at default hrd k hlt
      injection e2 with e2
      rw [← e2] at hc
      clear e2 ad2 hrd
      obtain ⟨k1, k2, k3⟩ := HT.out.each k hlt
      generalize ks.getD k default = s at hc k1 k2 k3
      have K1 := Lib.hid k1
      have K3 := Lib.hid k3
      have t1 : decide ((128 : Int) < (s.size : Int)) = false := decide_eq_false (by omega)
      have HN := Lib.hid (seen_not k hlt)
      have HKY := Lib.hid (keyOf_int_mk (P := Try.prog) Try.underlying5 (fb_wf k hlt))
      clear k1 k3
      go_wp2_with (first
        | (refine wpList_index_str rfl 9 _ _ rfl Try.underlying9 rfl rfl rfl K1.out K3.out ?_)
        | (refine wpList_lookup_bool _ rfl _ _ 43 rfl 5 4 (int_keyed Try.underlying5) Try.underlying43 Try.underlying4 (zero4 _) mb k (seen k) rfl HO.out _ _ rfl HKY.out HN.out ?_)
        | (at_mapUpdate; refine wpList_mapUpdate_own _ rfl _ _ _ 43 rfl 5 4 (int_keyed Try.underlying5) Try.underlying43 _ mb k (seen k) rfl HO.out (by unfold maxLen; omega) _ _ _ rfl rfl HKY.out _ [] (plainElem_bool Try.underlying4 true) ?_; intro w1 ho1 hg1; have HO1 : Hid (w1.ownsMap Try.prog 5 (plainElem (H := Unit) Try.prog 4) mb (k + 1) (seen (k + 1))) := Lib.hid ho1; have HG1 := Lib.hid hg1; clear ho1 hg1))
      go_roundw
      case rel => exact ⟨k + 1, by omega, by go_num, HO1, Lib.hid ((HG1.out.block g (mk_lt HG.out) (fun h => HMG.out (by injection h with h; exact h.symm))).trans HG.out), Lib.hid (HW.out.grown HG1.out HW.out.size (fun j hj => by cases hj; exact HMB.out))⟩
      case measure => simp [intOf]; omega
    · obtain rfl : k = 10 := by omega
      go_wp2_with fail
      go_ret
      exact ⟨rfl, HW.out⟩
end Go.Proofs.Ytglkagicmolbeaa.Rw

