/- Contracts of package rows: at, hash, Parse... -/
import Derived.Test.YtglkagicmolbeaaRowsD
import Derived.Test.YtglkagicmolbeaaSt
namespace Go.Proofs.Ytglkagicmolbeaa.Rw
set_option linter.unusedVariables false
set_option linter.unusedSimpArgs false
open Go.Proofs.Ytglkagicmolbeaa.Kit Go.Proofs.Ytglkagicmolbeaa.Num Go.RowKit Go.Proofs.YtglkagicmolbeaaW.PrintWords Go.Proofs.YtglkagicmolbeaaW.PrintLast Go.Proofs.YtglkagicmolbeaaW.PrintMore NumPure
/-- The number of four bytes. -/
def A4 (s : ByteArray) (i : Nat) : Nat := beVal (((numsOf s).drop i).take 4)
theorem cut_len (s : ByteArray) (i k : Nat) (h : i + k ≤ s.size) : (((numsOf s).drop i).take k).length = k := by rw [List.length_take, List.length_drop, numsOf_length]; omega
theorem cut_isByte (s : ByteArray) (i k : Nat) : Byte (((numsOf s).drop i).take k) := Byte.take (Byte.drop (numsOf_byte s) _) _
theorem A4_lt (s : ByteArray) (i : Nat) (h : i + 4 ≤ s.size) : A4 s i < 4294967296 := by
  have := beVal_lt (cut_isByte s i 4)
  rw [cut_len s i 4 h] at this
  exact this
set_option maxRecDepth 20000 in
set_option maxHeartbeats 1600000 in
theorem at_any (s : ByteArray) (hs : s.size ≤ 140737488355328) (i : Nat) (h : i + 4 ≤ s.size) (w : World) : Calls Try.prog 60 #[.string s, .int .i64 i] w fun e w' => e = .returned (.int .i64 (A4 s i)) ∧ Below w.heap.size w w' := by
  have hA := A4_lt s i h
  have hT : numsOf (s.extract i (i + 4)) = ((numsOf s).drop i).take 4 := by rw [numsOf_extract, show i + 4 - i = 4 by omega]
  have hTs : (s.extract i (i + 4)).size = 4 := by rw [← numsOf_length, hT, cut_len s i 4 h]
  obtain ⟨v3, w3, hcv, hb3, ho3, _⟩ := conv_bytes (t := 22) Try.underlying9 Try.underlying22 Try.underlying5 w (s.extract i (i + 4)) (by simp only [maxLen]; omega) (Nat.le_refl w.heap.size)
  obtain ⟨A3, n3, c3, rfl, h3c, HL3, h3m, hr3⟩ := gr_open ho3
  obtain rfl : n3 = 4 := by have := HL3.out; rw [numsOf_length, hTs] at this; exact this.symm
  have C1 := Lib.hid (big_val A3 4 c3 _ w3 hr3 HL3.out (by omega) h3c (numsOf_byte _))
  rw [List.take_of_length_le (by rw [numsOf_length, hTs]; omega), hT] at C1
  have hA4 : beVal (((numsOf s).drop i).take 4) = A4 s i := rfl
  rw [hA4] at C1
  generalize A4 s i = a at hA C1
  have hw : IntKind.i64.wrap (a : Int) = (a : Int) := i64_id (by omega) (by omega)
  have i0 : (0 : Int) ≤ (i : Int) := by omega
  have i1 : (i : Int) ≤ (i : Int) + 4 := by omega
  have i2 : (i : Int) + 4 ≤ (s.size : Int) := by omega
  have HB3 := Lib.hid hb3
  clear ho3 hr3 hb3 hT hTs hA4
  go_enter Try.func60, Try.ntmps60
  go_wp2_with fail
  refine C1.out.mono ?_
  rintro e w' ⟨rfl, rfl⟩
  go_wp2_with fail
  go_ret
  exact ⟨rfl, HB3.out⟩
/-- What 32 bytes are. -/
def H32 (s : ByteArray) : List Int := (numsOf s).take 32
theorem nums_one (k : IntKind) (l : List Int) : (nums k l).all (·.oneCell') = true := by
  rw [List.all_eq_true]
  intro v hv
  obtain ⟨x, _, rfl⟩ := List.mem_map.1 hv
  rfl
set_option maxRecDepth 20000 in
set_option maxHeartbeats 1600000 in
theorem hash_any (s : ByteArray) (hs : s.size ≤ 140737488355328) (h : 32 ≤ s.size) (w : World) : Calls Try.prog 59 #[.string s] w fun e w' => e = .returned (.agg (nums .u8 (H32 s)).toArray) ∧ Below w.heap.size w w' := by
  have hT : numsOf (s.extract 0 32) = H32 s := by rw [numsOf_extract, List.drop_zero]; rfl
  have hTl : (H32 s).length = 32 := by unfold H32; rw [List.length_take, numsOf_length]; omega
  have hTs : (s.extract 0 32).size = 32 := by rw [← numsOf_length, hT, hTl]
  go_enter Try.func59, Try.ntmps59
  go_upto_region 1 with fail
  have hx1 : (w.alloc (.cells (nums .u8 (List.replicate 32 0)).toArray 32)).heap[w.heap.size]? = some (.cells (nums .u8 (List.replicate 32 0)).toArray 32) := heap_alloc_new w _
  have hb1 : Below w.heap.size w (w.alloc (.cells (nums .u8 (List.replicate 32 0)).toArray 32)) := below_alloc (Below.refl _ _) _
  change Code.wp _ _ _ _ (w.alloc (.cells (nums .u8 (List.replicate 32 0)).toArray 32))
  generalize w.alloc (.cells (nums .u8 (List.replicate 32 0)).toArray 32) = w1 at hx1 hb1 ⊢
  obtain ⟨v3, w3, hcv, hb3, ho3, _⟩ := conv_bytes (t := 22) Try.underlying9 Try.underlying22 Try.underlying5 w1 (s.extract 0 32) (by simp only [maxLen]; omega) (Nat.le_refl w1.heap.size)
  obtain ⟨A3, n3, c3, rfl, h3c, HL3, h3m, hr3⟩ := gr_open ho3
  obtain rfl : n3 = 32 := by have := HL3.out; rw [numsOf_length, hTs] at this; exact this.symm
  rw [hT] at hr3
  have hA3 : ∃ ad, A3 = some ad ∧ ∀ j v, (nums .u8 (H32 s))[j]? = some v → w3.cell? (ad.add j) = some v := by
    obtain ⟨ad, e1, _⟩ := rds_at 0 hr3 0 (by omega)
    refine ⟨ad, e1, fun j v hv => ?_⟩
    have hj : j < 32 := by
      have := (List.getElem?_eq_some_iff.1 hv).1
      simpa [nums, hTl] using this
    obtain ⟨ad2, e2, hc⟩ := rds_at 0 hr3 j hj
    rw [e1] at e2
    injection e2 with e2
    subst e2
    rw [hc, ← hv]
    simp [nums, List.getD_eq_getElem?_getD, List.getElem?_eq_getElem (show j < (H32 s).length by omega)]
  obtain ⟨ad, rfl, hcell⟩ := hA3
  have hnl : (nums .u8 (H32 s)).length = 32 := by simp [nums, hTl]
  have HX3 := Lib.hid (box_stays hx1 hb3)
  have HB3 := Lib.hid (below_then hb1 hb1.size hb3)
  have HC := Lib.hid hcell
  have HN := Lib.hid hnl
  have i2 : (32 : Int) ≤ (s.size : Int) := by omega
  have harr : (Instr.arrayAt 32 (.slice (some ad) 32 c3)).run Try.prog w3 = .ok (.pointer (some ad)) w3 := by simp [Instr.arrayAt, run_underlying Try.underlying32]
  clear hx1 hb1 hb3 ho3 hr3 hcell hnl hT hTs HL3
  go_wp2_with (first
    | (refine wpList_load_at rfl 32 (.tmp 6) rfl ad (nums .u8 (H32 s)) rfl HC.out Try.underlying32 rfl (by rw [HN.out]; kernel_rfl) ?_)
    | (refine wpList_store_box rfl 32 (.tmp 2) (.tmp 7) rfl w.heap.size (nums .u8 (H32 s)) rfl rfl HX3.out (by rw [HN.out]; rfl) (by rw [HN.out]; kernel_rfl) (nums_one _ _) ?_; intro w7 hs7; have HS7 := Lib.hid hs7; clear hs7))
  (try simp only [Exit.inBlock, Exit.then])
  refine bodyPost_ret (results_box rfl rfl (loadVar_box HS7.out.at_ Try.underlying32 rfl (by rw [HN.out]; kernel_rfl))) rfl ?_
  exact ⟨rfl, HS7.out.then_ HB3.out (Nat.le_refl _)⟩
set_option maxRecDepth 20000 in
set_option maxHeartbeats 1600000 in
theorem parsePlace_any (s : ByteArray) (hs : s.size ≤ 140737488355328) (w : World) : Calls Try.prog 49 #[.string s] w fun e w' => e = .returned (.tuple #[.int .i64 (if s.size = 41 then A4 s 33 else 0), .int .i64 (if s.size = 41 then A4 s 37 else 0), .int .i64 (if s.size = 41 then 0 else 12)]) ∧ Below w.heap.size w w' := by
  by_cases h : s.size = 41
  · have C1 := Lib.hid (fun wq => at_any s hs 33 (by omega) wq)
    have C2 := Lib.hid (fun wq => at_any s hs 37 (by omega) wq)
    rw [if_pos h, if_pos h, if_pos h]
    generalize A4 s 33 = a at C1
    generalize A4 s 37 = b at C2
    have t1 : ((s.size : Int) != 41) = false := by rw [h]; rfl
    clear h
    go_enter Try.func49, Try.ntmps49
    go_wp2_with fail
    refine (C1.out _).mono ?_
    rintro e w1 ⟨rfl, hb1⟩
    have HB1 := Lib.hid hb1
    clear hb1
    go_wp2_with fail
    refine (C2.out _).mono ?_
    rintro e w2 ⟨rfl, hb2⟩
    have HB2 := Lib.hid (below_then HB1.out HB1.out.size hb2)
    clear hb2
    go_wp2_with fail
    go_ret3
    exact ⟨rfl, HB2.out⟩
  · rw [if_neg h, if_neg h, if_neg h]
    have t1 : ((s.size : Int) != 41) = true := by simp; omega
    clear h
    go_enter Try.func49, Try.ntmps49
    go_wp2_with fail
    go_ret3
    exact ⟨rfl, Below.refl _ _⟩
/-- s begins with t. -/
def BG (s t : ByteArray) : Bool := decide (t.size ≤ s.size) && decide (s.extract 0 t.size = t)
theorem reg_48_1 : RegOk (opsOf Try.f48 1) [[], [0], [], [2], [0, 1, 2, 3], [0, 1, 2, 3, 4], [0, 1, 2, 3, 4, 5], [0, 1, 2, 3, 4, 5], [0, 1, 2, 3, 4, 5, 7], [0, 1, 2, 3, 4, 5, 6, 7, 8], [0, 1, 2, 3, 4, 5], [0, 1, 2, 3, 4, 5, 6, 7, 8, 9, 10], [0, 1, 2, 3, 4, 5, 6, 7, 8, 9, 10, 11], [0, 1, 2, 3, 4, 5, 6, 7, 8, 9, 10, 11, 12]] [] [some 5, some 6, some 7, some 8, some 9, some 10, some 11, some 12, some 13, some 14, some 15, some 16, some 17, some 4] := regOk (by kernel_rfl)
set_option maxRecDepth 20000 in
set_option maxHeartbeats 1600000 in
theorem begins_any (s t : ByteArray) (w : World) : Calls Try.prog 48 #[.string s, .string t] w fun e w' => e = .returned (.bool (BG s t)) ∧ Below w.heap.size w w' := by
  have HBG : Hid ((decide ((t.size : Int) ≤ (s.size : Int)) && decide (s.extract 0 t.size = t)) = BG s t) := Lib.hid (by
    unfold BG
    congr 1
    exact decide_eq_decide.2 (by omega))
  generalize BG s t = B at HBG ⊢
  go_enter Try.func48, Try.ntmps48
  go_upto_region 1 with fail
  refine plain_ (fun wq => Below w.heap.size w wq) (fun _ => True) reg_48_1 rfl inv0 (fun _ _ _ _ => trivial) (Below.refl _ _) trivial ?_
  refine w_move (.inl rfl) (fun vs w hK => ⟨wants_none rfl, rho_out rfl rfl⟩) ?_
  refine w_val [(5, _)] (_) (fun vs w hK => ⟨wants_none rfl, rho_in rfl (fv (hK 0 (memE rfl))), trivial⟩) rfl (fun wq hI => by exact run_len_str rfl Try.underlying9 rfl rfl) ?_
  refine w_move (.inl rfl) (fun vs w hK => ⟨wants_none rfl, rho_out rfl rfl⟩) ?_
  refine w_val [(7, _)] (_) (fun vs w hK => ⟨wants_none rfl, rho_in rfl (fv (hK 2 (memE rfl))), trivial⟩) rfl (fun wq hI => by exact run_len_str rfl Try.underlying9 rfl rfl) ?_
  refine w_val [(6, _), (8, _)] (_) (fun vs w hK => ⟨wants_none rfl, rho_in rfl (fv (hK 1 (memE rfl))), rho_in rfl (fv (hK 3 (memE rfl))), trivial⟩) rfl (fun wq hI => by exact run_int_geq rfl rfl rfl (r := decide ((t.size : Int) ≤ (s.size : Int))) rfl) ?_
  refine w_move (.inl rfl) (fun vs w hK => ⟨wants_none rfl, rho_in rfl (fv (hK 4 (memE rfl)))⟩) ?_
  refine w_moveG (.inl rfl) (fun vs w hK => wantsT rfl (fv (hK 5 (memE rfl)))) (fun hG vs w hK => (rho_out rfl rfl)) ?_
  refine w_moveG (.inl rfl) (fun vs w hK => wantsT rfl (fv (hK 5 (memE rfl)))) (fun hG vs w hK => (rho_out rfl rfl)) ?_
  refine w_valG [(12, _)] (_) (fun vs w hK => wantsT rfl (fv (hK 5 (memE rfl)))) (fun hG vs w hK => ⟨(rho_in rfl (fvg (hK 7 (memE rfl)) hG)), trivial⟩) rfl (fun hG wq hI => by exact run_len_str rfl Try.underlying9 rfl rfl) ?_
  refine w_valG [(11, _), (13, _)] (_) (fun vs w hK => wantsT rfl (fv (hK 5 (memE rfl)))) (fun hG vs w hK => ⟨(rho_in rfl (fvg (hK 6 (memE rfl)) hG)), (rho_in rfl (fvg (hK 8 (memE rfl)) hG)), trivial⟩) rfl (fun hG wq hI => by exact op_cut_to (b := t.size) rfl Try.underlying9 rfl rfl rfl (by have := of_decide_eq_true hG; omega) rfl) ?_
  refine w_moveG (.inl rfl) (fun vs w hK => wantsT rfl (fv (hK 5 (memE rfl)))) (fun hG vs w hK => (rho_out rfl rfl)) ?_
  refine w_valG [(14, _), (15, _)] (_) (fun vs w hK => wantsT rfl (fv (hK 5 (memE rfl)))) (fun hG vs w hK => ⟨(rho_in rfl (fvg (hK 9 (memE rfl)) hG)), (rho_in rfl (fvg (hK 10 (memE rfl)) hG)), trivial⟩) rfl (fun hG wq hI => by exact op_str_eq rfl rfl rfl rfl) ?_
  refine w_and rfl (fun vs w hK => wants_none rfl) (fun vs w hK => (rho_in rfl (fv (hK 5 (memE rfl))))) (fun hB vs w hK => (rho_in rfl (fvg (hK 11 (memE rfl)) hB))) ?_
  refine w_as (c' := .bool B) (congrArg Value.bool HBG.out) ?_
  refine w_move (.inr rfl) (fun vs w hK => ⟨wants_none rfl, rho_in rfl (fv (hK 12 (memE rfl)))⟩) ?_
  refine w_endM [false, false, false, false, false, false, false, false, false, false, false, false, false, true] rfl rfl rfl (fun vs wq hI hF => ?_)
  simp only [List.reverse_cons, List.reverse_nil, List.nil_append, List.cons_append, finL_val, finL_of, finL_any, finL_app, finL_new, finL_gr, finL_row, finL_box, finL_nil, Act.put, List.setIfInBounds_toArray, List.set_cons_zero, List.set_cons_succ, Nat.reduceAdd, maskF, finL_imp, Bool.not_false, Bool.not_true, Bool.true_and, Bool.false_and]
  have HW := Lib.hid hI
  clear hI hF
  go_wp2_with fail
  go_ret
  exact ⟨rfl, HW.out⟩
theorem pt_one (id : List Int) (a : Int) : (pt id a).all (·.oneCell') = true := by
  unfold pt
  rw [List.all_append, nums_one]
  rfl
theorem built_pt' (x0 x1 x2 x3 x4 x5 x6 x7 x8 x9 x10 x11 x12 x13 x14 x15 x16 x17 x18 x19 x20 x21 x22 x23 x24 x25 x26 x27 x28 x29 x30 x31 a : Int) : Try.prog.built 39 [(0, .agg (nums .u8 [x0, x1, x2, x3, x4, x5, x6, x7, x8, x9, x10, x11, x12, x13, x14, x15, x16, x17, x18, x19, x20, x21, x22, x23, x24, x25, x26, x27, x28, x29, x30, x31]).toArray), (1, .int .u32 a)] = some (pt [x0, x1, x2, x3, x4, x5, x6, x7, x8, x9, x10, x11, x12, x13, x14, x15, x16, x17, x18, x19, x20, x21, x22, x23, x24, x25, x26, x27, x28, x29, x30, x31] a).toArray := by kernel_rfl
theorem built_pt (id : List Int) (h : id.length = 32) (a : Int) : Try.prog.built 39 [(0, .agg (nums .u8 id).toArray), (1, .int .u32 a)] = some (pt id a).toArray :=
  match id, h with
  | [x0, x1, x2, x3, x4, x5, x6, x7, x8, x9, x10, x11, x12, x13, x14, x15, x16, x17, x18, x19, x20, x21, x22, x23, x24, x25, x26, x27, x28, x29, x30, x31], _ => built_pt' x0 x1 x2 x3 x4 x5 x6 x7 x8 x9 x10 x11 x12 x13 x14 x15 x16 x17 x18 x19 x20 x21 x22 x23 x24 x25 x26 x27 x28 x29 x30 x31 a
theorem built_cn' (x0 x1 x2 x3 x4 x5 x6 x7 x8 x9 x10 x11 x12 x13 x14 x15 x16 x17 x18 x19 x20 x21 x22 x23 x24 x25 x26 x27 x28 x29 x30 x31 c a b : Int) : Try.prog.built 56 [(0, .int .i64 c), (1, .agg (nums .u8 [x0, x1, x2, x3, x4, x5, x6, x7, x8, x9, x10, x11, x12, x13, x14, x15, x16, x17, x18, x19, x20, x21, x22, x23, x24, x25, x26, x27, x28, x29, x30, x31]).toArray), (2, .int .i64 a), (3, .int .i64 b)] = some (cn c [x0, x1, x2, x3, x4, x5, x6, x7, x8, x9, x10, x11, x12, x13, x14, x15, x16, x17, x18, x19, x20, x21, x22, x23, x24, x25, x26, x27, x28, x29, x30, x31] a b).toArray := by kernel_rfl
theorem built_cn (id : List Int) (h : id.length = 32) (c a b : Int) : Try.prog.built 56 [(0, .int .i64 c), (1, .agg (nums .u8 id).toArray), (2, .int .i64 a), (3, .int .i64 b)] = some (cn c id a b).toArray :=
  match id, h with
  | [x0, x1, x2, x3, x4, x5, x6, x7, x8, x9, x10, x11, x12, x13, x14, x15, x16, x17, x18, x19, x20, x21, x22, x23, x24, x25, x26, x27, x28, x29, x30, x31], _ => built_cn' x0 x1 x2 x3 x4 x5 x6 x7 x8 x9 x10 x11 x12 x13 x14 x15 x16 x17 x18 x19 x20 x21 x22 x23 x24 x25 x26 x27 x28 x29 x30 x31 c a b
theorem built_sp' (x0 x1 x2 x3 x4 x5 x6 x7 x8 x9 x10 x11 x12 x13 x14 x15 x16 x17 x18 x19 x20 x21 x22 x23 x24 x25 x26 x27 x28 x29 x30 x31 a b : Int) : Try.prog.built 58 [(0, .agg (nums .u8 [x0, x1, x2, x3, x4, x5, x6, x7, x8, x9, x10, x11, x12, x13, x14, x15, x16, x17, x18, x19, x20, x21, x22, x23, x24, x25, x26, x27, x28, x29, x30, x31]).toArray), (1, .int .i64 a), (2, .int .i64 b)] = some (sp [x0, x1, x2, x3, x4, x5, x6, x7, x8, x9, x10, x11, x12, x13, x14, x15, x16, x17, x18, x19, x20, x21, x22, x23, x24, x25, x26, x27, x28, x29, x30, x31] a b).toArray := by kernel_rfl
theorem built_sp (id : List Int) (h : id.length = 32) (a b : Int) : Try.prog.built 58 [(0, .agg (nums .u8 id).toArray), (1, .int .i64 a), (2, .int .i64 b)] = some (sp id a b).toArray :=
  match id, h with
  | [x0, x1, x2, x3, x4, x5, x6, x7, x8, x9, x10, x11, x12, x13, x14, x15, x16, x17, x18, x19, x20, x21, x22, x23, x24, x25, x26, x27, x28, x29, x30, x31], _ => built_sp' x0 x1 x2 x3 x4 x5 x6 x7 x8 x9 x10 x11 x12 x13 x14 x15 x16 x17 x18 x19 x20 x21 x22 x23 x24 x25 x26 x27 x28 x29 x30 x31 a b
/-- A struct put together, its cells told. -/
theorem wpList_build_as {P : Program} {ops : Array Oper} {rest : List Oper} {o : Oper} {a : Act} {w : World} {Q : Exit → Act → World → Prop} (hg : o.guard = none) (t : TypeId) (parts : Array (Nat × Operand)) (ho : o.op = .build t parts) (cs : Array Value) (pl : List (Nat × Value)) (hp : (parts.toList.map fun x => (x.1, a.eval x.2)) = pl)
    (hf : P.built t pl = some cs) (h : wpList P ops Q rest (a.put o.dst (.agg cs)) w) : wpList P ops Q (o :: rest) a w := by
  have e : (parts.map fun (x : Nat × Operand) => (x.1, a.eval x.2)).toList = parts.toList.map fun x => (x.1, a.eval x.2) := by rw [Array.toList_map]
  subst hp
  refine wpList_build hg t parts ho ?_ ?_
  · show (P.built t (parts.map fun (x : Nat × Operand) => (x.1, a.eval x.2)).toList).isSome = true
    rw [e, hf]; rfl
  · show wpList P ops Q rest (a.put o.dst (.agg ((P.built t (parts.map fun (x : Nat × Operand) => (x.1, a.eval x.2)).toList).getD #[]))) w
    rw [e, hf]; exact h
/-- What ParsePoint tells: the output's cells, the error. -/
def PP (s : ByteArray) (f : Int) : List Value × Nat := if 0 ≤ f ∧ (s.size : Int) - f = 36 then (pt (((numsOf s).drop f.toNat).take 32) (A4 s (f.toNat + 32)), 0) else (pt (List.replicate 32 0) 0, 12)
theorem reg_50_1 : RegOk (opsOf Try.f50 1) [[], [0], [0, 1], [0, 1, 2], [0, 1, 2, 3], [0, 1, 2], [0, 1, 2, 3, 4, 5], [0, 1, 2, 3, 4, 5, 6], [0, 1, 2, 3, 4, 5, 6, 7]] [] [some 6, some 7, some 8, some 9, some 10, some 11, some 12, some 13, some 14] := regOk (by kernel_rfl)
set_option maxRecDepth 20000 in
set_option maxHeartbeats 1600000 in
theorem parsePoint_any (s : ByteArray) (hs : s.size ≤ 140737488355000) (f : Int) (hf : -9223372036854775808 ≤ f ∧ f ≤ 9223372036854775807) (w : World) : Calls Try.prog 50 #[.string s, .int .i64 f] w fun e w' => e = .returned (.tuple #[.agg (PP s f).1.toArray, .int .i64 (PP s f).2]) ∧ Below w.heap.size w w' := by
  obtain ⟨B, hB⟩ : ∃ B : Bool, (decide (f < 0) || (wrap64 ((s.size : Int) - f) != 36)) = B := ⟨_, rfl⟩
  have hBP : B = false ↔ 0 ≤ f ∧ (s.size : Int) - f = 36 := by
    rw [← hB]
    simp only [Bool.or_eq_false_iff, decide_eq_false_iff_not, bne_eq_false_iff_eq]
    unfold wrap64
    omega
  obtain ⟨R, hR⟩ : ∃ R, R = PP s f := ⟨_, rfl⟩
  rw [← hR]
  go_enter Try.func50, Try.ntmps50
  go_upto_region 1 with fail
  have hx1 : (w.alloc (.cells (pt (List.replicate 32 0) 0).toArray 39)).heap[w.heap.size]? = some (.cells (pt (List.replicate 32 0) 0).toArray 39) := heap_alloc_new w _
  have hb1 : Below w.heap.size w (w.alloc (.cells (pt (List.replicate 32 0) 0).toArray 39)) := below_alloc (Below.refl _ _) _
  change Code.wp _ _ _ _ (w.alloc (.cells (pt (List.replicate 32 0) 0).toArray 39))
  have HX1 := Lib.hid hx1
  have HB1 := Lib.hid hb1
  generalize w.alloc (.cells (pt (List.replicate 32 0) 0).toArray 39) = w1 at HX1 HB1 ⊢
  clear hx1 hb1
  refine plain_ (fun wq => Below w1.heap.size w1 wq) (fun _ => True) reg_50_1 rfl inv0 (fun _ _ _ _ => trivial) (Below.refl _ _) trivial ?_
  refine w_move (.inl rfl) (fun vs w hK => ⟨wants_none rfl, rho_out rfl rfl⟩) ?_
  refine w_val [(6, _)] (_) (fun vs w hK => ⟨wants_none rfl, rho_in rfl (fv (hK 0 (memE rfl))), trivial⟩) rfl (fun wq hI => by exact run_int_lss rfl rfl rfl rfl) ?_
  refine w_move (.inl rfl) (fun vs w hK => ⟨wants_none rfl, rho_in rfl (fv (hK 1 (memE rfl)))⟩) ?_
  refine w_moveG (.inl rfl) (fun vs w hK => wantsF rfl (fv (hK 2 (memE rfl)))) (fun hG vs w hK => (rho_out rfl rfl)) ?_
  refine w_valG [(9, _)] (_) (fun vs w hK => wantsF rfl (fv (hK 2 (memE rfl)))) (fun hG vs w hK => ⟨(rho_in rfl (fvg (hK 3 (memE rfl)) hG)), trivial⟩) rfl (fun hG wq hI => by exact run_len_str rfl Try.underlying9 rfl rfl) ?_
  refine w_moveG (.inl rfl) (fun vs w hK => wantsF rfl (fv (hK 2 (memE rfl)))) (fun hG vs w hK => (rho_out rfl rfl)) ?_
  refine w_valG [(10, _), (11, _)] (_) (fun vs w hK => wantsF rfl (fv (hK 2 (memE rfl)))) (fun hG vs w hK => ⟨(rho_in rfl (fvg (hK 4 (memE rfl)) hG)), (rho_in rfl (fvg (hK 5 (memE rfl)) hG)), trivial⟩) rfl (fun hG wq hI => by exact run_int_sub rfl rfl rfl (c := wrap64 ((s.size : Int) - f)) (by rw [IntKind.wrap_i64]; unfold wrap64; rfl)) ?_
  refine w_valG [(12, _)] (_) (fun vs w hK => wantsF rfl (fv (hK 2 (memE rfl)))) (fun hG vs w hK => ⟨(rho_in rfl (fvg (hK 6 (memE rfl)) hG)), trivial⟩) rfl (fun hG wq hI => by exact run_int_neq rfl rfl rfl rfl) ?_
  refine w_or rfl (fun vs w hK => wants_none rfl) (fun vs w hK => (rho_in rfl (fv (hK 2 (memE rfl))))) (fun hB vs w hK => (rho_in rfl (fvg (hK 7 (memE rfl)) (gnot hB)))) ?_
  refine w_as (c' := .bool B) (congrArg Value.bool hB) ?_
  refine w_endM [false, false, false, false, false, false, false, false, true] rfl rfl rfl (fun vs wq hI hF => ?_)
  simp only [List.reverse_cons, List.reverse_nil, List.nil_append, List.cons_append, finL_val, finL_of, finL_any, finL_app, finL_new, finL_gr, finL_row, finL_box, finL_nil, Act.put, List.setIfInBounds_toArray, List.set_cons_zero, List.set_cons_succ, Nat.reduceAdd, maskF, finL_imp, Bool.not_false, Bool.not_true, Bool.true_and, Bool.false_and]
  have HX2 := Lib.hid (box_stays HX1.out hI)
  have HB2 := Lib.hid (below_then HB1.out HB1.out.size hI)
  clear hI hF HX1 HB1
  obtain ⟨w2, rfl⟩ : ∃ w2 : World, w2 = wq := ⟨_, rfl⟩
  have hpl : (pt (List.replicate 32 0) 0).length = 33 := by simp [pt, nums]
  cases B
  · obtain ⟨h0, h36⟩ := hBP.1 rfl
    obtain ⟨i, rfl⟩ : ∃ i : Nat, f = i := ⟨f.toNat, by omega⟩
    have HF : Hid (R = (pt (((numsOf s).drop i).take 32) (A4 s (i + 32)), 0)) := Lib.hid (by rw [hR]; unfold PP; rw [if_pos ⟨h0, h36⟩, Int.toNat_natCast])
    have h4 := A4_lt s (i + 32) (by omega)
    obtain ⟨T, hT⟩ : ∃ T, T = s.extract i s.size := ⟨_, rfl⟩
    have hTs : T.size = 36 := by rw [hT, ← numsOf_length, numsOf_extract, List.length_take, List.length_drop, numsOf_length]; omega
    have hTH : H32 T = ((numsOf s).drop i).take 32 := by rw [hT]; unfold H32; rw [numsOf_extract, List.take_take, Nat.min_eq_left (by omega)]
    have C1 := Lib.hid (fun wq => hash_any T (by omega) (by omega) wq)
    have C2 := Lib.hid (fun wq => at_any s (by omega) (i + 32) (by omega) wq)
    have hidl : (((numsOf s).drop i).take 32).length = 32 := by rw [List.length_take, List.length_drop, numsOf_length]; omega
    rw [hTH, hT] at C1
    generalize ((numsOf s).drop i).take 32 = id at C1 hidl HF
    generalize A4 s (i + 32) = a at C2 h4 HF
    have hwa : IntKind.u32.wrap (a : Int) = (a : Int) := u32_nat a h4
    have HP : Hid ((pt id a).length = 33) := Lib.hid (by simp [pt, nums, hidl])
    have i1 : (i : Int) ≤ (s.size : Int) := by omega
    clear hBP hB hR hT hTH
    go_wp2_with fail
    refine (C1.out _).mono ?_
    rintro e w3 ⟨rfl, hb3⟩
    have HB3 := Lib.hid (below_then HB2.out HB2.out.size hb3)
    have HX3 := Lib.hid (box_stays HX2.out hb3)
    clear hb3
    go_wp2_with fail
    refine (C2.out _).mono ?_
    rintro e w4 ⟨rfl, hb4⟩
    have HB4 := Lib.hid (below_then HB3.out HB3.out.size hb4)
    have HX4 := Lib.hid (box_stays HX3.out hb4)
    clear hb4
    go_wp2_with (first
      | (refine wpList_build_as rfl 39 #[(0, .tmp 19), (1, .tmp 24)] rfl (pt id a).toArray [(0, .agg (nums .u8 id).toArray), (1, .int .u32 a)] rfl (built_pt id hidl a) ?_)
      | (refine wpList_store_box rfl 39 (.tmp 4) (.tmp 25) rfl w.heap.size (pt id a) rfl rfl HX4.out (by rw [hpl, HP.out]) (by rw [HP.out]; kernel_rfl) (pt_one _ _) ?_; intro w7 hs7; have HS7 := Lib.hid hs7; clear hs7))
    (try simp only [Exit.inBlock, Exit.then])
    refine bodyPost_ret (results_box_tmp rfl rfl (loadVar_box HS7.out.at_ Try.underlying39 rfl (by rw [HP.out]; kernel_rfl))) rfl ?_
    exact ⟨by rw [HF.out]; rfl, HS7.out.then_ HB4.out (Nat.le_refl _)⟩
  · have HF : Hid (R = (pt (List.replicate 32 0) 0, 12)) := Lib.hid (by rw [hR]; unfold PP; rw [if_neg (fun h => by have := hBP.2 h; cases this)])
    clear hBP hB hR
    go_wp2_with (refine wpList_store_box rfl 39 (.tmp 4) (.tmp 15) rfl w.heap.size (pt (List.replicate 32 0) 0) rfl rfl HX2.out rfl (by rw [hpl]; kernel_rfl) rfl ?_; intro w7 hs7; have HS7 := Lib.hid hs7; clear hs7)
    (try simp only [Exit.inBlock, Exit.then])
    refine bodyPost_ret (results_box_tmp rfl rfl (loadVar_box HS7.out.at_ Try.underlying39 rfl (by rw [hpl]; kernel_rfl))) rfl ?_
    exact ⟨by rw [HF.out]; rfl, HS7.out.then_ HB2.out (Nat.le_refl _)⟩
end Go.Proofs.Ytglkagicmolbeaa.Rw

