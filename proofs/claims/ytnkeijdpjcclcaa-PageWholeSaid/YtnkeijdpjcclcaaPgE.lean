/- The contracts of slices.Clone at bytes, (page.Page).All, page.Parse. -/
import Derived.Test.YtnkeijdpjcclcaaPgD
import Derived.Test.YtnkeijdpjcclcaaPgQ
import Derived.Lib.SliceRun
namespace Go.Proofs.Ytnkeijdpjcclcaa.Pg
set_option linter.unusedVariables false
set_option linter.unusedSimpArgs false
open Go.Proofs.Ytnkeijdpjcclcaa.Kit Go.Proofs.Ytnkeijdpjcclcaa.Num Go.RowKit Go.Proofs.YtnkeijdpjcclcaaW.PrintWords Go.Proofs.YtnkeijdpjcclcaaW.PrintLast Go.Proofs.YtnkeijdpjcclcaaW.PrintMore NumPure
theorem tb34 : SlTy Try.prog 34 3 (.int .i64 0) 8 := ⟨Try.underlying34, by kernel_rfl, rfl, by decide⟩
set_option maxRecDepth 20000 in
set_option maxHeartbeats 1600000 in
theorem clone_any (A : Option Addr) (n c : Nat) (xs : List Int) (w : World) (hr : Rds .u8 w A n xs) (hn : n ≤ 1000000) :
    Calls Try.prog 47 #[.slice A n c] w fun e w' => ∃ v, e = .returned v ∧ Gr .u8 5 w' w.heap.size v xs ∧ Below w.heap.size w w' := by
  have q := fun (w : World) (a : Option Addr) (n c n' c' : Nat) => Lib.run_eql_slice_nil (P := Try.prog) w _ _ a n c n' c' Try.underlying25
  have hxl := rds_len hr
  cases A with
  | none =>
    have h0 : n = 0 := by
      rcases Nat.eq_zero_or_pos n with h0 | h0
      · exact h0
      · obtain ⟨ad, h, _⟩ := rds_at 0 hr 0 h0
        cases h
    have hx : xs = [] := List.eq_nil_of_length_eq_zero (by omega)
    subst hx
    clear hr hxl
    go_enter Try.func47, Try.ntmps47
    go_wp2_with fail
    go_ret
    exact ⟨_, rfl, gr_nil _ _ _, Below.refl _ _⟩
  | some ad =>
    have hO := own_lit_ .u8 5 w w.heap.size [] 0 rfl (Nat.le_refl _) (by simp)
    have hb1 := below_alloc (Below.refl w.heap.size w) (.cells (nums .u8 []).toArray 5)
    have HO : Hid (Gr .u8 5 (w.alloc (.cells #[] 5)) w.heap.size (.slice (some ⟨w.heap.size, 0, none⟩) 0 0) []) := Lib.hid (.inl hO)
    have HB : Hid (Below w.heap.size w (w.alloc (.cells #[] 5))) := Lib.hid hb1
    have HR := Lib.hid (rds_below hr HB.out)
    clear hO hb1 hr
    go_enter Try.func47, Try.ntmps47
    go_wp2_with (at_builtin; refine gapp_row (h1 := int_one .u8) tb rfl (.tmp 5) (.tmp 6) rfl rfl rfl HO.out HR.out HB.out HB.out.size ?cL ?_; (case cL => simp; omega); intro v4 w4 ho hb3 hs1 hf; have HO4 := Lib.hid ho; have HB4 := Lib.hid hb3; clear ho hb3 hs1 hf)
    go_ret
    exact ⟨_, rfl, HO4.out, HB4.out⟩
/-- What All tells. -/
def AllPost (xs : List Int) (w : World) (e : Ending) (w' : World) : Prop := Below w.heap.size w w' ∧ ∃ v : Value, e = .returned v ∧
  ((∃ (a : Nat) (last : List Int) (ps : List PB), Chain xs 0 a last (nn ps) ∧ xs.length ≤ a ∧ OwnK encP 2 30 w' w.heap.size v ps) ∨
   (v = .slice none 0 0 ∧ ∃ (a : Nat) (last : List Int) (out : List PR), Chain xs 0 a last out ∧ a < xs.length ∧ oneP xs a last = none))
set_option maxRecDepth 20000 in
set_option maxHeartbeats 1600000 in
theorem all_any (Ab : Option Addr) (nb cb : Nat) (Aw : Option Addr) (nw cw : Nat) (xs : List Int) (w : World) (hr : Rds .u8 w Ab nb xs) (hb : Byte xs) (hnc : nb ≤ cb) (hn : nb ≤ 1000000) :
    Calls Try.prog 21 #[.agg #[.slice Ab nb cb, .slice Aw nw cw]] w (AllPost xs w) := by
  have hx1 : (w.alloc (.cells #[.slice Ab nb cb, .slice Aw nw cw] 36)).heap[w.heap.size]? = some (.cells #[.slice Ab nb cb, .slice Aw nw cw] 36 (0, 0)) := heap_alloc_new w _
  have hb1 : Below w.heap.size w (w.alloc (.cells #[.slice Ab nb cb, .slice Aw nw cw] 36)) := below_alloc (Below.refl _ _) _
  have C := Lib.hid (read_any Ab nb cb Aw nw cw xs 0 (w.alloc (.cells #[.slice Ab nb cb, .slice Aw nw cw] 36)) (rds_below hr hb1) hb hnc hn (Nat.zero_le _))
  have HX := Lib.hid hx1
  have HB := Lib.hid hb1
  clear hx1 hb1 hr hb
  go_enter Try.func21, Try.ntmps21
  go_wp2_with (first | (refine wpList_load_box rfl 36 (.tmp 1) rfl w.heap.size [.slice Ab nb cb, .slice Aw nw cw] rfl HX.out Try.underlying36 rfl info36 ?_) | fail)
  refine C.out.mono ?_
  rintro e w2 ⟨hb2, v, ex, rfl, hp⟩
  have HP := Lib.hid hp
  have HB2 := Lib.hid (below_then HB.out HB.out.size hb2)
  clear hp hb2 C
  go_wp2_with fail
  go_ret
  refine ⟨HB2.out, v, rfl, ?_⟩
  rcases HP.out with ⟨_, a, last, ps, h1, h2, h3⟩ | ⟨_, h1, h2⟩
  · exact .inl ⟨a, last, ps, h1, h2, ownk_lower h3 HB.out.size⟩
  · exact .inr ⟨h1, h2⟩
theorem built36 (A : Option Addr) (n c : Nat) : Try.prog.built 36 [(0, .slice A n c)] = some #[.slice A n c, .slice none 0 0] := by kernel_rfl
/-- A store of one cell in a region. -/
theorem ob_store_at {P : Program} {o : Oper} {x y : Operand} {ty : TypeId} {w : World} {dsts : List (Option Tmp)} {vs : Nat → Value} {a0 : Act} {R : Value → World → Prop} (l : List (Nat × Value)) {g i : Nat} {v : Value} {old : List Value} {t : TypeId} (hw : Wants o vs = true) (hv : Vs (rho dsts vs a0) l) (hc : covers o (l.map (·.1)) = true)
    (ho : o.op = .store ty x y) (hx : lk l x = .pointer (some ⟨g, i, none⟩)) (hy : lk l y = v) (hv1 : v.oneCell' = true) (hg : w.heap[g]? = some (.cells old.toArray t (0, 0))) (hl : i < old.length) (hi : (P.info? ty).map (·.size) = some 1)
    (hR : ∀ w', Set1 w g (.cells (old.set i v).toArray t (0, 0)) w' → R undef w') : Ob P dsts o vs a0 w R := by
  have hcl : w.cell? ⟨g, i, none⟩ = some old[i] := by simp [World.cell?, hg, hl]
  have hf : w.frozen? ⟨g, i, none⟩ = false := by simp [World.frozen?, hg]
  have hs1 : Set1 w g (.cells (old.set i v).toArray t (0, 0)) (w.setCell ⟨g, i, none⟩ v) := by
    rw [setCell_eq_setRow w g i old.toArray t (0, 0) v hg, show old.toArray.setIfInBounds i v = (old.set i v).toArray by simp]
    exact set1_row hg
  exact ob_store_cell l hw hv hc ho hx hy hv1 hcl hf hi (hR _ hs1)
theorem op_str_neq {P : Program} {o : Oper} {l : List (Nat × Value)} {x y : Operand} {t : TypeId} {m : Nat} {a b : ByteArray} {r : Bool} {w : World} (ho : o.op = .binOp .neq t x y m) (hx : lk l x = .string a) (hy : lk l y = .string b) (h : decide (¬ a = b) = r) : (execOp (lk l) o).run P w = .ok (.value (.bool r)) w := by
  by_cases hab : a = b
  · rw [← h, decide_eq_false (fun hn => hn hab)]; exact run_neq_same ho hx hy hab
  · rw [← h, decide_eq_true hab]
    have hne : a.toList ≠ b.toList := fun e => hab (numsOf_inj (by unfold numsOf; rw [e]))
    unfold execOp
    simp [ho, hx, hy, eqGuard, binOp, Op.stringOp, hne]
theorem op_str_eql {P : Program} {o : Oper} {l : List (Nat × Value)} {x y : Operand} {t : TypeId} {m : Nat} {a b : ByteArray} {r : Bool} {w : World} (ho : o.op = .binOp .eql t x y m) (hx : lk l x = .string a) (hy : lk l y = .string b) (h : decide (a = b) = r) : (execOp (lk l) o).run P w = .ok (.value (.bool r)) w := by
  by_cases hab : a = b
  · rw [← h, decide_eq_true hab]; exact run_eql_same ho hx hy hab
  · rw [← h, decide_eq_false hab]
    have hne : a.toList ≠ b.toList := fun e => hab (numsOf_inj (by unfold numsOf; rw [e]))
    unfold execOp
    simp [ho, hx, hy, eqGuard, binOp, Op.stringOp, hne]
theorem nn_byte (ps : List PB) : ∀ p ∈ nn ps, Byte p.1 ∧ Byte p.2 := by
  intro p hp
  obtain ⟨q, _, rfl⟩ := List.mem_map.1 hp
  exact ⟨numsOf_byte _, numsOf_byte _⟩
theorem info34 : (Try.prog.info? 34).map (·.size) = some 1 := by kernel_rfl
/-- What Parse tells. -/
def ParsePost (xs : List Int) (w : World) (e : Ending) (w' : World) : Prop := Below w.heap.size w w' ∧ ∃ (bv wv : Value) (ex : Nat), e = .returned (.tuple #[.agg #[bv, wv], .int .i64 ex]) ∧
  ((ex = 0 ∧ ∃ ps : List PB, IsPage xs (nn ps) ∧ Gr .u8 5 w' w.heap.size bv (bodyAt (nn ps) ps.length) ∧ Gr .i64 3 w' w.heap.size wv (places (nn ps) ps.length)) ∨
   (ex = 2 ∧ bv = .slice none 0 0 ∧ wv = .slice none 0 0 ∧ ∀ l, ¬ IsPage xs l))
theorem reg_19_4 : RegOk (opsOf Try.f19 4) [[], [], [1], [1, 2], [1, 2, 3], [1, 2, 3, 4], [0, 1, 2, 3, 4, 5]] [] [some 22, some 23, some 24, some 25, some 26, some 27, some 28] := regOk (by kernel_rfl)
theorem reg_19_6 : RegOk (opsOf Try.f19 6) [[], [0], [0, 1], [], [3], [3, 4], [0, 1, 2, 3, 4, 5], [0, 1, 2, 3, 4, 5, 6]] [] [some 30, some 31, some 32, some 33, some 34, some 35, some 36, some 5] := regOk (by kernel_rfl)
theorem reg_19_11 : RegOk (opsOf Try.f19 11) [[], [0], [], [], [], [4], [3, 4, 5], [], [], [8], [7, 8, 9], [7, 8, 9, 10], [2, 3, 4, 5, 6, 7, 8, 9, 10, 11], [2, 3, 4, 5, 6, 7, 8, 9, 10, 11, 12], [2, 3, 4, 5, 6, 7, 8, 9, 10, 11, 12, 13], [2, 3, 4, 5, 6, 7, 8, 9, 10, 11, 12, 13, 14], [0, 1, 2, 3, 4, 5, 6, 7, 8, 9, 10, 11, 12, 13, 14, 15], [0, 1, 2, 3, 4, 5, 6, 7, 8, 9, 10, 11, 12, 13, 14, 15, 16], [0, 1, 2, 3, 4, 5, 6, 7, 8, 9, 10, 11, 12, 13, 14, 15, 16, 17]] [16, 18] [some 47, some 48, some 49, some 50, some 51, some 52, some 53, some 54, some 55, some 56, some 57, some 58, some 59, some 60, some 61, some 62, some 63, some 64, none] := regOk (by kernel_rfl)
theorem reg_19_17 : RegOk (opsOf Try.f19 17) [[], [0], [0, 1], [0, 1, 2], [0, 1, 2, 3], [0, 1, 2], [0, 1, 2, 5], [0, 1, 2, 3, 4, 5, 6], [0, 1, 2, 3, 4, 5, 6, 7]] [] [some 80, some 81, some 82, some 83, some 84, some 85, some 86, some 87, some 88] := regOk (by kernel_rfl)
set_option maxRecDepth 20000 in
set_option maxHeartbeats 3200000 in
theorem parse_any (A : Option Addr) (n c : Nat) (xs : List Int) (w : World) (hr : Rds .u8 w A n xs) (hb : Byte xs) (hnc : n ≤ c) (hn : n ≤ 1000000) :
    Calls Try.prog 19 #[.slice A n c] w (ParsePost xs w) := by
  have hxl := rds_len hr
  have HXL := Lib.hid hxl
  have HBT := Lib.hid hb
  go_enter Try.func19, Try.ntmps19
  go_upto_region 1 with fail
  have hx1 : (w.alloc (.cells #[.slice none 0 0, .slice none 0 0] 36)).heap[w.heap.size]? = some (.cells #[.slice none 0 0, .slice none 0 0] 36 (0, 0)) := heap_alloc_new w _
  have hb1 : Below w.heap.size w (w.alloc (.cells #[.slice none 0 0, .slice none 0 0] 36)) := below_alloc (Below.refl _ _) _
  have HX1 := Lib.hid hx1
  have HB1 := Lib.hid hb1
  have HR := Lib.hid hr
  clear hx1 hb1 hr hb hxl
  generalize w.alloc (.cells #[.slice none 0 0, .slice none 0 0] 36) = w1 at HX1 HB1 ⊢
  by_cases h4 : n < 4
  · have t0 : decide ((n : Int) < 4) = true := decide_eq_true (by omega)
    have HN : Hid (∀ l, ¬ IsPage xs l) := Lib.hid (no_short (by rw [HXL.out]; exact h4))
    clear h4
    go_wp2_with (first | (refine wpList_store_box rfl 36 (.tmp 2) (.tmp 15) rfl w.heap.size [.slice none 0 0, .slice none 0 0] rfl rfl HX1.out rfl info36 rfl ?_; intro w5 hs5; have HS5 := Lib.hid hs5; clear hs5) | fail)
    (try simp only [Exit.inBlock, Exit.then])
    refine bodyPost_ret (results_box_tmp rfl rfl (loadVar_box HS5.out.at_ Try.underlying36 rfl info36)) rfl ?_
    exact ⟨HS5.out.then_ HB1.out (Nat.le_refl _), _, _, 2, rfl, .inr ⟨rfl, rfl, rfl, HN.out⟩⟩
  · have t0 : decide ((n : Int) < 4) = false := decide_eq_false (by omega)
    have hw4 : IntKind.i64.wrap ((n : Int) - 4) = ((n - 4 : Nat) : Int) := by rw [i64_id (by omega) (by omega)]; omega
    obtain ⟨A2, hcut, hC⟩ := cut_from (enc := Value.int .u8) (h1 := int_one .u8) 0 tb A n c (n - 4) 4 (by omega) hnc ((n - 4 : Nat) : Int) rfl
    have hl4 : (xs.drop (n - 4)).length = 4 := by rw [List.length_drop, HXL.out]; omega
    have hcl := little_val A2 4 (c - (n - 4)) _ w1 (hC w1 _ (rds_below HR.out HB1.out)) hl4 (by omega) (HBT.out.drop (n - 4))
    rw [List.take_of_length_le (by rw [hl4]; omega)] at hcl
    have hN := leVal_lt (HBT.out.drop (n - 4))
    rw [hl4] at hN
    have CL := Lib.hid hcl
    have hlv : leVal (xs.drop (xs.length - 4)) = leVal (xs.drop (n - 4)) := by rw [HXL.out]
    have HLV := Lib.hid hlv
    clear hcl hlv hC
    generalize leVal (xs.drop (n - 4)) = N at CL hN HLV
    have hN2 : N < 4294967296 := hN
    clear hN
    go_upto_region 4 with fail
    refine CL.out.mono ?_
    rintro e w' ⟨rfl, rfl⟩
    clear CL
    obtain ⟨F, hF⟩ : ∃ F, decide (((N : Nat) : Int) > (((n - 4) / 4 : Nat) : Int)) = F := ⟨_, rfl⟩
    have HF := Lib.hid hF
    clear hF
    go_upto_region 4 with fail
    refine plain_ (fun wq => Below w1.heap.size w1 wq) (fun _ => True) reg_19_4 rfl inv0 (fun _ _ _ _ => trivial) (Below.refl _ _) trivial ?_
    refine w_move (.inl rfl) (fun vs w hK => ⟨wants_none rfl, rho_out rfl rfl⟩) ?_
    refine w_move (.inl rfl) (fun vs w hK => ⟨wants_none rfl, rho_out rfl rfl⟩) ?_
    refine w_val [(23, _)] (_) (fun vs w hK => ⟨wants_none rfl, rho_in rfl (fv (hK 1 (memE rfl))), trivial⟩) rfl (fun wq hI => by exact run_len_sl rfl Try.underlying25 rfl rfl) ?_
    refine w_val [(24, _)] (_) (fun vs w hK => ⟨wants_none rfl, rho_in rfl (fv (hK 2 (memE rfl))), trivial⟩) rfl (fun wq hI => by exact run_int_sub (c := ((n - 4 : Nat) : Int)) rfl rfl rfl hw4) ?_
    refine w_val [(25, _)] (_) (fun vs w hK => ⟨wants_none rfl, rho_in rfl (fv (hK 3 (memE rfl))), trivial⟩) rfl (fun wq hI => by exact op_conv_int rfl Try.underlying3 Try.underlying32 rfl (u64_nat (n - 4) (by omega))) ?_
    refine w_val [(26, _)] (_) (fun vs w hK => ⟨wants_none rfl, rho_in rfl (fv (hK 4 (memE rfl))), trivial⟩) rfl (fun wq hI => by exact op_quo (c := (((n - 4) / 4 : Nat) : Int)) rfl rfl rfl (by decide) (by show IntKind.u64.wrap (Int.tdiv ((n - 4 : Nat) : Int) ((4 : Nat) : Int)) = _; rw [quo_nat]; exact u64_nat _ (by omega))) ?_
    refine w_val [(22, _), (27, _)] (_) (fun vs w hK => ⟨wants_none rfl, rho_in rfl (fv (hK 0 (memE rfl))), rho_in rfl (fv (hK 5 (memE rfl))), trivial⟩) rfl (fun wq hI => by exact run_int_gtr (r := F) rfl rfl rfl HF.out) ?_
    refine w_end rfl rfl rfl (fun vs wq hI hF => ?_)
    simp only [List.reverse_cons, List.reverse_nil, List.nil_append, List.cons_append, finL_val, finL_of, finL_any, finL_app, finL_new, finL_gr, finL_row, finL_box, finL_nil, Act.put, List.setIfInBounds_toArray, List.set_cons_zero, List.set_cons_succ, Nat.reduceAdd]
    have HX2 := Lib.hid (box_stays HX1.out hI)
    have HW2 := Lib.hid (below_then HB1.out HB1.out.size hI)
    clear hI hF HX1 HB1
    obtain ⟨w2, rfl⟩ : ∃ w2 : World, w2 = wq := ⟨_, rfl⟩
    cases F with
    | true =>
      have hgt : (n - 4) / 4 < N := by have := of_decide_eq_true HF.out; omega
      have HN : Hid (∀ l, ¬ IsPage xs l) := Lib.hid (no_count (by rw [HLV.out, HXL.out]; exact hgt))
      clear hgt
      go_wp2_with (first | (refine wpList_store_box rfl 36 (.tmp 2) (.tmp 29) rfl w.heap.size [.slice none 0 0, .slice none 0 0] rfl rfl HX2.out rfl info36 rfl ?_; intro w5 hs5; have HS5 := Lib.hid hs5; clear hs5) | fail)
      (try simp only [Exit.inBlock, Exit.then])
      refine bodyPost_ret (results_box_tmp rfl rfl (loadVar_box HS5.out.at_ Try.underlying36 rfl info36)) rfl ?_
      exact ⟨HS5.out.then_ HW2.out (Nat.le_refl _), _, _, 2, rfl, .inr ⟨rfl, rfl, rfl, HN.out⟩⟩
    | false =>
    have hNl : N ≤ (n - 4) / 4 := by have := of_decide_eq_false HF.out; omega
    obtain ⟨E, hE⟩ : ∃ E, n - 4 - 4 * N = E := ⟨_, rfl⟩
    have HE : Hid (endOf xs = E) := Lib.hid (by unfold endOf; rw [HLV.out, HXL.out]; exact hE)
    have hEN : E + 4 * N + 4 = n := by omega
    clear HF
    go_upto_region 6 with fail
    refine plain_ (fun wq => Below w2.heap.size w2 wq) (fun _ => True) reg_19_6 rfl inv0 (fun _ _ _ _ => trivial) (Below.refl _ _) trivial ?_
    refine w_move (.inl rfl) (fun vs w hK => ⟨wants_none rfl, rho_out rfl rfl⟩) ?_
    refine w_val [(30, _)] (_) (fun vs w hK => ⟨wants_none rfl, rho_in rfl (fv (hK 0 (memE rfl))), trivial⟩) rfl (fun wq hI => by exact run_len_sl rfl Try.underlying25 rfl rfl) ?_
    refine w_val [(31, _)] (_) (fun vs w hK => ⟨wants_none rfl, rho_in rfl (fv (hK 1 (memE rfl))), trivial⟩) rfl (fun wq hI => by exact run_int_sub (c := ((n - 4 : Nat) : Int)) rfl rfl rfl hw4) ?_
    refine w_move (.inl rfl) (fun vs w hK => ⟨wants_none rfl, rho_out rfl rfl⟩) ?_
    refine w_val [(33, _)] (_) (fun vs w hK => ⟨wants_none rfl, rho_in rfl (fv (hK 3 (memE rfl))), trivial⟩) rfl (fun wq hI => by exact op_conv_int rfl Try.underlying32 Try.underlying3 rfl (i64_id (x := (N : Int)) (by omega) (by omega))) ?_
    refine w_val [(34, _)] (_) (fun vs w hK => ⟨wants_none rfl, rho_in rfl (fv (hK 4 (memE rfl))), trivial⟩) rfl (fun wq hI => by exact op_mul (c := ((4 * N : Nat) : Int)) rfl rfl rfl (by rw [i64_id (by omega) (by omega)]; omega)) ?_
    refine w_val [(32, _), (35, _)] (_) (fun vs w hK => ⟨wants_none rfl, rho_in rfl (fv (hK 2 (memE rfl))), rho_in rfl (fv (hK 5 (memE rfl))), trivial⟩) rfl (fun wq hI => by exact run_int_sub (c := ((E : Nat) : Int)) rfl rfl rfl (by rw [i64_id (by omega) (by omega)]; omega)) ?_
    refine w_move (.inr rfl) (fun vs w hK => ⟨wants_none rfl, rho_in rfl (fv (hK 6 (memE rfl)))⟩) ?_
    refine w_end rfl rfl rfl (fun vs wq hI hF => ?_)
    simp only [List.reverse_cons, List.reverse_nil, List.nil_append, List.cons_append, finL_val, finL_of, finL_any, finL_app, finL_new, finL_gr, finL_row, finL_box, finL_nil, Act.put, List.setIfInBounds_toArray, List.set_cons_zero, List.set_cons_succ, Nat.reduceAdd]
    have HX3 := Lib.hid (box_stays HX2.out hI)
    have HW3 := Lib.hid (below_then HW2.out HW2.out.size hI)
    have hwz : w.heap.size < wq.heap.size := mk_lt HX3.out
    clear hI hF HX2 HW2
    obtain ⟨w3, rfl⟩ : ∃ w3 : World, w3 = wq := ⟨_, rfl⟩
    obtain ⟨hcut2, hC2⟩ := cut_to (enc := Value.int .u8) (h1 := int_one .u8) 0 tb A n c E (by omega) hnc (E : Int) rfl
    have CC := Lib.hid (clone_any A E c (xs.take E) w3 (hC2 w3 xs (rds_below HR.out HW3.out)) (by omega))
    clear hC2
    go_wp2_with fail
    refine CC.out.mono ?_
    rintro e w4 ⟨bv, rfl, ho4, hb4⟩
    obtain ⟨Ab, nb, cb, rfl, hbc, HLb, hbm, hrb⟩ := gr_open ho4
    have HRB := Lib.hid hrb
    clear hrb
    have hnb : nb = E := by rw [← HLb.out, List.length_take, HXL.out]; omega
    subst hnb
    have HO4 := Lib.hid ho4
    have HX4 := Lib.hid (box_stays HX3.out hb4)
    have HW4 := Lib.hid (below_then HW3.out HW3.out.size hb4)
    have hwz4 : w3.heap.size ≤ w4.heap.size := hb4.size
    clear ho4 hb4 HX3 HW3 CC hcut2 HLb
    have hwN : IntKind.i64.wrap (N : Int) = (N : Int) := i64_id (by omega) (by omega)
    go_upto_region 8 with (first
      | (refine wpList_build_as rfl 36 #[(0, .tmp 40)] rfl #[.slice Ab nb cb, .slice none 0 0] [(0, .slice Ab nb cb)] rfl (built36 Ab nb cb) ?_)
      | (refine wpList_store_box rfl 36 (.tmp 6) (.tmp 41) rfl w4.heap.size [.slice Ab nb cb, .slice none 0 0] rfl rfl (heap_alloc_new w4 _) rfl info36 rfl ?_; intro w5 hs5; have HS5 := Lib.hid hs5; clear hs5))
    have HP5 := Lib.hid HS5.out.at_
    have HB5 : Hid (Below w4.heap.size w4 w5) := Lib.hid (HS5.out.then_ (below_alloc (Below.refl _ _) _) (Nat.le_refl _))
    clear HS5
    generalize hBp : w4.heap.size = Bp at HP5 hwz4 ⊢
    have HBP := Lib.hid hBp
    have HB5' : Hid (Below w4.heap.size w4 w5) := HB5
    clear hBp HB5
    go_wp2_with fail
    go_loopw [44] (fun i wr => ∃ (k : Nat) (wv : Value), k ≤ N ∧ i = .int .i64 k ∧ Hid (wr.heap[Bp]? = some (.cells [Value.slice Ab nb cb, wv].toArray 36 (0, 0))) ∧ Hid (Gr .i64 3 wr (Bp + 1) wv (nums4 xs nb k)) ∧ Hid (Below w4.heap.size w4 wr)) (fun i _ => N - (intOf i).toNat)
    case atStart => exact ⟨0, _, by omega, rfl, HP5, Lib.hid (gr_nil _ _ _), HB5'⟩
    case round =>
      obtain ⟨k, wv, hk, rfl, HP, HG, HB⟩ := hrel
      by_cases hlt : k < N
      · have t1 : decide ((k : Int) < (N : Int)) = true := decide_eq_true (by omega)
        obtain ⟨A5, hcut5, hC5⟩ := cut_mid (enc := Value.int .u8) (h1 := int_one .u8) 0 tb A n c (nb + 4 * k) (nb + 4 * k + 4) 4 (by omega) (by omega) hnc ((nb + 4 * k : Nat) : Int) ((nb + 4 * k + 4 : Nat) : Int) rfl rfl
        have e5 : (xs.take (nb + 4 * k + 4)).drop (nb + 4 * k) = (xs.drop (nb + 4 * k)).take 4 := by rw [List.drop_take]; congr 1; omega
        have hl5 : ((xs.drop (nb + 4 * k)).take 4).length = 4 := by rw [List.length_take, List.length_drop, HXL.out]; omega
        have HCL := Lib.hid (fun wq (h : Below w4.heap.size w4 wq) => pureB (little_val A5 4 (c - (nb + 4 * k)) ((xs.drop (nb + 4 * k)).take 4) wq (by have := hC5 wq xs (rds_below HR.out (below_then HW4.out HW4.out.size h)); rwa [e5] at this) hl5 (by omega) ((HBT.out.drop _).take 4)))
        rw [List.take_of_length_le (by rw [hl5]; omega)] at HCL
        have hV := leVal_lt ((HBT.out.drop (nb + 4 * k)).take 4)
        rw [hl5] at hV
        have HSU : Hid (nums4 xs nb (k + 1) = nums4 xs nb k ++ [((leVal ((xs.drop (nb + 4 * k)).take 4) : Nat) : Int)]) := Lib.hid rfl
        have hnl := nums4_length xs nb k
        generalize leVal ((xs.drop (nb + 4 * k)).take 4) = V at HCL hV HSU
        generalize nums4 xs nb k = ws at HG HSU hnl
        have hV2 : V < 4294967296 := hV
        have HCU := Lib.hid hcut5
        clear hV hC5 e5 hl5 hcut5
        go_upto_region 11 with fail
        refine draws_ (fun W => Below w4.heap.size w4 W) (fun W => W.heap[Bp]? = some (.cells [Value.slice Ab nb cb, wv].toArray 36 (0, 0)) ∧ Gr .i64 3 W (Bp + 1) wv ws) (by kernel_rfl) reg_19_11 rfl (fun _ _ h k => below_then h h.size k) (fun W W' h k => ⟨box_stays h.1 k, gr_below h.2 k⟩) (below_drew HB.out) ⟨HP.out, gr_below HG.out (below_drew (Below.refl _ _))⟩ ?_
        refine w_val [(6, _)] _ (fun vs w hK => ⟨wants_none rfl, rho_out rfl rfl, trivial⟩) rfl (fun wq hI => by simp only [execOp, Option.map_some, Option.map_none, lk_tmp, lk_const, lkT_cons, ↓reduceIte, Nat.reduceEqDiff]; go_simp; (first | done | rfl)) ?_
        refine w_anyJ (.val wv) (by decide) (fun vs wq hI hJ hK => ?_) ?_
        · have hA := hJ (by decide)
          exact ob_run [(47, .pointer (some ⟨Bp, 1, none⟩))] (wants_none rfl) ⟨rho_in rfl (fv (hK 0 (memE rfl))), trivial⟩ rfl (run_load_cell (ad := ⟨Bp, 1, none⟩) rfl rfl rfl Try.underlying34 rfl (by simp [World.cell?, hA.1])) ⟨Below.refl _ _, rfl⟩
        refine w_move (.inl rfl) (fun vs w hK => ⟨wants_none rfl, rho_out rfl rfl⟩) ?_
        refine w_move (.inl rfl) (fun vs w hK => ⟨wants_none rfl, rho_out rfl rfl⟩) ?_
        refine w_move (.inl rfl) (fun vs w hK => ⟨wants_none rfl, rho_out rfl rfl⟩) ?_
        refine w_val [(51, _)] (_) (fun vs w hK => ⟨wants_none rfl, rho_in rfl (fv (hK 4 (memE rfl))), trivial⟩) rfl (fun wq hI => by exact op_mul (c := ((4 * k : Nat) : Int)) rfl rfl rfl (by rw [i64_id (by omega) (by omega)]; omega)) ?_
        refine w_val [(50, _), (52, _)] (_) (fun vs w hK => ⟨wants_none rfl, rho_in rfl (fv (hK 3 (memE rfl))), rho_in rfl (fv (hK 5 (memE rfl))), trivial⟩) rfl (fun wq hI => by exact run_int_add (c := ((nb + 4 * k : Nat) : Int)) rfl rfl rfl (by rw [i64_id (by omega) (by omega)]; omega)) ?_
        refine w_move (.inl rfl) (fun vs w hK => ⟨wants_none rfl, rho_out rfl rfl⟩) ?_
        refine w_move (.inl rfl) (fun vs w hK => ⟨wants_none rfl, rho_out rfl rfl⟩) ?_
        refine w_val [(55, _)] (_) (fun vs w hK => ⟨wants_none rfl, rho_in rfl (fv (hK 8 (memE rfl))), trivial⟩) rfl (fun wq hI => by exact op_mul (c := ((4 * k : Nat) : Int)) rfl rfl rfl (by rw [i64_id (by omega) (by omega)]; omega)) ?_
        refine w_val [(54, _), (56, _)] (_) (fun vs w hK => ⟨wants_none rfl, rho_in rfl (fv (hK 7 (memE rfl))), rho_in rfl (fv (hK 9 (memE rfl))), trivial⟩) rfl (fun wq hI => by exact run_int_add (c := ((nb + 4 * k : Nat) : Int)) rfl rfl rfl (by rw [i64_id (by omega) (by omega)]; omega)) ?_
        refine w_val [(57, _)] (_) (fun vs w hK => ⟨wants_none rfl, rho_in rfl (fv (hK 10 (memE rfl))), trivial⟩) rfl (fun wq hI => by exact run_int_add (c := ((nb + 4 * k + 4 : Nat) : Int)) rfl rfl rfl (by rw [i64_id (by omega) (by omega)]; omega)) ?_
        refine w_val [(49, _), (53, _), (58, _)] (_) (fun vs w hK => ⟨wants_none rfl, rho_in rfl (fv (hK 2 (memE rfl))), rho_in rfl (fv (hK 6 (memE rfl))), rho_in rfl (fv (hK 11 (memE rfl))), trivial⟩) rfl (fun wq hI => by exact run_slice_op rfl rfl (HCU.out wq)) ?_
        refine w_call [(59, _)] _ _ (by decide) (fun vs w hK => ⟨wants_none rfl, rho_in rfl (fv (hK 12 (memE rfl))), trivial⟩) rfl rfl Try.func22 (by kernel_rfl) rfl (fun wq hI => HCL.out wq hI) (margs rfl) ?_
        refine w_val [(60, _)] (_) (fun vs w hK => ⟨wants_none rfl, rho_in rfl (fv (hK 13 (memE rfl))), trivial⟩) rfl (fun wq hI => by exact op_conv_int rfl Try.underlying32 Try.underlying3 rfl (i64_id (x := (V : Int)) (by omega) (by omega))) ?_
        refine w_lit (by decide) [(61, _)] .i64 [((V : Nat) : Int)] _ tb34 (fun vs w hK => ⟨wants_none rfl, rho_in rfl (fv (hK 14 (memE rfl))), trivial⟩) rfl rfl rfl (by decide) (by decide) rfl ?_
        refine w_lin (FW.of (fun v W => Gr .i64 3 W (Bp + 1) v (ws ++ [((V : Nat) : Int)]) ∧ W.heap[Bp]? = some (.cells [Value.slice Ab nb cb, wv].toArray 36 (0, 0))) (fun _ _ _ h hb => ⟨gr_below h.1 hb, box_stays h.2 hb⟩)) (by decide) (fun vs wq hI hJ hK => ?_) ?_
        · have hA := hJ (by decide) (by decide)
          obtain ⟨A6, n6, c6, e6, h6c, HL6, h6m, hr6⟩ : IsRow .i64 [((V : Nat) : Int)] (vs 15) wq := hK 15 (memE rfl)
          obtain rfl : n6 = 1 := HL6.out.symm
          obtain ⟨v1, w6, hrun, hA1⟩ := gr_run (c := c6) tb34 34 hA.2 hr6 (by have := mk_lt hA.1; omega) (by rw [hnl]; omega)
          exact ob_run [(48, _), (62, _)] (wants_none rfl) ⟨rho_in rfl (fv (hK 1 (memE rfl))), rho_in rfl e6, trivial⟩ rfl (run_append_op rfl rfl rfl hrun) ⟨hI.grown hA1.fr.grown hI.size (fun j hj => by have := gr_base hA.2 j hj; have := HBP.out; omega), hA1.own, by rw [hA1.fr.grown.block Bp (mk_lt hA.1) (fun h => by have := gr_base hA.2 Bp h.symm; omega)]; exact hA.1⟩
        refine w_val [(6, _)] _ (fun vs w hK => ⟨wants_none rfl, rho_out rfl rfl, trivial⟩) rfl (fun wq hI => by simp only [execOp, Option.map_some, Option.map_none, lk_tmp, lk_const, lkT_cons, ↓reduceIte, Nat.reduceEqDiff]; go_simp; (first | done | rfl)) ?_
        refine w_lin (FW.of (fun _ W => ∃ v, W.heap[Bp]? = some (.cells [Value.slice Ab nb cb, v].toArray 36 (0, 0)) ∧ Gr .i64 3 W (Bp + 1) v (ws ++ [((V : Nat) : Int)])) (fun _ _ _ h hb => h.elim fun v h => ⟨v, box_stays h.1 hb, gr_below h.2 hb⟩)) (by decide) (fun vs wq hI hJ hK => ?_) ?_
        · obtain ⟨hA1, hA2⟩ : Gr .i64 3 wq (Bp + 1) (vs 16) (ws ++ [((V : Nat) : Int)]) ∧ wq.heap[Bp]? = some (.cells [Value.slice Ab nb cb, wv].toArray 36 (0, 0)) := hK 16 (memE rfl)
          obtain ⟨A7, n7, c7, e7, _⟩ := gr_open hA1
          exact ob_store_at (g := Bp) (i := 1) (v := vs 16) [(64, .pointer (some ⟨Bp, 1, none⟩)), (63, vs 16)] (wants_none rfl) ⟨rho_in rfl (fv (hK 17 (memE rfl))), rho_in rfl rfl, trivial⟩ rfl rfl rfl rfl (by rw [e7]; rfl) hA2 (by simp) info34 (fun w' hs => ⟨hs.then_ hI (by have := HBP.out; omega), _, hs.at_, hs.gr hA1 (fun h => by have := gr_base hA1 Bp h; omega)⟩)
        refine w_end rfl rfl rfl (fun vs wq hI hF => ?_)
        simp only [List.reverse_cons, List.reverse_nil, List.nil_append, List.cons_append, finL_val, finL_of, finL_any, finL_app, finL_new, finL_gr, finL_row, finL_box, finL_nil, Act.put, List.setIfInBounds_toArray, List.set_cons_zero, List.set_cons_succ, Nat.reduceAdd]
        obtain ⟨v7, hv7, hg7⟩ : ∃ v, wq.heap[Bp]? = some (.cells [Value.slice Ab nb cb, v].toArray 36 (0, 0)) ∧ Gr .i64 3 wq (Bp + 1) v (ws ++ [((V : Nat) : Int)]) := hF 18 (by decide) rfl
        have HP7 := Lib.hid hv7
        have HG7 := Lib.hid hg7
        have HB7 := Lib.hid hI
        clear hI hF hv7 hg7 HP HG HB
        go_wp2_with fail
        go_roundw
        case rel => exact ⟨k + 1, v7, by omega, by go_num, HP7, Lib.hid (by rw [HSU.out]; exact HG7.out), HB7⟩
        case measure => simp [intOf]; omega
      · obtain rfl : k = N := by omega
        have t1 : decide ((k : Int) < (k : Int)) = false := by simp
        obtain ⟨Aw, nw, cw, rfl, hwc, HLw, hwm, _⟩ := gr_open HG.out
        have HW6 := Lib.hid (below_then HW4.out HW4.out.size HB.out)
        have HX6 := Lib.hid (box_stays HX4.out HB.out)
        have HO6 := Lib.hid (gr_below HO4.out HB.out)
        have C := Lib.hid (read_any Ab nb cb Aw nw cw (xs.take nb) 0 wr (rds_below HRB.out HB.out) (HBT.out.take nb) hbc (by omega) (Nat.zero_le _))
        clear HX4 HO4 HW4 HB HP5 HB5' HRB
        go_wp2_with (first | (refine wpList_load_box rfl 36 (.tmp 6) rfl Bp [.slice Ab nb cb, .slice Aw nw cw] rfl HP.out Try.underlying36 rfl info36 ?_) | fail)
        refine C.out.mono ?_
        rintro e w6 ⟨hb6, pv, ex, rfl, hpost⟩
        have HW7 := Lib.hid (below_then HW6.out HW6.out.size hb6)
        have HX7 := Lib.hid (box_stays HX6.out hb6)
        have HO7 := Lib.hid (gr_below HO6.out hb6)
        have HP7 := Lib.hid (box_stays HP.out hb6)
        have HG7 := Lib.hid (gr_below HG.out hb6)
        have hxt : (xs.take nb).length = nb := by rw [List.length_take, HXL.out]; omega
        clear hb6 HW6 HX6 HO6 HP HG C
        rcases hpost with ⟨rfl, a, last, ps, hch, hal, hown⟩ | ⟨rfl, rfl, a, last, out, hch, hal, hno⟩
        · have hcl := chain_le hch (Nat.zero_le _)
          have hpl : 3 * ps.length ≤ nb := by have := hcl.2.1; rw [nn_length] at this; have := hcl.1; omega
          have hsz : ∀ p ∈ ps, p.1.size ≤ 1000000 ∧ p.2.size ≤ 1000000 := by
            intro p hp
            have := hcl.2.2.2 (numsOf p.1, numsOf p.2) (List.mem_map.2 ⟨p, hp, rfl⟩)
            rw [numsOf_length, numsOf_length] at this
            omega
          obtain ⟨Ap, np, cp, rfl, hpc, HLp, hpm, hsts⟩ := ownk_open encP_len hown
          have hnp : ps.length = np := HLp.out
          have CM := Lib.hid (make_any Ap np cp ps w6 hsts (by omega) hsz)
          have HCH := Lib.hid hch
          have HAL := Lib.hid hal
          clear hcl hsz hsts hown hch hal
          go_wp2_with fail
          refine CM.out.mono ?_
          rintro e w7 ⟨hb7, cv, ex, rfl, hpost⟩
          have HW8 := Lib.hid (below_then HW7.out HW7.out.size hb7)
          have HX8 := Lib.hid (box_stays HX7.out hb7)
          have HO8 := Lib.hid (gr_below HO7.out hb7)
          have HP8 := Lib.hid (box_stays HP7.out hb7)
          have HG8 := Lib.hid (gr_below HG7.out hb7)
          clear hb7 HW7 HX7 HO7 HP7 HG7 CM
          rcases hpost with ⟨rfl, hgood, hgr⟩ | hbad
          · obtain ⟨Ac, nc, cc, rfl, hcc, HLc, hcm, hrc⟩ := gr_open hgr
            have HRC := Lib.hid hrc
            have HGD := Lib.hid hgood
            obtain ⟨G, hG⟩ : ∃ G, decide (¬ strOfNums (pageOf (nn ps)) = strOfNums xs) = G := ⟨_, rfl⟩
            have HGG := Lib.hid hG
            have HRX := Lib.hid (rds_below HR.out HW8.out)
            clear hrc hgr hgood hG
            go_upto_region 17 with fail
            refine plain_ (fun wq => Below w7.heap.size w7 wq) (fun _ => True) reg_19_17 rfl inv0 (fun _ _ _ _ => trivial) (Below.refl _ _) trivial ?_
            refine w_move (.inl rfl) (fun vs w hK => ⟨wants_none rfl, rho_out rfl rfl⟩) ?_
            refine w_val [(80, _)] (_) (fun vs w hK => ⟨wants_none rfl, rho_in rfl (fv (hK 0 (memE rfl))), trivial⟩) rfl (fun wq hI => by exact run_int_neq (r := false) rfl rfl rfl rfl) ?_
            refine w_move (.inl rfl) (fun vs w hK => ⟨wants_none rfl, rho_in rfl (fv (hK 1 (memE rfl)))⟩) ?_
            refine w_moveG (.inl rfl) (fun vs w hK => wantsF rfl (fv (hK 2 (memE rfl)))) (fun hG vs w hK => (rho_out rfl rfl)) ?_
            refine w_valG [(83, _)] (_) (fun vs w hK => wantsF rfl (fv (hK 2 (memE rfl)))) (fun hG vs w hK => ⟨(rho_in rfl (fvg (hK 3 (memE rfl)) hG)), trivial⟩) rfl (fun hG wq hI => by exact run_conv_op rfl rfl (conv_rds (dst := 9) tb Try.underlying5 Try.underlying9 (rds_below HRC.out hI))) ?_
            refine w_moveG (.inl rfl) (fun vs w hK => wantsF rfl (fv (hK 2 (memE rfl)))) (fun hG vs w hK => (rho_out rfl rfl)) ?_
            refine w_valG [(85, _)] (_) (fun vs w hK => wantsF rfl (fv (hK 2 (memE rfl)))) (fun hG vs w hK => ⟨(rho_in rfl (fvg (hK 5 (memE rfl)) hG)), trivial⟩) rfl (fun hG wq hI => by exact run_conv_op rfl rfl (conv_rds (dst := 9) tb Try.underlying5 Try.underlying9 (rds_below HRX.out hI))) ?_
            refine w_valG [(84, _), (86, _)] (_) (fun vs w hK => wantsF rfl (fv (hK 2 (memE rfl)))) (fun hG vs w hK => ⟨(rho_in rfl (fvg (hK 4 (memE rfl)) hG)), (rho_in rfl (fvg (hK 6 (memE rfl)) hG)), trivial⟩) rfl (fun hG wq hI => by exact op_str_neq rfl rfl rfl HGG.out) ?_
            refine w_or rfl (fun vs w hK => wants_none rfl) (fun vs w hK => (rho_in rfl (fv (hK 2 (memE rfl))))) (fun hB vs w hK => (rho_in rfl (fvg (hK 7 (memE rfl)) (gnot hB)))) ?_
            refine w_as (c' := .bool G) (congrArg Value.bool (Bool.false_or G)) ?_
            refine w_endM [false, false, false, false, false, false, false, false, true] rfl rfl rfl (fun vs wq hI hF => ?_)
            simp only [List.reverse_cons, List.reverse_nil, List.nil_append, List.cons_append, finL_val, finL_of, finL_any, finL_app, finL_new, finL_gr, finL_row, finL_box, finL_nil, Act.put, List.setIfInBounds_toArray, List.set_cons_zero, List.set_cons_succ, Nat.reduceAdd, maskF, finL_imp, Bool.not_false, Bool.not_true, Bool.true_and, Bool.false_and]
            have HW9 := Lib.hid (below_then HW8.out HW8.out.size hI)
            have HX9 := Lib.hid (box_stays HX8.out hI)
            have HO9 := Lib.hid (gr_below HO8.out hI)
            have HP9 := Lib.hid (box_stays HP8.out hI)
            have HG9 := Lib.hid (gr_below HG8.out hI)
            clear hI hF HW8 HX8 HO8 HP8 HG8 HRC HRX
            obtain ⟨w8, rfl⟩ : ∃ w8 : World, w8 = wq := ⟨_, rfl⟩
            cases G with
            | true =>
              have HN : Hid (∀ l, ¬ IsPage xs l) := Lib.hid (no_made (by rw [HE.out]; exact HCH.out) (by rw [HE.out]; exact HAL.out) (fun h => of_decide_eq_true HGG.out (by rw [h.2])))
              go_wp2_with (first | (refine wpList_store_box rfl 36 (.tmp 2) (.tmp 89) rfl w.heap.size [.slice none 0 0, .slice none 0 0] rfl rfl HX9.out rfl info36 rfl ?_; intro w9 hs9; have HS9 := Lib.hid hs9; clear hs9) | fail)
              (try simp only [Exit.inBlock, Exit.then])
              refine bodyPost_ret (results_box_tmp rfl rfl (loadVar_box HS9.out.at_ Try.underlying36 rfl info36)) rfl ?_
              exact ⟨HS9.out.then_ HW9.out (Nat.le_refl _), _, _, 2, rfl, .inr ⟨rfl, rfl, rfl, HN.out⟩⟩
            | false =>
              have hse : strOfNums (pageOf (nn ps)) = strOfNums xs := Decidable.of_not_not (of_decide_eq_false HGG.out)
              have hpe : pageOf (nn ps) = xs := by
                have := congrArg numsOf hse
                rwa [numsOf_strOfNums _ (page_byte (nn_byte ps)), numsOf_strOfNums _ HBT.out] at this
              have hip : IsPage xs (nn ps) := ⟨HGD.out, hpe⟩
              have hpend := page_end hip
              have e1 : xs.take nb = bodyAt (nn ps) ps.length := by have := hpend.2.2.2.1; rwa [HE.out, nn_length] at this
              have e2 : nums4 xs nb k = places (nn ps) ps.length := by
                have h1 := page_places hip
                rw [HE.out] at h1
                have h2 := hpend.2.1
                rw [HLV.out] at h2
                rw [h2, h1, nn_length]
              have HIP := Lib.hid hip
              have HE1 := Lib.hid e1
              have HE2 := Lib.hid e2
              clear hse hpe hip hpend e1 e2
              go_wp2_with (first
                | (refine wpList_load_box rfl 36 (.tmp 6) rfl Bp [.slice Ab nb cb, .slice Aw nw cw] rfl HP9.out Try.underlying36 rfl info36 ?_)
                | (refine wpList_store_box rfl 36 (.tmp 2) (.tmp 90) rfl w.heap.size [.slice Ab nb cb, .slice Aw nw cw] rfl rfl HX9.out rfl info36 rfl ?_; intro w9 hs9; have HS9 := Lib.hid hs9; clear hs9)
                | fail)
              (try simp only [Exit.inBlock, Exit.then])
              refine bodyPost_ret (results_box_tmp rfl rfl (loadVar_box HS9.out.at_ Try.underlying36 rfl info36)) rfl ?_
              refine ⟨HS9.out.then_ HW9.out (Nat.le_refl _), _, _, 0, rfl, .inl ⟨rfl, ps, HIP.out, ?_, ?_⟩⟩
              · rw [← HE1.out]
                exact gr_lower (HS9.out.gr HO9.out (fun h => by have := gr_base HO9.out _ h; omega)) (by omega)
              · rw [← HE2.out]
                exact gr_lower (HS9.out.gr HG9.out (fun h => by have := gr_base HG9.out _ h; omega)) (by omega)
          · have HNG : Hid (¬ (Good (nn ps) (nn ps).length ∧ pageOf (nn ps) = xs)) := Lib.hid (by
              rintro ⟨hg, _⟩
              rcases hbad with ⟨_, _, k, hk, _, h1⟩ | ⟨_, _, k, hk, _, _, h1⟩
              · exact h1 (hg k hk).1
              · exact h1 (hg k hk).2)
            have hex : cv = .slice none 0 0 ∧ (ex = 1 ∨ ex = 6) := by
              rcases hbad with ⟨h1, h2, _⟩ | ⟨h1, h2, _⟩
              · exact ⟨h2, .inl h1⟩
              · exact ⟨h2, .inr h1⟩
            obtain ⟨rfl, hex⟩ := hex
            have HEX : Hid ((((ex : Nat) : Int) != 0) = true) := Lib.hid (by rcases hex with rfl | rfl <;> rfl)
            clear hbad hex
            go_upto_region 17 with fail
            refine plain_ (fun wq => Below w7.heap.size w7 wq) (fun _ => True) reg_19_17 rfl inv0 (fun _ _ _ _ => trivial) (Below.refl _ _) trivial ?_
            refine w_move (.inl rfl) (fun vs w hK => ⟨wants_none rfl, rho_out rfl rfl⟩) ?_
            refine w_val [(80, _)] (_) (fun vs w hK => ⟨wants_none rfl, rho_in rfl (fv (hK 0 (memE rfl))), trivial⟩) rfl (fun wq hI => by exact run_int_neq (r := true) rfl rfl rfl HEX.out) ?_
            refine w_move (.inl rfl) (fun vs w hK => ⟨wants_none rfl, rho_in rfl (fv (hK 1 (memE rfl)))⟩) ?_
            refine w_not (fun vs wq hK => wants_not rfl (fv (hK 2 (memE rfl)))) ?_
            refine w_not (fun vs wq hK => wants_not rfl (fv (hK 2 (memE rfl)))) ?_
            refine w_not (fun vs wq hK => wants_not rfl (fv (hK 2 (memE rfl)))) ?_
            refine w_not (fun vs wq hK => wants_not rfl (fv (hK 2 (memE rfl)))) ?_
            refine w_not (fun vs wq hK => wants_not rfl (fv (hK 2 (memE rfl)))) ?_
            refine w_pick (b := true) rfl (fun vs w hK => ⟨wants_none rfl, (rho_in rfl (fv (hK 2 (memE rfl)))), rho_const⟩) ?_
            refine w_end rfl rfl rfl (fun vs wq hI hF => ?_)
            simp only [List.reverse_cons, List.reverse_nil, List.nil_append, List.cons_append, finL_val, finL_of, finL_any, finL_app, finL_new, finL_gr, finL_row, finL_box, finL_nil, Act.put, List.setIfInBounds_toArray, List.set_cons_zero, List.set_cons_succ, Nat.reduceAdd]
            have HW9 := Lib.hid (below_then HW8.out HW8.out.size hI)
            have HX9 := Lib.hid (box_stays HX8.out hI)
            clear hI hF HW8 HX8 HO8 HP8 HG8
            obtain ⟨w8, rfl⟩ : ∃ w8 : World, w8 = wq := ⟨_, rfl⟩
            have HN : Hid (∀ l, ¬ IsPage xs l) := Lib.hid (no_made (by rw [HE.out]; exact HCH.out) (by rw [HE.out]; exact HAL.out) HNG.out)
            go_wp2_with (first | (refine wpList_store_box rfl 36 (.tmp 2) (.tmp 89) rfl w.heap.size [.slice none 0 0, .slice none 0 0] rfl rfl HX9.out rfl info36 rfl ?_; intro w9 hs9; have HS9 := Lib.hid hs9; clear hs9) | fail)
            (try simp only [Exit.inBlock, Exit.then])
            refine bodyPost_ret (results_box_tmp rfl rfl (loadVar_box HS9.out.at_ Try.underlying36 rfl info36)) rfl ?_
            exact ⟨HS9.out.then_ HW9.out (Nat.le_refl _), _, _, 2, rfl, .inr ⟨rfl, rfl, rfl, HN.out⟩⟩
        · have HCH := Lib.hid hch
          have HAL := Lib.hid hal
          have HNO := Lib.hid hno
          clear hch hal hno
          have HN : Hid (∀ l, ¬ IsPage xs l) := Lib.hid (no_read (by rw [HE.out]; exact HCH.out) (by rw [HE.out]; exact HAL.out) (by rw [HE.out]; exact HNO.out))
          go_wp2_with (first | (refine wpList_store_box rfl 36 (.tmp 2) (.tmp 73) rfl w.heap.size [.slice none 0 0, .slice none 0 0] rfl rfl HX7.out rfl info36 rfl ?_; intro w9 hs9; have HS9 := Lib.hid hs9; clear hs9) | fail)
          (try simp only [Exit.inBlock, Exit.then])
          refine bodyPost_ret (results_box_tmp rfl rfl (loadVar_box HS9.out.at_ Try.underlying36 rfl info36)) rfl ?_
          exact ⟨HS9.out.then_ HW7.out (Nat.le_refl _), _, _, 2, rfl, .inr ⟨rfl, rfl, rfl, HN.out⟩⟩
end Go.Proofs.Ytnkeijdpjcclcaa.Pg

