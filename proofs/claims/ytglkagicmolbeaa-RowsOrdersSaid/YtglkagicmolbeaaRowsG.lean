/- Contracts of package rows: ParseCoin, ParseSpend, ParseUndo. -/
import Derived.Test.YtglkagicmolbeaaRowsF
import Derived.Test.YtglkagicmolbeaaFld2
namespace Go.Proofs.Ytglkagicmolbeaa.Rw
set_option linter.unusedVariables false
set_option linter.unusedSimpArgs false
open Go.Proofs.Ytglkagicmolbeaa.Kit Go.Proofs.Ytglkagicmolbeaa.Num Go.RowKit Go.Proofs.YtglkagicmolbeaaW.PrintWords Go.Proofs.YtglkagicmolbeaaW.PrintLast Go.Proofs.YtglkagicmolbeaaW.PrintMore NumPure
theorem cn_one (c : Int) (s : List Int) (h p : Int) : (cn c s h p).all (·.oneCell') = true := by
  unfold cn
  rw [List.all_cons, List.all_append, nums_one]
  rfl
theorem sp_one (b : List Int) (i h : Int) : (sp b i h).all (·.oneCell') = true := by
  unfold sp
  rw [List.all_append, nums_one]
  rfl
theorem cn_length {c : Int} {s : List Int} (hs : s.length = 32) (h p : Int) : (cn c s h p).length = 35 := by simp [cn, nums, hs]
theorem sp_length {s : List Int} (hs : s.length = 32) (h p : Int) : (sp s h p).length = 34 := by simp [sp, nums, hs]
theorem pt_length {s : List Int} (hs : s.length = 32) (h : Int) : (pt s h).length = 33 := by simp [pt, nums, hs]
theorem size56 : (Try.prog.info? 56).map (·.size) = some 35 := by kernel_rfl
theorem size58 : (Try.prog.info? 58).map (·.size) = some 34 := by kernel_rfl
theorem size39 : (Try.prog.info? 39).map (·.size) = some 33 := by kernel_rfl
def z32 : List Int := List.replicate 32 0
/-- What ParseSpend tells. -/
def PS (s : ByteArray) : List Value × Nat := if s.size = 40 then (sp (H32 s) (A4 s 32) (A4 s 36), 0) else (sp z32 0 0, 12)
set_option maxRecDepth 20000 in
set_option maxHeartbeats 1600000 in
theorem parseSpend_any (s : ByteArray) (hs : s.size ≤ 140737488355000) (w : World) : Calls Try.prog 46 #[.string s] w fun e w' => e = .returned (.tuple #[.agg (PS s).1.toArray, .int .i64 (PS s).2]) ∧ Below w.heap.size w w' := by
  obtain ⟨R, hR⟩ : ∃ R, R = PS s := ⟨_, rfl⟩
  rw [← hR]
  have hzl : z32.length = 32 := rfl
  go_enter Try.func46, Try.ntmps46
  go_upto_region 1 with fail
  have hx1 : (w.alloc (.cells (sp z32 0 0).toArray 58)).heap[w.heap.size]? = some (.cells (sp z32 0 0).toArray 58) := heap_alloc_new w _
  have hb1 : Below w.heap.size w (w.alloc (.cells (sp z32 0 0).toArray 58)) := below_alloc (Below.refl _ _) _
  change Code.wp _ _ _ _ (w.alloc (.cells (sp z32 0 0).toArray 58))
  generalize w.alloc (.cells (sp z32 0 0).toArray 58) = w1 at hx1 hb1 ⊢
  by_cases h40 : s.size = 40
  · have t1 : ((s.size : Int) != 40) = false := by rw [h40]; rfl
    have HF : Hid (R = (sp (H32 s) (A4 s 32) (A4 s 36), 0)) := Lib.hid (by rw [hR]; unfold PS; rw [if_pos h40])
    have C1 := Lib.hid (fun wq => hash_any s (by omega) (by omega) wq)
    have C2 := Lib.hid (fun wq => at_any s (by omega) 32 (by omega) wq)
    have C3 := Lib.hid (fun wq => at_any s (by omega) 36 (by omega) wq)
    have hidl : (H32 s).length = 32 := by unfold H32; rw [List.length_take, numsOf_length]; omega
    generalize H32 s = id at C1 hidl HF
    generalize A4 s 32 = a at C2 HF
    generalize A4 s 36 = b at C3 HF
    have HX1 := Lib.hid hx1
    have HB1 := Lib.hid hb1
    have HP : Hid ((sp id a b).length = 34) := Lib.hid (sp_length hidl _ _)
    clear hx1 hb1 hR h40
    go_wp2_with fail
    refine (C1.out _).mono ?_
    rintro e w3 ⟨rfl, hb3⟩
    have HB3 := Lib.hid (below_then HB1.out HB1.out.size hb3)
    have HX3 := Lib.hid (box_stays HX1.out hb3)
    clear hb3
    go_wp2_with fail
    refine (C2.out _).mono ?_
    rintro e w4 ⟨rfl, hb4⟩
    have HB4 := Lib.hid (below_then HB3.out HB3.out.size hb4)
    have HX4 := Lib.hid (box_stays HX3.out hb4)
    clear hb4
    go_wp2_with fail
    refine (C3.out _).mono ?_
    rintro e w5 ⟨rfl, hb5⟩
    have HB5 := Lib.hid (below_then HB4.out HB4.out.size hb5)
    have HX5 := Lib.hid (box_stays HX4.out hb5)
    clear hb5
    go_wp2_with (first
      | (refine wpList_build_as rfl 58 #[(0, .tmp 9), (1, .tmp 11), (2, .tmp 13)] rfl (sp id a b).toArray [(0, .agg (nums .u8 id).toArray), (1, .int .i64 a), (2, .int .i64 b)] rfl (built_sp id hidl a b) ?_)
      | (refine wpList_store_box rfl 58 (.tmp 2) (.tmp 14) rfl w.heap.size (sp id a b) rfl rfl HX5.out (by rw [HP.out]; rfl) (by rw [HP.out]; exact size58) (sp_one _ _ _) ?_; intro w7 hs7; have HS7 := Lib.hid hs7; clear hs7))
    (try simp only [Exit.inBlock, Exit.then])
    refine bodyPost_ret (results_box_tmp rfl rfl (loadVar_box HS7.out.at_ Try.underlying58 rfl (by rw [HP.out]; exact size58))) rfl ?_
    exact ⟨by rw [HF.out]; rfl, HS7.out.then_ HB5.out (Nat.le_refl _)⟩
  · have t1 : ((s.size : Int) != 40) = true := by simp only [bne_iff_ne]; omega
    have HF : Hid (R = (sp z32 0 0, 12)) := Lib.hid (by rw [hR]; unfold PS; rw [if_neg h40])
    have HX1 := Lib.hid hx1
    have HB1 := Lib.hid hb1
    clear hx1 hb1 hR h40
    go_wp2_with (refine wpList_store_box rfl 58 (.tmp 2) (.tmp 7) rfl w.heap.size (sp z32 0 0) rfl rfl HX1.out rfl (by rw [sp_length rfl]; exact size58) rfl ?_; intro w7 hs7; have HS7 := Lib.hid hs7; clear hs7)
    (try simp only [Exit.inBlock, Exit.then])
    refine bodyPost_ret (results_box_tmp rfl rfl (loadVar_box HS7.out.at_ Try.underlying58 rfl (by rw [sp_length rfl]; exact size58))) rfl ?_
    exact ⟨by rw [HF.out]; rfl, HS7.out.then_ HB1.out (Nat.le_refl _)⟩
/-- What ParseCoin tells. -/
def C8 (s : ByteArray) : Int := IntKind.i64.wrap ((beVal ((numsOf s).take 8) : Nat) : Int)
def HC (s : ByteArray) : List Int := ((numsOf s).drop 8).take 32
def PC (s : ByteArray) : List Value × Nat := if s.size = 48 then (cn (C8 s) (HC s) (A4 s 40) (A4 s 44), 0) else (cn 0 z32 0 0, 12)
theorem reg_45_3 : RegOk (opsOf Try.f45 3) [[], [0], [0, 1], [0, 1, 2], [0, 1, 2, 3], [], [5], [0, 1, 2, 3, 5, 6], [], [0, 1, 2, 3, 5, 6, 7, 8], [], [0, 1, 2, 3, 5, 6, 7, 8, 9, 10], [0, 1, 2, 3, 4, 5, 6, 7, 8, 9, 10, 11], [0, 1, 2, 3, 4, 5, 6, 7, 8, 9, 10, 11, 12], [0, 1, 2, 3, 4, 5, 6, 7, 8, 9, 10, 11, 12, 13]] [13] [some 8, some 9, some 10, some 11, some 12, some 13, some 14, some 15, some 16, some 17, some 18, some 19, some 20, none, some 3] := regOk (by kernel_rfl)
set_option maxRecDepth 20000 in
set_option maxHeartbeats 1600000 in
theorem parseCoin_any (s : ByteArray) (hs : s.size ≤ 140737488355000) (w : World) : Calls Try.prog 45 #[.string s] w fun e w' => e = .returned (.tuple #[.agg (PC s).1.toArray, .int .i64 (PC s).2]) ∧ Below w.heap.size w w' := by
  obtain ⟨R, hR⟩ : ∃ R, R = PC s := ⟨_, rfl⟩
  rw [← hR]
  have hzl : z32.length = 32 := rfl
  go_enter Try.func45, Try.ntmps45
  go_upto_region 1 with fail
  have hx1 : (w.alloc (.cells (cn 0 z32 0 0).toArray 56)).heap[w.heap.size]? = some (.cells (cn 0 z32 0 0).toArray 56) := heap_alloc_new w _
  have hb1 : Below w.heap.size w (w.alloc (.cells (cn 0 z32 0 0).toArray 56)) := below_alloc (Below.refl _ _) _
  change Code.wp _ _ _ _ (w.alloc (.cells (cn 0 z32 0 0).toArray 56))
  generalize w.alloc (.cells (cn 0 z32 0 0).toArray 56) = w1 at hx1 hb1 ⊢
  by_cases h48 : s.size = 48
  · have t1 : ((s.size : Int) != 48) = false := by rw [h48]; rfl
    have HF : Hid (R = (cn (C8 s) (HC s) (A4 s 40) (A4 s 44), 0)) := Lib.hid (by rw [hR]; unfold PC; rw [if_pos h48])
    obtain ⟨T, hT⟩ : ∃ T, T = s.extract 8 s.size := ⟨_, rfl⟩
    have hTs : T.size = 40 := by rw [hT, ← numsOf_length, numsOf_extract, List.length_take, List.length_drop, numsOf_length]; omega
    have hTH : H32 T = HC s := by rw [hT]; unfold H32 HC; rw [numsOf_extract, List.take_take, Nat.min_eq_left (by omega)]
    obtain ⟨U, hU⟩ : ∃ U, U = s.extract 0 8 := ⟨_, rfl⟩
    have hUn : numsOf U = (numsOf s).take 8 := by rw [hU, numsOf_extract, List.drop_zero]
    have hUs : U.size = 8 := by rw [← numsOf_length, hUn, List.length_take, numsOf_length]; omega
    have C1 := Lib.hid (fun wq => hash_any T (by omega) (by omega) wq)
    have C2 := Lib.hid (fun wq => at_any s (by omega) 40 (by omega) wq)
    have C3 := Lib.hid (fun wq => at_any s (by omega) 44 (by omega) wq)
    have hidl : (HC s).length = 32 := by unfold HC; rw [List.length_take, List.length_drop, numsOf_length]; omega
    rw [hTH] at C1
    have hc8 : C8 s = IntKind.i64.wrap ((beVal ((numsOf s).take 8) : Nat) : Int) := rfl
    rw [← hUn] at hc8
    have HUU := Lib.hid hU
    have HTT := Lib.hid hT
    have hun : (numsOf U).length = 8 := by rw [numsOf_length, hUs]
    clear hTH hUn hT hU
    generalize HC s = id at C1 hidl HF
    generalize A4 s 40 = a at C2 HF
    generalize A4 s 44 = b at C3 HF
    generalize C8 s = c at hc8 HF
    have HC8 := Lib.hid hc8
    have HUN := Lib.hid hun
    have HUS := Lib.hid hUs
    have HX1 := Lib.hid hx1
    have HB1 := Lib.hid hb1
    have HP : Hid ((cn c id a b).length = 35) := Lib.hid (cn_length hidl _ _)
    have HIL := Lib.hid hidl
    have HS48 := Lib.hid h48
    clear hx1 hb1 hR h48 hun hUs hTs hc8 hidl
    go_upto_region 3 with fail
    refine draws_ (fun W => Below w.heap.size w W) (fun W => Below w1.heap.size w1 W) (by kernel_rfl) reg_45_3 rfl (fun _ _ h k => below_then h h.size k) (fun _ _ h k => below_then h h.size k) (below_drew HB1.out) (below_drew (Below.refl _ _)) ?_
    refine w_move (.inl rfl) (fun vs w hK => ⟨wants_none rfl, rho_out rfl rfl⟩) ?_
    refine w_val [(8, _)] (.string U) (fun vs w hK => ⟨wants_none rfl, rho_in rfl (fv (hK 0 (memE rfl))), trivial⟩) rfl (fun wq hI => by exact op_cut_to (b := 8) rfl Try.underlying9 rfl rfl rfl (by have := HS48.out; omega) HUU.out.symm) ?_
    refine w_any (FW.row .u8 (numsOf U)) (by decide) (fun vs wq hI hK => ?_) ?_
    · obtain ⟨v1, w2, hrun, hb, ho, _⟩ := conv_bytes (t := 22) Try.underlying9 Try.underlying22 Try.underlying5 wq U (by simp only [maxLen, HUS.out]; omega) hI.size
      exact ob_run [(9, _)] (wants_none rfl) ⟨rho_in rfl (fv (hK 1 (memE rfl))), trivial⟩ rfl (run_conv_op rfl rfl hrun) ⟨hb, isRow_gr ho⟩
    refine w_any (FW.val (.int .u64 ((beVal (numsOf U) : Nat) : Int))) (by decide) (fun vs wq hI hK => ?_) ?_
    · obtain ⟨A3, n3, c3, e3, h3c, HL3, h3m, hr3⟩ := hK 2 (memE rfl)
      obtain rfl : n3 = 8 := by rw [← HL3.out]; exact HUN.out
      have hcl := big_val A3 8 c3 _ wq hr3 HL3.out (by omega) h3c (numsOf_byte _)
      rw [List.take_of_length_le (by rw [HUN.out]; omega)] at hcl
      exact ob_call [(10, _)] _ (wants_none rfl) ⟨rho_in rfl e3, trivial⟩ rfl rfl Try.func40 (by kernel_rfl) rfl (margs rfl) (hcl.mono fun e w' ⟨he, hw⟩ => ⟨_, he, hw ▸ Below.refl _ _, rfl⟩)
    refine w_val [(11, _)] (.int .i64 c) (fun vs w hK => ⟨wants_none rfl, rho_in rfl (fv (hK 3 (memE rfl))), trivial⟩) rfl (fun wq hI => by exact op_conv_int rfl Try.underlying24 Try.underlying2 rfl HC8.out.symm) ?_
    refine w_move (.inl rfl) (fun vs w hK => ⟨wants_none rfl, rho_out rfl rfl⟩) ?_
    refine w_val [(13, _)] (.string T) (fun vs w hK => ⟨wants_none rfl, rho_in rfl (fv (hK 5 (memE rfl))), trivial⟩) rfl (fun wq hI => by exact op_cut_from (a := 8) rfl Try.underlying9 rfl rfl rfl (by have := HS48.out; omega) HTT.out.symm) ?_
    refine w_call [(14, _)] _ _ (by decide) (fun vs w hK => ⟨wants_none rfl, rho_in rfl (fv (hK 6 (memE rfl))), trivial⟩) rfl rfl Try.func59 (by kernel_rfl) rfl (fun wq hI => C1.out wq) (margs rfl) ?_
    refine w_move (.inl rfl) (fun vs w hK => ⟨wants_none rfl, rho_out rfl rfl⟩) ?_
    refine w_call [(16, _)] _ _ (by decide) (fun vs w hK => ⟨wants_none rfl, rho_in rfl (fv (hK 8 (memE rfl))), trivial⟩) rfl rfl Try.func60 (by kernel_rfl) rfl (fun wq hI => C2.out wq) (margs rfl) ?_
    refine w_move (.inl rfl) (fun vs w hK => ⟨wants_none rfl, rho_out rfl rfl⟩) ?_
    refine w_call [(18, _)] _ _ (by decide) (fun vs w hK => ⟨wants_none rfl, rho_in rfl (fv (hK 10 (memE rfl))), trivial⟩) rfl rfl Try.func60 (by kernel_rfl) rfl (fun wq hI => C3.out wq) (margs rfl) ?_
    refine w_val [(12, _), (15, _), (17, _), (19, _)] (.agg (cn c id a b).toArray) (fun vs w hK => ⟨wants_none rfl, rho_in rfl (fv (hK 4 (memE rfl))), rho_in rfl (fv (hK 7 (memE rfl))), rho_in rfl (fv (hK 9 (memE rfl))), rho_in rfl (fv (hK 11 (memE rfl))), trivial⟩) rfl (fun wq hI => by exact op_build rfl (built_cn id HIL.out c a b)) ?_
    refine w_lin (FW.of (fun _ W => W.heap[w.heap.size]? = some (.cells (cn c id a b).toArray 56 (0, 0))) (fun _ W W' h hb => by rw [hb.block _ (mk_lt h)]; exact h)) (by decide) (fun vs wq hI hJ hK => ?_) ?_
    · have hA := hJ (by decide) (by decide)
      exact ob_store_box [(2, _), (20, _)] (wants_none rfl) ⟨rho_out rfl rfl, rho_in rfl (fv (hK 12 (memE rfl))), trivial⟩ rfl rfl rfl rfl (box_stays HX1.out hA) (by rw [HP.out]; rfl) (by rw [HP.out]; exact size56) (cn_one _ _ _ _) (fun w' hs => ⟨hs.then_ hI (Nat.le_refl _), hs.at_⟩)
    refine w_const (.inr rfl) (fun vs w hK => wants_none rfl) ?_
    refine w_end rfl rfl rfl (fun vs wq hI hF => ?_)
    simp only [List.reverse_cons, List.reverse_nil, List.nil_append, List.cons_append, finL_val, finL_of, finL_any, finL_app, finL_new, finL_gr, finL_row, finL_box, finL_nil, Act.put, List.setIfInBounds_toArray, List.set_cons_zero, List.set_cons_succ, Nat.reduceAdd]
    have HX7 : Hid (wq.heap[w.heap.size]? = some (.cells (cn c id a b).toArray 56 (0, 0))) := Lib.hid (hF 13 (by decide) rfl)
    have HB7 := Lib.hid hI
    clear hI hF
    go_wp2_with fail
    (try simp only [Exit.inBlock, Exit.then])
    refine bodyPost_ret (results_box_tmp rfl rfl (loadVar_box HX7.out Try.underlying56 rfl (by rw [HP.out]; exact size56))) rfl ?_
    exact ⟨by rw [HF.out]; rfl, HB7.out⟩
  · have t1 : ((s.size : Int) != 48) = true := by simp only [bne_iff_ne]; omega
    have HF : Hid (R = (cn 0 z32 0 0, 12)) := Lib.hid (by rw [hR]; unfold PC; rw [if_neg h48])
    have HX1 := Lib.hid hx1
    have HB1 := Lib.hid hb1
    clear hx1 hb1 hR h48
    go_wp2_with (refine wpList_store_box rfl 56 (.tmp 2) (.tmp 7) rfl w.heap.size (cn 0 z32 0 0) rfl rfl HX1.out rfl (by rw [cn_length rfl]; exact size56) rfl ?_; intro w7 hs7; have HS7 := Lib.hid hs7; clear hs7)
    (try simp only [Exit.inBlock, Exit.then])
    refine bodyPost_ret (results_box_tmp rfl rfl (loadVar_box HS7.out.at_ Try.underlying56 rfl (by rw [cn_length rfl]; exact size56))) rfl ?_
    exact ⟨by rw [HF.out]; rfl, HS7.out.then_ HB1.out (Nat.le_refl _)⟩
/-- What ParseUndo tells. -/
def PU (s : ByteArray) : List Value × List Value × Nat := if s.size = 84 then (pt (H32 s) (A4 s 32), (PC (s.extract 36 s.size)).1, (PC (s.extract 36 s.size)).2) else (pt z32 0, cn 0 z32 0 0, 12)
theorem PC_one (s : ByteArray) : (PC s).1.all (·.oneCell') = true := by
  unfold PC
  split
  · exact cn_one _ _ _ _
  · rfl
theorem PC_length (s : ByteArray) : (PC s).1.length = 35 := by
  unfold PC
  split
  · exact cn_length (by unfold HC; rw [List.length_take, List.length_drop, numsOf_length]; omega) _ _
  · rfl
theorem reg_47_4 : RegOk (opsOf Try.f47 4) [[], [0], [], [0, 1, 2], [0, 1, 2, 3], [0, 1, 2, 3, 4], [], [], [0, 1, 2, 3, 4, 5], [0, 1, 2, 3, 4, 5, 6, 8], [0, 1, 2, 3, 4, 5, 6, 7, 8, 9]] [8, 9] [some 18, some 19, some 20, some 21, some 22, some 23, some 24, some 25, none, none, some 4] := regOk (by kernel_rfl)
set_option maxRecDepth 20000 in
set_option maxHeartbeats 1600000 in
theorem parseUndo_any (s : ByteArray) (hs : s.size ≤ 140737488355000) (w : World) : Calls Try.prog 47 #[.string s] w fun e w' => e = .returned (.tuple #[.agg (PU s).1.toArray, .agg (PU s).2.1.toArray, .int .i64 (PU s).2.2]) ∧ Below w.heap.size w w' := by
  obtain ⟨R, hR⟩ : ∃ R, R = PU s := ⟨_, rfl⟩
  rw [← hR]
  have hzl : z32.length = 32 := rfl
  go_enter Try.func47, Try.ntmps47
  go_upto_region 1 with fail
  have hxa : ((w.alloc (.cells (pt z32 0).toArray 39)).alloc (.cells (cn 0 z32 0 0).toArray 56)).heap[w.heap.size]? = some (.cells (pt z32 0).toArray 39) := (heap_alloc_old _ _ (by simp)).trans (heap_alloc_new w _)
  have hxb : ((w.alloc (.cells (pt z32 0).toArray 39)).alloc (.cells (cn 0 z32 0 0).toArray 56)).heap[w.heap.size + 1]? = some (.cells (cn 0 z32 0 0).toArray 56) := by have := heap_alloc_new (w.alloc (.cells (pt z32 0).toArray 39)) (.cells (cn 0 z32 0 0).toArray 56); simpa using this
  have hb1 : Below w.heap.size w ((w.alloc (.cells (pt z32 0).toArray 39)).alloc (.cells (cn 0 z32 0 0).toArray 56)) := below_alloc (below_alloc (Below.refl _ _) _) _
  change Code.wp _ _ _ _ ((w.alloc (.cells (pt z32 0).toArray 39)).alloc (.cells (cn 0 z32 0 0).toArray 56))
  generalize ((w.alloc (.cells (pt z32 0).toArray 39)).alloc (.cells (cn 0 z32 0 0).toArray 56)) = w1 at hxa hxb hb1 ⊢
  have hlb : w.heap.size + 1 < w1.heap.size := mk_lt hxb
  generalize hqq : w.heap.size + 1 = q at hxb hlb ⊢
  by_cases h84 : s.size = 84
  · have t1 : ((s.size : Int) != 84) = false := by rw [h84]; rfl
    have HF : Hid (R = (pt (H32 s) (A4 s 32), (PC (s.extract 36 s.size)).1, (PC (s.extract 36 s.size)).2)) := Lib.hid (by rw [hR]; unfold PU; rw [if_pos h84])
    obtain ⟨T, hT⟩ : ∃ T, T = s.extract 36 s.size := ⟨_, rfl⟩
    have hTs : T.size = 48 := by rw [hT, ← numsOf_length, numsOf_extract, List.length_take, List.length_drop, numsOf_length]; omega
    have C0 := Lib.hid (parseCoin_any T (by omega) w1)
    have hpl := PC_length T
    have hp1 := PC_one T
    rw [← hT] at HF
    generalize (PC T).1 = cs at C0 hpl hp1 HF
    generalize (PC T).2 = ke at C0 HF
    have C1 := Lib.hid (fun wq => hash_any s (by omega) (by omega) wq)
    have C2 := Lib.hid (fun wq => at_any s (by omega) 32 (by omega) wq)
    have h4 := A4_lt s 32 (by omega)
    have hidl : (H32 s).length = 32 := by unfold H32; rw [List.length_take, numsOf_length]; omega
    generalize H32 s = id at C1 hidl HF
    generalize A4 s 32 = a at C2 h4 HF
    have HWA : Hid (IntKind.u32.wrap (a : Int) = (a : Int)) := Lib.hid (u32_nat a h4)
    have HXA := Lib.hid hxa
    have HXB := Lib.hid hxb
    have HB1 := Lib.hid hb1
    have HP := Lib.hid (pt_length hidl (a : Int))
    have HPL := Lib.hid hpl
    have HP1 := Lib.hid hp1
    have HIL := Lib.hid hidl
    rw [hT] at C0
    have i1 : (36 : Int) ≤ (s.size : Int) := by omega
    clear hxa hxb hb1 hR h84 hTs hT hpl hp1 hidl h4
    go_wp2_with fail
    refine C0.out.mono ?_
    rintro e w3 ⟨rfl, hb3⟩
    have HB3 := Lib.hid hb3
    clear hb3
    go_upto_region 4 with (refine wpList_store_box rfl 56 (.tmp 5) (.tmp 16) rfl w3.heap.size cs rfl rfl (heap_alloc_new w3 _) (by rw [HPL.out]; rfl) (by rw [HPL.out]; exact size56) HP1.out ?_; intro w6 hs6; have HS6 := Lib.hid hs6; clear hs6)
    have hb6 : Below w3.heap.size w3 w6 := HS6.out.then_ (below_alloc (Below.refl _ _) _) (Nat.le_refl _)
    have HX6 := Lib.hid HS6.out.at_
    have hb16 := below_then HB3.out HB3.out.size hb6
    have HXA6 := Lib.hid (box_stays HXA.out hb16)
    have HXB6 := Lib.hid (box_stays HXB.out hb16)
    have hb06 := below_then HB1.out HB1.out.size hb16
    have HB6 := Lib.hid hb06
    have hl3 : w1.heap.size ≤ w3.heap.size := HB3.out.size
    have hpa : w.heap.size < w1.heap.size := by omega
    clear hb6 hb16 hb06 HS6 HXA HXB HB1 HB3
    generalize w3.heap.size = p6 at *
    refine draws_ (fun W => Below w.heap.size w W ∧ W.heap[p6]? = some (.cells cs.toArray 56 (0, 0))) (fun W => Below w6.heap.size w6 W) (by kernel_rfl) reg_47_4 rfl (fun _ _ h k => ⟨below_then h.1 h.1.size k, box_stays h.2 k⟩) (fun _ _ h k => below_then h h.size k) ⟨below_drew HB6.out, box_stays HX6.out (below_drew (Below.refl _ _))⟩ (below_drew (Below.refl _ _)) ?_
    refine w_move (.inl rfl) (fun vs w hK => ⟨wants_none rfl, rho_out rfl rfl⟩) ?_
    refine w_call [(18, _)] _ _ (by decide) (fun vs w hK => ⟨wants_none rfl, rho_in rfl (fv (hK 0 (memE rfl))), trivial⟩) rfl rfl Try.func59 (by kernel_rfl) rfl (fun wq hI => C1.out wq) (margs rfl) ?_
    refine w_move (.inl rfl) (fun vs w hK => ⟨wants_none rfl, rho_out rfl rfl⟩) ?_
    refine w_call [(20, _)] _ _ (by decide) (fun vs w hK => ⟨wants_none rfl, rho_in rfl (fv (hK 2 (memE rfl))), trivial⟩) rfl rfl Try.func60 (by kernel_rfl) rfl (fun wq hI => C2.out wq) (margs rfl) ?_
    refine w_val [(21, _)] (.int .u32 (a : Int)) (fun vs w hK => ⟨wants_none rfl, rho_in rfl (fv (hK 3 (memE rfl))), trivial⟩) rfl (fun wq hI => by exact op_conv_int rfl Try.underlying3 Try.underlying37 rfl HWA.out) ?_
    refine w_val [(19, _), (22, _)] (.agg (pt id a).toArray) (fun vs w hK => ⟨wants_none rfl, rho_in rfl (fv (hK 1 (memE rfl))), rho_in rfl (fv (hK 4 (memE rfl))), trivial⟩) rfl (fun wq hI => by exact op_build rfl (built_pt id HIL.out a)) ?_
    refine w_val [(5, _)] (.agg cs.toArray) (fun vs w hK => ⟨wants_none rfl, rho_out rfl rfl, trivial⟩) rfl (fun wq hI => by exact run_load_op rfl rfl (run_loadAt_mid wq _ 0 56 cs _ (range_block hI.2) Try.underlying56 rfl (by rw [HPL.out]; exact size56))) ?_
    refine w_move (.inl rfl) (fun vs w hK => ⟨wants_none rfl, rho_out rfl rfl⟩) ?_
    refine w_lin (FW.of (fun _ W => W.heap[w.heap.size]? = some (.cells (pt id a).toArray 39 (0, 0)) ∧ W.heap[q]? = some (.cells (cn 0 z32 0 0).toArray 56 (0, 0))) (fun _ W W' h hb => ⟨box_stays h.1 hb, box_stays h.2 hb⟩)) (by decide) (fun vs wq hI hJ hK => ?_) ?_
    · have hA := hJ (by decide) (by decide)
      exact ob_store_box [(2, _), (23, _)] (wants_none rfl) ⟨rho_out rfl rfl, rho_in rfl (fv (hK 5 (memE rfl))), trivial⟩ rfl rfl rfl rfl (box_stays HXA6.out hA) (by rw [HP.out]; rfl) (by rw [HP.out]; exact size39) (pt_one _ _) (fun w' hs => ⟨⟨hs.then_ hI.1 (Nat.le_refl _), (hs.other _ (by omega)).trans hI.2⟩, hs.at_, (hs.other _ (by omega)).trans (box_stays HXB6.out hA)⟩)
    refine w_lin (FW.of (fun _ W => W.heap[w.heap.size]? = some (.cells (pt id a).toArray 39 (0, 0)) ∧ W.heap[q]? = some (.cells cs.toArray 56 (0, 0))) (fun _ W W' h hb => ⟨box_stays h.1 hb, box_stays h.2 hb⟩)) (by decide) (fun vs wq hI hJ hK => ?_) ?_
    · have hA := hK 8 (memE rfl)
      exact ob_store_box [(3, _), (24, _)] (wants_none rfl) ⟨rho_out rfl rfl, rho_in rfl (fv (hK 6 (memE rfl))), trivial⟩ rfl rfl rfl rfl hA.2 (by rw [HPL.out]; rfl) (by rw [HPL.out]; exact size56) HP1.out (fun w' hs => ⟨⟨hs.then_ hI.1 (by omega), (hs.other _ (by omega)).trans hI.2⟩, (hs.other _ (by omega)).trans hA.1, hs.at_⟩)
    refine w_move (.inr rfl) (fun vs w hK => ⟨wants_none rfl, rho_in rfl (fv (hK 7 (memE rfl)))⟩) ?_
    refine w_end rfl rfl rfl (fun vs wq hI hF => ?_)
    simp only [List.reverse_cons, List.reverse_nil, List.nil_append, List.cons_append, finL_val, finL_of, finL_any, finL_app, finL_new, finL_gr, finL_row, finL_box, finL_nil, Act.put, List.setIfInBounds_toArray, List.set_cons_zero, List.set_cons_succ, Nat.reduceAdd]
    have hfin : wq.heap[w.heap.size]? = some (.cells (pt id a).toArray 39 (0, 0)) ∧ wq.heap[q]? = some (.cells cs.toArray 56 (0, 0)) := hF 9 (by decide) rfl
    have HX7 := Lib.hid hfin.1
    have HX8 := Lib.hid hfin.2
    have HB7 := Lib.hid hI.1
    clear hI hF hfin
    go_wp2_with fail
    (try simp only [Exit.inBlock, Exit.then])
    refine bodyPost_ret (results_box2_tmp rfl rfl (loadVar_box HX7.out Try.underlying39 rfl (by rw [HP.out]; exact size39)) rfl (loadVar_box HX8.out Try.underlying56 rfl (by rw [HPL.out]; exact size56))) rfl ?_
    exact ⟨by rw [HF.out]; rfl, HB7.out⟩
  · have t1 : ((s.size : Int) != 84) = true := by simp only [bne_iff_ne]; omega
    have HF : Hid (R = (pt z32 0, cn 0 z32 0 0, 12)) := Lib.hid (by rw [hR]; unfold PU; rw [if_neg h84])
    have HXA := Lib.hid hxa
    have HXB := Lib.hid hxb
    have HB1 := Lib.hid hb1
    clear hxa hxb hb1 hR h84
    go_wp2_with (first
      | (refine wpList_store_box rfl 39 (.tmp 2) (.tmp 10) rfl w.heap.size (pt z32 0) rfl rfl HXA.out rfl (by rw [pt_length rfl]; exact size39) rfl ?_; intro w7 hs7; have HS7 := Lib.hid hs7; have HXB7 := Lib.hid ((hs7.other q (by omega)).trans HXB.out); clear hs7)
      | (refine wpList_store_box rfl 56 (.tmp 3) (.tmp 11) rfl q (cn 0 z32 0 0) rfl rfl HXB7.out rfl (by rw [cn_length rfl]; exact size56) rfl ?_; intro w8 hs8; have HS8 := Lib.hid hs8; have HXA8 := Lib.hid ((hs8.other w.heap.size (by omega)).trans HS7.out.at_); clear hs8))
    (try simp only [Exit.inBlock, Exit.then])
    refine bodyPost_ret (results_box2_tmp rfl rfl (loadVar_box HXA8.out Try.underlying39 rfl (by rw [pt_length rfl]; exact size39)) rfl (loadVar_box HS8.out.at_ Try.underlying56 rfl (by rw [cn_length rfl]; exact size56))) rfl ?_
    exact ⟨by rw [HF.out]; rfl, HS8.out.then_ (HS7.out.then_ HB1.out (Nat.le_refl _)) (by omega)⟩
end Go.Proofs.Ytglkagicmolbeaa.Rw

