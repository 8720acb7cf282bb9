/- Contracts of package rows: ParseNumber, ParseHash, ParseTx, TxRow; the law's ok. -/
import Derived.Test.YtglkagicmolbeaaRowsH
namespace Go.Proofs.Ytglkagicmolbeaa.Rw
set_option linter.unusedVariables false
set_option linter.unusedSimpArgs false
open Go.Proofs.Ytglkagicmolbeaa.Kit Go.Proofs.Ytglkagicmolbeaa.Num Go.RowKit Go.Proofs.YtglkagicmolbeaaW.PrintWords Go.Proofs.YtglkagicmolbeaaW.PrintLast Go.Proofs.YtglkagicmolbeaaW.PrintMore NumPure
def PN (s : ByteArray) : Nat × Nat := if s.size = 4 then (A4 s 0, 0) else (0, 12)
set_option maxRecDepth 20000 in
set_option maxHeartbeats 1600000 in
theorem parseNumber_any (s : ByteArray) (hs : s.size ≤ 140737488355000) (w : World) : Calls Try.prog 51 #[.string s] w fun e w' => e = .returned (.tuple #[.int .i64 (PN s).1, .int .i64 (PN s).2]) ∧ Below w.heap.size w w' := by
  by_cases h : s.size = 4
  · have C1 := Lib.hid (fun wq => at_any s (by omega) 0 (by omega) wq)
    have HF : Hid (PN s = (A4 s 0, 0)) := Lib.hid (by unfold PN; rw [if_pos h])
    have t1 : ((s.size : Int) != 4) = false := by rw [h]; rfl
    rw [HF.out]
    generalize A4 s 0 = a at C1
    clear h HF
    go_enter Try.func51, Try.ntmps51
    go_wp2_with fail
    refine (C1.out _).mono ?_
    rintro e w1 ⟨rfl, hb1⟩
    have HB1 := Lib.hid hb1
    clear hb1
    go_wp2_with fail
    go_ret2
    exact ⟨rfl, HB1.out⟩
  · have HF : Hid (PN s = (0, 12)) := Lib.hid (by unfold PN; rw [if_neg h])
    have t1 : ((s.size : Int) != 4) = true := by simp only [bne_iff_ne]; omega
    rw [HF.out]
    clear h HF
    go_enter Try.func51, Try.ntmps51
    go_wp2_with fail
    go_ret2
    exact ⟨rfl, Below.refl _ _⟩
/-- What ParseHash tells. -/
def PH (s : ByteArray) : List Int × Nat := if s.size = 32 then (H32 s, 0) else (z32, 12)
theorem z_one : (nums .u8 z32).all (·.oneCell') = true := rfl
set_option maxRecDepth 20000 in
set_option maxHeartbeats 1600000 in
theorem parseHash_any (s : ByteArray) (hs : s.size ≤ 140737488355000) (w : World) : Calls Try.prog 52 #[.string s] w fun e w' => e = .returned (.tuple #[.agg (nums .u8 (PH s).1).toArray, .int .i64 (PH s).2]) ∧ Below w.heap.size w w' := by
  obtain ⟨R, hR⟩ : ∃ R, R = PH s := ⟨_, rfl⟩
  rw [← hR]
  have hzl : (nums .u8 z32).length = 32 := rfl
  go_enter Try.func52, Try.ntmps52
  go_upto_region 1 with fail
  have hx1 : (w.alloc (.cells (nums .u8 z32).toArray 32)).heap[w.heap.size]? = some (.cells (nums .u8 z32).toArray 32) := heap_alloc_new w _
  have hb1 : Below w.heap.size w (w.alloc (.cells (nums .u8 z32).toArray 32)) := below_alloc (Below.refl _ _) _
  change Code.wp _ _ _ _ (w.alloc (.cells (nums .u8 z32).toArray 32))
  generalize w.alloc (.cells (nums .u8 z32).toArray 32) = w1 at hx1 hb1 ⊢
  by_cases h32 : s.size = 32
  · have t1 : ((s.size : Int) != 32) = false := by rw [h32]; rfl
    have HF : Hid (R = (H32 s, 0)) := Lib.hid (by rw [hR]; unfold PH; rw [if_pos h32])
    have C1 := Lib.hid (fun wq => hash_any s (by omega) (by omega) wq)
    have hidl : (H32 s).length = 32 := by unfold H32; rw [List.length_take, numsOf_length]; omega
    generalize H32 s = id at C1 hidl HF
    have HX1 := Lib.hid hx1
    have HB1 := Lib.hid hb1
    have HP : Hid ((nums .u8 id).length = 32) := Lib.hid (by simp [nums, hidl])
    clear hx1 hb1 hR h32 hidl
    go_wp2_with fail
    refine (C1.out _).mono ?_
    rintro e w3 ⟨rfl, hb3⟩
    have HB3 := Lib.hid (below_then HB1.out HB1.out.size hb3)
    have HX3 := Lib.hid (box_stays HX1.out hb3)
    clear hb3
    go_wp2_with (refine wpList_store_box rfl 32 (.tmp 2) (.tmp 9) rfl w.heap.size (nums .u8 id) rfl rfl HX3.out (by rw [HP.out]; rfl) (by rw [HP.out]; exact size32) (nums_one _ _) ?_; intro w7 hs7; have HS7 := Lib.hid hs7; clear hs7)
    (try simp only [Exit.inBlock, Exit.then])
    refine bodyPost_ret (results_box_tmp rfl rfl (loadVar_box HS7.out.at_ Try.underlying32 rfl (by rw [HP.out]; exact size32))) rfl ?_
    exact ⟨by rw [HF.out]; rfl, HS7.out.then_ HB3.out (Nat.le_refl _)⟩
  · have t1 : ((s.size : Int) != 32) = true := by simp only [bne_iff_ne]; omega
    have HF : Hid (R = (z32, 12)) := Lib.hid (by rw [hR]; unfold PH; rw [if_neg h32])
    have HX1 := Lib.hid hx1
    have HB1 := Lib.hid hb1
    clear hx1 hb1 hR h32
    go_wp2_with (refine wpList_store_box rfl 32 (.tmp 2) (.tmp 7) rfl w.heap.size (nums .u8 z32) rfl rfl HX1.out rfl (by rw [hzl]; exact size32) rfl ?_; intro w7 hs7; have HS7 := Lib.hid hs7; clear hs7)
    (try simp only [Exit.inBlock, Exit.then])
    refine bodyPost_ret (results_box_tmp rfl rfl (loadVar_box HS7.out.at_ Try.underlying32 rfl (by rw [hzl]; exact size32))) rfl ?_
    exact ⟨by rw [HF.out]; rfl, HS7.out.then_ HB1.out (Nat.le_refl _)⟩
/-- ok. -/
def OK (e : Int) (is : Bool) : Bool := (is && (e == 0)) || (!is && (e == 12))
set_option maxRecDepth 20000 in
set_option maxHeartbeats 1600000 in
theorem ok_any (e : Int) (is : Bool) (w : World) : Calls Try.prog 54 #[.int .i64 e, .bool is] w fun e' w' => e' = .returned (.bool (OK e is)) ∧ Below w.heap.size w w' := by
  cases is
  · have HF : Hid (OK e false = (e == 12)) := Lib.hid (by unfold OK; simp)
    rw [HF.out]
    go_enter Try.func54, Try.ntmps54
    go_wp2_with fail
    go_ret
    exact ⟨rfl, Below.refl _ _⟩
  · have HF : Hid (OK e true = (e == 0)) := Lib.hid (by unfold OK; simp)
    rw [HF.out]
    by_cases he : e = 0
    · subst he
      go_enter Try.func54, Try.ntmps54
      go_wp2_with fail
      go_ret
      exact ⟨rfl, Below.refl _ _⟩
    · have t0 : (e == 0) = false := by simpa using he
      rw [t0]
      go_enter Try.func54, Try.ntmps54
      go_wp2_with fail
      go_ret
      exact ⟨rfl, Below.refl _ _⟩
theorem reg_55_1 : RegOk (opsOf Try.f55 1) [[], [0], [], [0, 1, 2], [0, 1, 2, 3], [], [5], [0, 1, 2, 3, 4, 5, 6], [0, 1, 2, 3, 4, 5, 6, 7]] [1, 3] [some 7, some 8, some 9, some 10, some 11, some 12, some 13, some 14, some 6] := regOk (by kernel_rfl)
set_option maxRecDepth 20000 in
set_option maxHeartbeats 1600000 in
theorem txRow_any (a b : Int) (A : Option Addr) (n c : Nat) (l : List Int) (w : World) (hr : Rds .u8 w A n l) (hl : l.length = n) (hn : n ≤ 1000000) : Calls Try.prog 55 #[.int .i64 a, .int .i64 b, .slice A n c] w fun e w' => e = .returned (.string (F4 a ++ F4 b ++ strOfNums l)) ∧ Below w.heap.size w w' := by
  have HR := Lib.hid hr
  have HZ : Hid ((strOfNums l).size = n) := Lib.hid (by rw [strOfNums_size]; exact hl)
  clear hr hl
  go_enter Try.func55, Try.ntmps55
  go_upto_region 1 with fail
  refine draws_ (fun wq => Below w.heap.size w wq) (fun _ => True) (by kernel_rfl) reg_55_1 rfl inv0 (fun _ _ _ _ => trivial) (below_drew (Below.refl _ _)) trivial ?_
  refine w_move (.inl rfl) (fun vs w hK => ⟨wants_none rfl, rho_out rfl rfl⟩) ?_
  refine w_lin (FW.new .u8 5 w (be (U a) 4)) (by decide) (fun vs wq hI hJ hK => ?_) ?_
  · have hA : New .u8 5 w [] (.slice none 0 0) wq := new_nil _ _ hI
    refine ob_call [(7, _)] _ (wants_none rfl) ⟨rho_in rfl (fv (hK 0 (memE rfl))), trivial⟩ rfl rfl Try.func56 (by kernel_rfl) rfl (by simp only [List.map_toArray, List.map_cons, List.map_nil]; rfl) ((four_any a _ [] w wq hA.own hA.bel (by simp)).mono ?_)
    rintro e w2 ⟨v2, rfl, hA2⟩
    exact ⟨v2, rfl, hA2.bel, new_app hA2⟩
  refine w_move (.inl rfl) (fun vs w hK => ⟨wants_none rfl, rho_out rfl rfl⟩) ?_
  refine w_lin (FW.new .u8 5 w (be (U a) 4 ++ be (U b) 4)) (by decide) (fun vs wq hI hJ hK => ?_) ?_
  · have hA : New .u8 5 w (be (U a) 4) (vs 1) wq := hK 1 (memE rfl)
    refine ob_call [(8, _), (9, _)] _ (wants_none rfl) ⟨rho_in rfl rfl, rho_in rfl (fv (hK 2 (memE rfl))), trivial⟩ rfl rfl Try.func56 (by kernel_rfl) rfl (by simp only [List.map_toArray, List.map_cons, List.map_nil]; rfl) ((four_any b (vs 1) _ w wq hA.own hA.bel (by rw [be_length]; omega)).mono ?_)
    rintro e w2 ⟨v2, rfl, hA2⟩
    exact ⟨v2, rfl, hA2.bel, new_app hA2⟩
  refine w_any (FW.val (.string (F4 a ++ F4 b))) (by decide) (fun vs wq hI hK => ?_) ?_
  · have hA : New .u8 5 w (be (U a) 4 ++ be (U b) 4) (vs 3) wq := hK 3 (memE rfl)
    have hcv := conv_gr (dst := 9) tb Try.underlying5 Try.underlying9 hA.own
    rw [str_append] at hcv
    exact ob_run [(10, _)] (wants_none rfl) ⟨rho_in rfl rfl, trivial⟩ rfl (run_conv_op rfl rfl hcv) ⟨Below.refl _ _, rfl⟩
  refine w_move (.inl rfl) (fun vs w hK => ⟨wants_none rfl, rho_out rfl rfl⟩) ?_
  refine w_val [(12, _)] (.string (strOfNums l)) (fun vs w hK => ⟨wants_none rfl, rho_in rfl (fv (hK 5 (memE rfl))), trivial⟩) rfl (fun wq hI => by exact run_conv_op rfl rfl (conv_rds tb Try.underlying5 Try.underlying9 (rds_below HR.out hI))) ?_
  refine w_val [(11, _), (13, _)] (_) (fun vs w hK => ⟨wants_none rfl, rho_in rfl (fv (hK 4 (memE rfl))), rho_in rfl (fv (hK 6 (memE rfl))), trivial⟩) rfl (fun wq hI => by exact run_cat_op rfl rfl rfl (by rw [ByteArray.size_append, F4_size, F4_size, HZ.out]; omega)) ?_
  refine w_move (.inr rfl) (fun vs w hK => ⟨wants_none rfl, rho_in rfl (fv (hK 7 (memE rfl)))⟩) ?_
  refine w_end rfl rfl rfl (fun vs wq hI hF => ?_)
  simp only [List.reverse_cons, List.reverse_nil, List.nil_append, List.cons_append, finL_val, finL_of, finL_any, finL_app, finL_new, finL_gr, finL_row, finL_box, finL_nil, Act.put, List.setIfInBounds_toArray, List.set_cons_zero, List.set_cons_succ, Nat.reduceAdd]
  have HB := Lib.hid hI
  clear hI hF
  go_wp2_with fail
  go_ret
  exact ⟨rfl, HB.out⟩
end Go.Proofs.Ytglkagicmolbeaa.Rw

