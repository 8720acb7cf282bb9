/- Contracts of package rows: keys and rows that are built in turn. -/
import Derived.Test.YtglkagicmolbeaaRowsC
namespace Go.Proofs.Ytglkagicmolbeaa.Rw
set_option linter.unusedVariables false
set_option linter.unusedSimpArgs false
open Go.Proofs.Ytglkagicmolbeaa.Kit Go.Proofs.Ytglkagicmolbeaa.Num Go.RowKit Go.Proofs.YtglkagicmolbeaaW.PrintWords Go.Proofs.YtglkagicmolbeaaW.PrintLast Go.Proofs.YtglkagicmolbeaaW.PrintMore NumPure
theorem str_numsOf (s : ByteArray) (xs : List Int) : strOfNums (numsOf s ++ xs) = s ++ strOfNums xs := by rw [str_append, strOfNums_numsOf]
theorem reg_20_1 : RegOk (opsOf Try.f20 1) [[], [0], [0, 1], [], [0, 1, 2, 3], [], [0, 1, 2, 3, 4, 5], [0, 1, 2, 3, 4, 5, 6], [0, 1, 2, 3, 4, 5, 6, 7]] [2, 4, 6] [some 7, some 8, some 9, some 10, some 11, some 12, some 13, some 14, some 6] := regOk (by kernel_rfl)
set_option maxRecDepth 20000 in
set_option maxHeartbeats 1600000 in
theorem hist_any (h : List Int) (hl : h.length = 32) (n m : Int) (w : World) : Calls Try.prog 20 #[.agg (nums .u8 h).toArray, .int .i64 n, .int .i64 m] w fun e w' => e = .returned (.string ((⟨#[104]⟩ : ByteArray) ++ strOfNums h ++ F4 n ++ F4 m)) ∧ Below w.heap.size w w' := by
  have hsz : ((⟨#[104]⟩ : ByteArray) ++ strOfNums h).size = 33 := by rw [ByteArray.size_append, strOfNums_size, hl]; rfl
  have CH := Lib.hid (fun wq => hists_any h hl wq)
  have HN : Hid ((nums .u8 h).length = 32) := Lib.hid (by simp [nums, hl])
  generalize (⟨#[104]⟩ : ByteArray) ++ strOfNums h = S at hsz CH ⊢
  have HS := Lib.hid hsz
  clear hsz hl
  go_enter Try.func20, Try.ntmps20
  go_upto_region 1 with fail
  have hg1 : (w.alloc (.cells (nums .u8 h).toArray 32)).heap[w.heap.size]? = some (.cells (nums .u8 h).toArray 32) := heap_alloc_new w _
  have hb1 : Below w.heap.size w (w.alloc (.cells (nums .u8 h).toArray 32)) := below_alloc (Below.refl _ _) _
  generalize w.alloc (.cells (nums .u8 h).toArray 32) = W at hg1 hb1 ⊢
  have HG1 : Hid (w.heap.size < W.heap.size ∧ W.heap[w.heap.size]? = some (.cells (nums .u8 h).toArray 32)) := Lib.hid ⟨mk_lt hg1, hg1⟩
  have HB1 := Lib.hid hb1
  clear hb1 hg1
  refine plain_ (fun wq => Below W.heap.size W wq) (fun _ => True) reg_20_1 rfl inv0 (fun _ _ _ _ => trivial) (Below.refl _ _) trivial ?_
  refine w_val [(3, _)] (_) (fun vs w hK => ⟨wants_none rfl, rho_out rfl rfl, trivial⟩) rfl (fun wq hI => by exact run_load_op rfl rfl (run_loadAt_mid wq _ 0 32 (nums .u8 h) _ (range_block ((hI.block _ HG1.out.1).trans HG1.out.2)) Try.underlying32 rfl (by rw [HN.out]; kernel_rfl))) ?_
  refine w_call [(7, _)] _ _ (by decide) (fun vs w hK => ⟨wants_none rfl, rho_in rfl (fv (hK 0 (memE rfl))), trivial⟩) rfl rfl Try.func30 (by kernel_rfl) rfl (fun wq hI => CH.out wq) (margs rfl) ?_
  refine w_lin (FW.new .u8 5 W (numsOf S)) (by decide) (fun vs wq hI hJ hK => ?_) ?_
  · obtain ⟨v1, w1, hrun, hb, ho, _⟩ := conv_bytes (t := 22) Try.underlying9 Try.underlying22 Try.underlying5 wq S (by simp only [maxLen, HS.out]; omega) hI.size
    exact ob_run [(8, _)] (wants_none rfl) ⟨rho_in rfl (fv (hK 1 (memE rfl))), trivial⟩ rfl (run_conv_op rfl rfl hrun) ⟨inv0 _ _ hI hb, ⟨ho, inv0 _ _ hI hb⟩⟩
  refine w_move (.inl rfl) (fun vs w hK => ⟨wants_none rfl, rho_out rfl rfl⟩) ?_
  refine w_lin (FW.new .u8 5 W (numsOf S ++ be (U n) 4)) (by decide) (fun vs wq hI hJ hK => ?_) ?_
  · have hA : New .u8 5 W (numsOf S) (vs 2) wq := hK 2 (memE rfl)
    refine ob_call [(9, _), (10, _)] _ (wants_none rfl) ⟨rho_in rfl rfl, rho_in rfl (fv (hK 3 (memE rfl))), trivial⟩ rfl rfl Try.func56 (by kernel_rfl) rfl (by simp only [List.map_toArray, List.map_cons, List.map_nil]; rfl) ((four_any n (vs 2) _ W wq hA.own hA.bel (by simp only [List.length_append, numsOf_length, be_length, HS.out]; omega)).mono ?_)
    rintro e w2 ⟨v2, rfl, hA2⟩
    exact ⟨v2, rfl, hA2.bel, new_app hA2⟩
  refine w_move (.inl rfl) (fun vs w hK => ⟨wants_none rfl, rho_out rfl rfl⟩) ?_
  refine w_lin (FW.new .u8 5 W (numsOf S ++ be (U n) 4 ++ be (U m) 4)) (by decide) (fun vs wq hI hJ hK => ?_) ?_
  · have hA : New .u8 5 W (numsOf S ++ be (U n) 4) (vs 4) wq := hK 4 (memE rfl)
    refine ob_call [(11, _), (12, _)] _ (wants_none rfl) ⟨rho_in rfl rfl, rho_in rfl (fv (hK 5 (memE rfl))), trivial⟩ rfl rfl Try.func56 (by kernel_rfl) rfl (by simp only [List.map_toArray, List.map_cons, List.map_nil]; rfl) ((four_any m (vs 4) _ W wq hA.own hA.bel (by simp only [List.length_append, numsOf_length, be_length, HS.out]; omega)).mono ?_)
    rintro e w2 ⟨v2, rfl, hA2⟩
    exact ⟨v2, rfl, hA2.bel, new_app hA2⟩
  refine w_any (FW.val (.string (S ++ F4 n ++ F4 m))) (by decide) (fun vs wq hI hK => ?_) ?_
  · have hA : New .u8 5 W (numsOf S ++ be (U n) 4 ++ be (U m) 4) (vs 6) wq := hK 6 (memE rfl)
    have hcv := conv_gr (dst := 9) tb Try.underlying5 Try.underlying9 hA.own
    rw [str_append, str_numsOf] at hcv
    exact ob_run [(13, _)] (wants_none rfl) ⟨rho_in rfl rfl, trivial⟩ rfl (run_conv_op rfl rfl hcv) ⟨Below.refl _ _, rfl⟩
  refine w_move (.inr rfl) (fun vs w hK => ⟨wants_none rfl, rho_in rfl (fv (hK 7 (memE rfl)))⟩) ?_
  refine w_end rfl rfl rfl (fun vs wq hI hF => ?_)
  simp only [List.reverse_cons, List.reverse_nil, List.nil_append, List.cons_append, finL_val, finL_of, finL_any, finL_app, finL_new, finL_gr, finL_row, finL_box, finL_nil, Act.put, List.setIfInBounds_toArray, List.set_cons_zero, List.set_cons_succ, Nat.reduceAdd]
  have HB := Lib.hid (below_then HB1.out HB1.out.size hI)
  clear hI hF
  go_wp2_with fail
  go_ret
  exact ⟨rfl, HB.out⟩
theorem reg_24_1 : RegOk (opsOf Try.f24 1) [[], [0], [0, 1], [], [0, 1, 2, 3], [], [0, 1, 2, 3, 4, 5], [0, 1, 2, 3, 4, 5, 6], [0, 1, 2, 3, 4, 5, 6, 7]] [2, 4, 6] [some 7, some 8, some 9, some 10, some 11, some 12, some 13, some 14, some 6] := regOk (by kernel_rfl)
set_option maxRecDepth 20000 in
set_option maxHeartbeats 1600000 in
theorem undo_any (k n m : Int) (w : World) : Calls Try.prog 24 #[.int .i64 k, .int .i64 n, .int .i64 m] w fun e w' => e = .returned (.string ((⟨#[114]⟩ : ByteArray) ++ F4 k ++ F4 n ++ F4 m)) ∧ Below w.heap.size w w' := by
  have hsz : ((⟨#[114]⟩ : ByteArray) ++ F4 k).size = 5 := by rw [ByteArray.size_append, F4_size]; rfl
  have CH := Lib.hid (fun wq => undos_any k wq)
  generalize (⟨#[114]⟩ : ByteArray) ++ F4 k = S at hsz CH ⊢
  have HS := Lib.hid hsz
  clear hsz
  have HB1 := Lib.hid (Below.refl w.heap.size w)
  go_enter Try.func24, Try.ntmps24
  go_upto_region 1 with fail
  refine plain_ (fun wq => Below w.heap.size w wq) (fun _ => True) reg_24_1 rfl inv0 (fun _ _ _ _ => trivial) (Below.refl _ _) trivial ?_
  refine w_move (.inl rfl) (fun vs w hK => ⟨wants_none rfl, rho_out rfl rfl⟩) ?_
  refine w_call [(7, _)] _ _ (by decide) (fun vs w hK => ⟨wants_none rfl, rho_in rfl (fv (hK 0 (memE rfl))), trivial⟩) rfl rfl Try.func33 (by kernel_rfl) rfl (fun wq hI => CH.out wq) (margs rfl) ?_
  refine w_lin (FW.new .u8 5 w (numsOf S)) (by decide) (fun vs wq hI hJ hK => ?_) ?_
  · obtain ⟨v1, w1, hrun, hb, ho, _⟩ := conv_bytes (t := 22) Try.underlying9 Try.underlying22 Try.underlying5 wq S (by simp only [maxLen, HS.out]; omega) hI.size
    exact ob_run [(8, _)] (wants_none rfl) ⟨rho_in rfl (fv (hK 1 (memE rfl))), trivial⟩ rfl (run_conv_op rfl rfl hrun) ⟨inv0 _ _ hI hb, ⟨ho, inv0 _ _ hI hb⟩⟩
  refine w_move (.inl rfl) (fun vs w hK => ⟨wants_none rfl, rho_out rfl rfl⟩) ?_
  refine w_lin (FW.new .u8 5 w (numsOf S ++ be (U n) 4)) (by decide) (fun vs wq hI hJ hK => ?_) ?_
  · have hA : New .u8 5 w (numsOf S) (vs 2) wq := hK 2 (memE rfl)
    refine ob_call [(9, _), (10, _)] _ (wants_none rfl) ⟨rho_in rfl rfl, rho_in rfl (fv (hK 3 (memE rfl))), trivial⟩ rfl rfl Try.func56 (by kernel_rfl) rfl (by simp only [List.map_toArray, List.map_cons, List.map_nil]; rfl) ((four_any n (vs 2) _ w wq hA.own hA.bel (by simp only [List.length_append, numsOf_length, be_length, HS.out]; omega)).mono ?_)
    rintro e w2 ⟨v2, rfl, hA2⟩
    exact ⟨v2, rfl, hA2.bel, new_app hA2⟩
  refine w_move (.inl rfl) (fun vs w hK => ⟨wants_none rfl, rho_out rfl rfl⟩) ?_
  refine w_lin (FW.new .u8 5 w (numsOf S ++ be (U n) 4 ++ be (U m) 4)) (by decide) (fun vs wq hI hJ hK => ?_) ?_
  · have hA : New .u8 5 w (numsOf S ++ be (U n) 4) (vs 4) wq := hK 4 (memE rfl)
    refine ob_call [(11, _), (12, _)] _ (wants_none rfl) ⟨rho_in rfl rfl, rho_in rfl (fv (hK 5 (memE rfl))), trivial⟩ rfl rfl Try.func56 (by kernel_rfl) rfl (by simp only [List.map_toArray, List.map_cons, List.map_nil]; rfl) ((four_any m (vs 4) _ w wq hA.own hA.bel (by simp only [List.length_append, numsOf_length, be_length, HS.out]; omega)).mono ?_)
    rintro e w2 ⟨v2, rfl, hA2⟩
    exact ⟨v2, rfl, hA2.bel, new_app hA2⟩
  refine w_any (FW.val (.string (S ++ F4 n ++ F4 m))) (by decide) (fun vs wq hI hK => ?_) ?_
  · have hA : New .u8 5 w (numsOf S ++ be (U n) 4 ++ be (U m) 4) (vs 6) wq := hK 6 (memE rfl)
    have hcv := conv_gr (dst := 9) tb Try.underlying5 Try.underlying9 hA.own
    rw [str_append, str_numsOf] at hcv
    exact ob_run [(13, _)] (wants_none rfl) ⟨rho_in rfl rfl, trivial⟩ rfl (run_conv_op rfl rfl hcv) ⟨Below.refl _ _, rfl⟩
  refine w_move (.inr rfl) (fun vs w hK => ⟨wants_none rfl, rho_in rfl (fv (hK 7 (memE rfl)))⟩) ?_
  refine w_end rfl rfl rfl (fun vs wq hI hF => ?_)
  simp only [List.reverse_cons, List.reverse_nil, List.nil_append, List.cons_append, finL_val, finL_of, finL_any, finL_app, finL_new, finL_gr, finL_row, finL_box, finL_nil, Act.put, List.setIfInBounds_toArray, List.set_cons_zero, List.set_cons_succ, Nat.reduceAdd]
  have HB := Lib.hid (below_then HB1.out HB1.out.size hI)
  clear hI hF
  go_wp2_with fail
  go_ret
  exact ⟨rfl, HB.out⟩
theorem reg_23_1 : RegOk (opsOf Try.f23 1) [[], [0], [0, 1], [], [0, 1, 2, 3], [0, 1, 2, 3, 4], [0, 1, 2, 3, 4, 5]] [2, 4] [some 5, some 6, some 7, some 8, some 9, some 10, some 4] := regOk (by kernel_rfl)
set_option maxRecDepth 20000 in
set_option maxHeartbeats 1600000 in
theorem unspent_any (h : List Int) (hl : h.length = 32) (id : List Int) (hid : id.length = 32) (out : Int) (ho : 0 ≤ out ∧ out < 4294967296) (w : World) : Calls Try.prog 23 #[.agg (nums .u8 h).toArray, .agg (pt id out).toArray] w fun e w' => e = .returned (.string ((⟨#[117]⟩ : ByteArray) ++ strOfNums h ++ (strOfNums id ++ F4 out))) ∧ Below w.heap.size w w' := by
  have hsz : ((⟨#[117]⟩ : ByteArray) ++ strOfNums h).size = 33 := by rw [ByteArray.size_append, strOfNums_size, hl]; rfl
  have CH := Lib.hid (fun wq => unspents_any h hl wq)
  have HN : Hid ((nums .u8 h).length = 32) := Lib.hid (by simp [nums, hl])
  have HL : Hid ((pt id out).length = 33) := Lib.hid (by simp [pt, nums, hid])
  have CP := Lib.hid (fun v xs w0 w a b c => point_any id hid out ho v xs w0 w a b c)
  generalize (⟨#[117]⟩ : ByteArray) ++ strOfNums h = S at hsz CH ⊢
  have HS := Lib.hid hsz
  have HID := Lib.hid hid
  clear hsz hl hid
  go_enter Try.func23, Try.ntmps23
  go_upto_region 1 with fail
  have hg2 : ((w.alloc (.cells (nums .u8 h).toArray 32)).alloc (.cells (pt id out).toArray 39)).heap[w.heap.size + 1]? = some (.cells (pt id out).toArray 39) := by
    have hq := heap_alloc_new (w.alloc (.cells (nums .u8 h).toArray 32)) (.cells (pt id out).toArray 39)
    rwa [show (w.alloc (.cells (nums .u8 h).toArray 32)).heap.size = w.heap.size + 1 by simp] at hq
  have hg1 : ((w.alloc (.cells (nums .u8 h).toArray 32)).alloc (.cells (pt id out).toArray 39)).heap[w.heap.size]? = some (.cells (nums .u8 h).toArray 32) := (heap_alloc_old _ _ (by simp)).trans (heap_alloc_new w _)
  have hb1 : Below w.heap.size w ((w.alloc (.cells (nums .u8 h).toArray 32)).alloc (.cells (pt id out).toArray 39)) := below_alloc (below_alloc (Below.refl _ _) _) _
  generalize (w.alloc (.cells (nums .u8 h).toArray 32)).alloc (.cells (pt id out).toArray 39) = W at hg1 hg2 hb1 ⊢
  have HG1 : Hid (w.heap.size < W.heap.size ∧ W.heap[w.heap.size]? = some (.cells (nums .u8 h).toArray 32)) := Lib.hid ⟨mk_lt hg1, hg1⟩
  have HG2 : Hid (w.heap.size + 1 < W.heap.size ∧ W.heap[w.heap.size + 1]? = some (.cells (pt id out).toArray 39)) := Lib.hid ⟨mk_lt hg2, hg2⟩
  have HB1 := Lib.hid hb1
  clear hg1 hg2 hb1
  refine draws_ (fun wq => Below W.heap.size W wq) (fun _ => True) (by kernel_rfl) reg_23_1 rfl inv0 (fun _ _ _ _ => trivial) (below_drew (Below.refl _ _)) trivial ?_
  refine w_val [(2, _)] (_) (fun vs w hK => ⟨wants_none rfl, rho_out rfl rfl, trivial⟩) rfl (fun wq hI => by exact run_load_op rfl rfl (run_loadAt_mid wq _ 0 32 (nums .u8 h) _ (range_block ((hI.block _ HG1.out.1).trans HG1.out.2)) Try.underlying32 rfl (by rw [HN.out]; kernel_rfl))) ?_
  refine w_call [(5, _)] _ _ (by decide) (fun vs w hK => ⟨wants_none rfl, rho_in rfl (fv (hK 0 (memE rfl))), trivial⟩) rfl rfl Try.func31 (by kernel_rfl) rfl (fun wq hI => CH.out wq) (margs rfl) ?_
  refine w_lin (FW.new .u8 5 W (numsOf S)) (by decide) (fun vs wq hI hJ hK => ?_) ?_
  · obtain ⟨v1, w1, hrun, hb, ho, _⟩ := conv_bytes (t := 22) Try.underlying9 Try.underlying22 Try.underlying5 wq S (by simp only [maxLen, HS.out]; omega) hI.size
    exact ob_run [(6, _)] (wants_none rfl) ⟨rho_in rfl (fv (hK 1 (memE rfl))), trivial⟩ rfl (run_conv_op rfl rfl hrun) ⟨inv0 _ _ hI hb, ⟨ho, inv0 _ _ hI hb⟩⟩
  refine w_val [(3, _)] (_) (fun vs w hK => ⟨wants_none rfl, rho_out rfl rfl, trivial⟩) rfl (fun wq hI => by exact run_load_op rfl rfl (run_loadAt_mid wq _ 0 39 (pt id out) _ (range_block ((hI.block _ HG2.out.1).trans HG2.out.2)) Try.underlying39 rfl (by rw [HL.out]; kernel_rfl))) ?_
  refine w_lin (FW.new .u8 5 W (numsOf S ++ id ++ be (U out) 4)) (by decide) (fun vs wq hI hJ hK => ?_) ?_
  · have hA : New .u8 5 W (numsOf S) (vs 2) wq := hK 2 (memE rfl)
    refine ob_call [(7, _), (8, _)] _ (wants_none rfl) ⟨rho_in rfl rfl, rho_in rfl (fv (hK 3 (memE rfl))), trivial⟩ rfl rfl Try.func57 (by kernel_rfl) rfl (by simp only [List.map_toArray, List.map_cons, List.map_nil]; rfl) ((CP.out (vs 2) _ W wq hA.own hA.bel (by rw [numsOf_length, HS.out]; omega)).mono ?_)
    rintro e w2 ⟨v2, rfl, hA2⟩
    exact ⟨v2, rfl, hA2.bel, new_app hA2⟩
  refine w_any (FW.val (.string (S ++ (strOfNums id ++ F4 out)))) (by decide) (fun vs wq hI hK => ?_) ?_
  · have hA : New .u8 5 W (numsOf S ++ id ++ be (U out) 4) (vs 4) wq := hK 4 (memE rfl)
    have hcv := conv_gr (dst := 9) tb Try.underlying5 Try.underlying9 hA.own
    rw [List.append_assoc, str_numsOf, str_append] at hcv
    exact ob_run [(9, _)] (wants_none rfl) ⟨rho_in rfl rfl, trivial⟩ rfl (run_conv_op rfl rfl hcv) ⟨Below.refl _ _, rfl⟩
  refine w_move (.inr rfl) (fun vs w hK => ⟨wants_none rfl, rho_in rfl (fv (hK 5 (memE rfl)))⟩) ?_
  refine w_end rfl rfl rfl (fun vs wq hI hF => ?_)
  simp only [List.reverse_cons, List.reverse_nil, List.nil_append, List.cons_append, finL_val, finL_of, finL_any, finL_app, finL_new, finL_gr, finL_row, finL_box, finL_nil, Act.put, List.setIfInBounds_toArray, List.set_cons_zero, List.set_cons_succ, Nat.reduceAdd]
  have HB := Lib.hid (below_then HB1.out HB1.out.size hI)
  clear hI hF
  go_wp2_with fail
  go_ret
  exact ⟨rfl, HB.out⟩
def cn (c : Int) (s : List Int) (h p : Int) : List Value := .int .i64 c :: (nums .u8 s ++ [.int .i64 h, .int .i64 p])
theorem cn_at0 {c : Int} {s : List Int} {h p : Int} : (cn c s h p).toArray[0]? = some (.int .i64 c) := by simp [cn]
theorem cn_at33 {c : Int} {s : List Int} {h p : Int} (hs : s.length = 32) : (cn c s h p).toArray[33]? = some (.int .i64 h) := by simp [cn, nums, ← hs]
theorem cn_at34 {c : Int} {s : List Int} {h p : Int} (hs : s.length = 32) : (cn c s h p).toArray[34]? = some (.int .i64 p) := by
  have : 34 = (nums .u8 s).length + 1 + 1 := by simp [nums, hs]
  simp only [cn, List.getElem?_toArray, this, List.getElem?_cons_succ]
  rw [List.getElem?_append_right (by simp)]
  simp
theorem cn_mid {c : Int} {s : List Int} {h p : Int} (hs : s.length = 32) : ((cn c s h p).drop 1).take 32 = nums .u8 s := by
  simp only [cn, List.drop_succ_cons, List.drop_zero]
  exact List.take_left' (by simp [nums, hs])
/-- 64 bits. -/
def U8 (n : Int) : Nat := (n % 18446744073709551616).toNat
theorem U8_lt (n : Int) : U8 n < 18446744073709551616 := by unfold U8; omega
theorem wrap_U8 (n : Int) : IntKind.u64.wrap n = (U8 n : Int) := by rw [wrap_u]; unfold U8; omega
/-- A coin's row. -/
def CR (c : Int) (s : List Int) (h p : Int) : ByteArray := strOfNums (be (U8 c) 8) ++ strOfNums s ++ F4 h ++ F4 p
theorem reg_42_1 : RegOk (opsOf Try.f42 1) [[], [0], [0, 1], [0, 1, 2], [], [4], [0, 1, 2, 3, 4, 5], [], [7], [0, 1, 2, 3, 4, 5, 6, 7, 8], [], [10], [0, 1, 2, 3, 4, 5, 6, 7, 8, 9, 10, 11], [0, 1, 2, 3, 4, 5, 6, 7, 8, 9, 10, 11, 12], [0, 1, 2, 3, 4, 5, 6, 7, 8, 9, 10, 11, 12, 13]] [3, 6, 9, 12] [some 3, some 4, some 5, some 6, some 7, some 8, some 9, some 10, some 11, some 12, some 13, some 14, some 15, some 16, some 2] := regOk (by kernel_rfl)
set_option maxRecDepth 20000 in
set_option maxHeartbeats 1600000 in
theorem coinRow_any (c : Int) (s : List Int) (hs : s.length = 32) (h p : Int) (w : World) : Calls Try.prog 42 #[.agg (cn c s h p).toArray] w fun e w' => e = .returned (.string (CR c s h p)) ∧ Below w.heap.size w w' := by
  have HS := Lib.hid hs
  have CB := Lib.hid (fun v xs w0 w a b c' => putBig_any (U8 c) 8 (U8_lt c) v xs w0 w a b c')
  clear hs
  go_enter Try.func42, Try.ntmps42
  go_upto_region 1 with fail
  have hg1 : (w.alloc (.cells (cn c s h p).toArray 56)).heap[w.heap.size]? = some (.cells (cn c s h p).toArray 56) := heap_alloc_new w _
  have hb1 : Below w.heap.size w (w.alloc (.cells (cn c s h p).toArray 56)) := below_alloc (Below.refl _ _) _
  generalize w.alloc (.cells (cn c s h p).toArray 56) = W at hg1 hb1 ⊢
  have HG1 : Hid (w.heap.size < W.heap.size ∧ W.heap[w.heap.size]? = some (.cells (cn c s h p).toArray 56)) := Lib.hid ⟨mk_lt hg1, hg1⟩
  have HB1 := Lib.hid hb1
  clear hb1 hg1
  refine draws_ (fun wq => Below W.heap.size W wq) (fun _ => True) (by kernel_rfl) reg_42_1 rfl inv0 (fun _ _ _ _ => trivial) (below_drew (Below.refl _ _)) trivial ?_
  refine w_val [(1, _)] _ (fun vs w hK => ⟨wants_none rfl, rho_out rfl rfl, trivial⟩) rfl (fun wq hI => by simp only [execOp, Option.map_some, Option.map_none, lk_tmp, lk_const, lkT_cons, ↓reduceIte, Nat.reduceEqDiff]; go_simp; (first | done | rfl)) ?_
  refine w_val [(3, _)] (_) (fun vs w hK => ⟨wants_none rfl, rho_in rfl (fv (hK 0 (memE rfl))), trivial⟩) rfl (fun wq hI => by have hc : wq.cell? ⟨w.heap.size, 0, none⟩ = some (.int .i64 c) := (cell_of_row _ _ 0 _ _ _ ((hI.block _ HG1.out.1).trans HG1.out.2)).trans (cn_at0); simp only [execOp, lk_tmp, lk_const, lkT_cons, ↓reduceIte, Nat.reduceEqDiff]; go_simp; rfl) ?_
  refine w_val [(4, _)] (_) (fun vs w hK => ⟨wants_none rfl, rho_in rfl (fv (hK 1 (memE rfl))), trivial⟩) rfl (fun wq hI => by simp only [execOp, lk_tmp, lk_const, lkT_cons, ↓reduceIte, Nat.reduceEqDiff]; go_simp; rw [wrap_U8]) ?_
  refine w_lin (FW.new .u8 5 W (be (U8 c) 8)) (by decide) (fun vs wq hI hJ hK => ?_) ?_
  · have hA : New .u8 5 W [] (.slice none 0 0) wq := new_nil _ _ hI
    refine ob_call [(5, _)] _ (wants_none rfl) ⟨rho_in rfl (fv (hK 2 (memE rfl))), trivial⟩ rfl rfl Try.func36 (by kernel_rfl) rfl (by simp only [List.map_toArray, List.map_cons, List.map_nil]; rfl) ((CB.out _ [] W wq hA.own hA.bel (by simp)).mono ?_)
    rintro e w2 ⟨v2, rfl, hA2⟩
    exact ⟨v2, rfl, hA2.bel, new_app hA2⟩
  refine w_val [(1, _)] _ (fun vs w hK => ⟨wants_none rfl, rho_out rfl rfl, trivial⟩) rfl (fun wq hI => by simp only [execOp, Option.map_some, Option.map_none, lk_tmp, lk_const, lkT_cons, ↓reduceIte, Nat.reduceEqDiff]; go_simp; (first | done | rfl)) ?_
  refine w_val [(7, _)] _ (fun vs w hK => ⟨wants_none rfl, rho_in rfl (fv (hK 4 (memE rfl))), trivial⟩) rfl (fun wq hI => by simp only [execOp, Option.map_some, Option.map_none, lk_tmp, lk_const, lkT_cons, ↓reduceIte, Nat.reduceEqDiff]; go_simp; (first | done | rfl)) ?_
  refine w_lin (FW.new .u8 5 W (be (U8 c) 8 ++ s)) (by decide) (fun vs wq hI hJ hK => ?_) ?_
  · have hA : New .u8 5 W (be (U8 c) 8) (vs 3) wq := hK 3 (memE rfl)
    have hR : Rds .u8 wq (some ⟨w.heap.size, 1, none⟩) 32 s := rds_block (o := 1) ((hI.block _ HG1.out.1).trans HG1.out.2) (cn_mid HS.out) HS.out (by omega)
    obtain ⟨v1, w1, hrun, hA1⟩ := gr_run (c := 32) tb 22 hA.own hR hA.bel.size (by rw [be_length]; omega)
    have hA2 := new_run hA hA1
    exact ob_run [(6, _), (8, _)] (wants_none rfl) ⟨rho_in rfl rfl, rho_in rfl (fv (hK 5 (memE rfl))), trivial⟩ rfl (run_append_op rfl rfl rfl hrun) ⟨hA2.bel, hA2⟩
  refine w_val [(1, _)] _ (fun vs w hK => ⟨wants_none rfl, rho_out rfl rfl, trivial⟩) rfl (fun wq hI => by simp only [execOp, Option.map_some, Option.map_none, lk_tmp, lk_const, lkT_cons, ↓reduceIte, Nat.reduceEqDiff]; go_simp; (first | done | rfl)) ?_
  refine w_val [(10, _)] (_) (fun vs w hK => ⟨wants_none rfl, rho_in rfl (fv (hK 7 (memE rfl))), trivial⟩) rfl (fun wq hI => by have hc : wq.cell? ⟨w.heap.size, 33, none⟩ = some (.int .i64 h) := (cell_of_row _ _ 33 _ _ _ ((hI.block _ HG1.out.1).trans HG1.out.2)).trans (cn_at33 HS.out); simp only [execOp, lk_tmp, lk_const, lkT_cons, ↓reduceIte, Nat.reduceEqDiff]; go_simp; rfl) ?_
  refine w_lin (FW.new .u8 5 W (be (U8 c) 8 ++ s ++ be (U h) 4)) (by decide) (fun vs wq hI hJ hK => ?_) ?_
  · have hA : New .u8 5 W (be (U8 c) 8 ++ s) (vs 6) wq := hK 6 (memE rfl)
    refine ob_call [(9, _), (11, _)] _ (wants_none rfl) ⟨rho_in rfl rfl, rho_in rfl (fv (hK 8 (memE rfl))), trivial⟩ rfl rfl Try.func56 (by kernel_rfl) rfl (by simp only [List.map_toArray, List.map_cons, List.map_nil]; rfl) ((four_any h (vs 6) _ W wq hA.own hA.bel (by simp only [List.length_append, be_length, HS.out]; omega)).mono ?_)
    rintro e w2 ⟨v2, rfl, hA2⟩
    exact ⟨v2, rfl, hA2.bel, new_app hA2⟩
  refine w_val [(1, _)] _ (fun vs w hK => ⟨wants_none rfl, rho_out rfl rfl, trivial⟩) rfl (fun wq hI => by simp only [execOp, Option.map_some, Option.map_none, lk_tmp, lk_const, lkT_cons, ↓reduceIte, Nat.reduceEqDiff]; go_simp; (first | done | rfl)) ?_
  refine w_val [(13, _)] (_) (fun vs w hK => ⟨wants_none rfl, rho_in rfl (fv (hK 10 (memE rfl))), trivial⟩) rfl (fun wq hI => by have hc : wq.cell? ⟨w.heap.size, 34, none⟩ = some (.int .i64 p) := (cell_of_row _ _ 34 _ _ _ ((hI.block _ HG1.out.1).trans HG1.out.2)).trans (cn_at34 HS.out); simp only [execOp, lk_tmp, lk_const, lkT_cons, ↓reduceIte, Nat.reduceEqDiff]; go_simp; rfl) ?_
  refine w_lin (FW.new .u8 5 W (be (U8 c) 8 ++ s ++ be (U h) 4 ++ be (U p) 4)) (by decide) (fun vs wq hI hJ hK => ?_) ?_
  · have hA : New .u8 5 W (be (U8 c) 8 ++ s ++ be (U h) 4) (vs 9) wq := hK 9 (memE rfl)
    refine ob_call [(12, _), (14, _)] _ (wants_none rfl) ⟨rho_in rfl rfl, rho_in rfl (fv (hK 11 (memE rfl))), trivial⟩ rfl rfl Try.func56 (by kernel_rfl) rfl (by simp only [List.map_toArray, List.map_cons, List.map_nil]; rfl) ((four_any p (vs 9) _ W wq hA.own hA.bel (by simp only [List.length_append, be_length, HS.out]; omega)).mono ?_)
    rintro e w2 ⟨v2, rfl, hA2⟩
    exact ⟨v2, rfl, hA2.bel, new_app hA2⟩
  refine w_any (FW.val (.string (CR c s h p))) (by decide) (fun vs wq hI hK => ?_) ?_
  · have hA : New .u8 5 W (be (U8 c) 8 ++ s ++ be (U h) 4 ++ be (U p) 4) (vs 12) wq := hK 12 (memE rfl)
    have hcv := conv_gr (dst := 9) tb Try.underlying5 Try.underlying9 hA.own
    rw [str_append, str_append, str_append] at hcv
    exact ob_run [(15, _)] (wants_none rfl) ⟨rho_in rfl rfl, trivial⟩ rfl (run_conv_op rfl rfl hcv) ⟨Below.refl _ _, rfl⟩
  refine w_move (.inr rfl) (fun vs w hK => ⟨wants_none rfl, rho_in rfl (fv (hK 13 (memE rfl)))⟩) ?_
  refine w_end rfl rfl rfl (fun vs wq hI hF => ?_)
  simp only [List.reverse_cons, List.reverse_nil, List.nil_append, List.cons_append, finL_val, finL_of, finL_any, finL_app, finL_new, finL_gr, finL_row, finL_box, finL_nil, Act.put, List.setIfInBounds_toArray, List.set_cons_zero, List.set_cons_succ, Nat.reduceAdd]
  have HB := Lib.hid (below_then HB1.out HB1.out.size hI)
  clear hI hF
  go_wp2_with fail
  go_ret
  exact ⟨rfl, HB.out⟩
def sp (b : List Int) (i h : Int) : List Value := nums .u8 b ++ [.int .i64 i, .int .i64 h]
theorem sp_at32 {b : List Int} {i h : Int} (hb : b.length = 32) : (sp b i h).toArray[32]? = some (.int .i64 i) := by simp [sp, nums, ← hb]
theorem sp_at33 {b : List Int} {i h : Int} (hb : b.length = 32) : (sp b i h).toArray[33]? = some (.int .i64 h) := by
  have : 33 = (nums .u8 b).length + 1 := by simp [nums, hb]
  simp only [sp, List.getElem?_toArray, this]
  rw [List.getElem?_append_right (by simp)]
  simp
theorem sp_mid {b : List Int} {i h : Int} (hb : b.length = 32) : ((sp b i h).drop 0).take 32 = nums .u8 b := by
  simp only [sp, List.drop_zero]
  exact List.take_left' (by simp [nums, hb])
def SR (b : List Int) (i h : Int) : ByteArray := strOfNums b ++ F4 i ++ F4 h
theorem reg_43_1 : RegOk (opsOf Try.f43 1) [[], [0], [0, 1], [], [3], [0, 1, 2, 3, 4], [], [6], [0, 1, 2, 3, 4, 5, 6, 7], [0, 1, 2, 3, 4, 5, 6, 7, 8], [0, 1, 2, 3, 4, 5, 6, 7, 8, 9]] [2, 5, 8] [some 3, some 4, some 5, some 6, some 7, some 8, some 9, some 10, some 11, some 12, some 2] := regOk (by kernel_rfl)
set_option maxRecDepth 20000 in
set_option maxHeartbeats 1600000 in
theorem spendRow_any (b : List Int) (hb : b.length = 32) (i h : Int) (w : World) : Calls Try.prog 43 #[.agg (sp b i h).toArray] w fun e w' => e = .returned (.string (SR b i h)) ∧ Below w.heap.size w w' := by
  have HS := Lib.hid hb
  clear hb
  go_enter Try.func43, Try.ntmps43
  go_upto_region 1 with fail
  have hg1 : (w.alloc (.cells (sp b i h).toArray 58)).heap[w.heap.size]? = some (.cells (sp b i h).toArray 58) := heap_alloc_new w _
  have hb1 : Below w.heap.size w (w.alloc (.cells (sp b i h).toArray 58)) := below_alloc (Below.refl _ _) _
  generalize w.alloc (.cells (sp b i h).toArray 58) = W at hg1 hb1 ⊢
  have HG1 : Hid (w.heap.size < W.heap.size ∧ W.heap[w.heap.size]? = some (.cells (sp b i h).toArray 58)) := Lib.hid ⟨mk_lt hg1, hg1⟩
  have HB1 := Lib.hid hb1
  clear hb1 hg1
  refine draws_ (fun wq => Below W.heap.size W wq) (fun _ => True) (by kernel_rfl) reg_43_1 rfl inv0 (fun _ _ _ _ => trivial) (below_drew (Below.refl _ _)) trivial ?_
  refine w_val [(1, _)] _ (fun vs w hK => ⟨wants_none rfl, rho_out rfl rfl, trivial⟩) rfl (fun wq hI => by simp only [execOp, Option.map_some, Option.map_none, lk_tmp, lk_const, lkT_cons, ↓reduceIte, Nat.reduceEqDiff]; go_simp; (first | done | rfl)) ?_
  refine w_val [(3, _)] _ (fun vs w hK => ⟨wants_none rfl, rho_in rfl (fv (hK 0 (memE rfl))), trivial⟩) rfl (fun wq hI => by simp only [execOp, Option.map_some, Option.map_none, lk_tmp, lk_const, lkT_cons, ↓reduceIte, Nat.reduceEqDiff]; go_simp; (first | done | rfl)) ?_
  refine w_lin (FW.new .u8 5 W (b)) (by decide) (fun vs wq hI hJ hK => ?_) ?_
  · have hA : New .u8 5 W [] (.slice none 0 0) wq := new_nil _ _ hI
    have hR : Rds .u8 wq (some ⟨w.heap.size, 0, none⟩) 32 b := rds_block (o := 0) ((hI.block _ HG1.out.1).trans HG1.out.2) (sp_mid HS.out) HS.out (by omega)
    obtain ⟨v1, w1, hrun, hA1⟩ := gr_run (c := 32) tb 22 hA.own hR hA.bel.size (by simp)
    have hA2 := new_run hA hA1
    exact ob_run [(4, _)] (wants_none rfl) ⟨rho_in rfl (fv (hK 1 (memE rfl))), trivial⟩ rfl (run_append_op rfl rfl rfl hrun) ⟨hA2.bel, hA2⟩
  refine w_val [(1, _)] _ (fun vs w hK => ⟨wants_none rfl, rho_out rfl rfl, trivial⟩) rfl (fun wq hI => by simp only [execOp, Option.map_some, Option.map_none, lk_tmp, lk_const, lkT_cons, ↓reduceIte, Nat.reduceEqDiff]; go_simp; (first | done | rfl)) ?_
  refine w_val [(6, _)] (_) (fun vs w hK => ⟨wants_none rfl, rho_in rfl (fv (hK 3 (memE rfl))), trivial⟩) rfl (fun wq hI => by have hc : wq.cell? ⟨w.heap.size, 32, none⟩ = some (.int .i64 i) := (cell_of_row _ _ 32 _ _ _ ((hI.block _ HG1.out.1).trans HG1.out.2)).trans (sp_at32 HS.out); simp only [execOp, lk_tmp, lk_const, lkT_cons, ↓reduceIte, Nat.reduceEqDiff]; go_simp; rfl) ?_
  refine w_lin (FW.new .u8 5 W (b ++ be (U i) 4)) (by decide) (fun vs wq hI hJ hK => ?_) ?_
  · have hA : New .u8 5 W (b) (vs 2) wq := hK 2 (memE rfl)
    refine ob_call [(5, _), (7, _)] _ (wants_none rfl) ⟨rho_in rfl rfl, rho_in rfl (fv (hK 4 (memE rfl))), trivial⟩ rfl rfl Try.func56 (by kernel_rfl) rfl (by simp only [List.map_toArray, List.map_cons, List.map_nil]; rfl) ((four_any i (vs 2) _ W wq hA.own hA.bel (by rw [HS.out]; omega)).mono ?_)
    rintro e w2 ⟨v2, rfl, hA2⟩
    exact ⟨v2, rfl, hA2.bel, new_app hA2⟩
  refine w_val [(1, _)] _ (fun vs w hK => ⟨wants_none rfl, rho_out rfl rfl, trivial⟩) rfl (fun wq hI => by simp only [execOp, Option.map_some, Option.map_none, lk_tmp, lk_const, lkT_cons, ↓reduceIte, Nat.reduceEqDiff]; go_simp; (first | done | rfl)) ?_
  refine w_val [(9, _)] (_) (fun vs w hK => ⟨wants_none rfl, rho_in rfl (fv (hK 6 (memE rfl))), trivial⟩) rfl (fun wq hI => by have hc : wq.cell? ⟨w.heap.size, 33, none⟩ = some (.int .i64 h) := (cell_of_row _ _ 33 _ _ _ ((hI.block _ HG1.out.1).trans HG1.out.2)).trans (sp_at33 HS.out); simp only [execOp, lk_tmp, lk_const, lkT_cons, ↓reduceIte, Nat.reduceEqDiff]; go_simp; rfl) ?_
  refine w_lin (FW.new .u8 5 W (b ++ be (U i) 4 ++ be (U h) 4)) (by decide) (fun vs wq hI hJ hK => ?_) ?_
  · have hA : New .u8 5 W (b ++ be (U i) 4) (vs 5) wq := hK 5 (memE rfl)
    refine ob_call [(8, _), (10, _)] _ (wants_none rfl) ⟨rho_in rfl rfl, rho_in rfl (fv (hK 7 (memE rfl))), trivial⟩ rfl rfl Try.func56 (by kernel_rfl) rfl (by simp only [List.map_toArray, List.map_cons, List.map_nil]; rfl) ((four_any h (vs 5) _ W wq hA.own hA.bel (by simp only [List.length_append, be_length, HS.out]; omega)).mono ?_)
    rintro e w2 ⟨v2, rfl, hA2⟩
    exact ⟨v2, rfl, hA2.bel, new_app hA2⟩
  refine w_any (FW.val (.string (SR b i h))) (by decide) (fun vs wq hI hK => ?_) ?_
  · have hA : New .u8 5 W (b ++ be (U i) 4 ++ be (U h) 4) (vs 8) wq := hK 8 (memE rfl)
    have hcv := conv_gr (dst := 9) tb Try.underlying5 Try.underlying9 hA.own
    rw [str_append, str_append] at hcv
    exact ob_run [(11, _)] (wants_none rfl) ⟨rho_in rfl rfl, trivial⟩ rfl (run_conv_op rfl rfl hcv) ⟨Below.refl _ _, rfl⟩
  refine w_move (.inr rfl) (fun vs w hK => ⟨wants_none rfl, rho_in rfl (fv (hK 9 (memE rfl)))⟩) ?_
  refine w_end rfl rfl rfl (fun vs wq hI hF => ?_)
  simp only [List.reverse_cons, List.reverse_nil, List.nil_append, List.cons_append, finL_val, finL_of, finL_any, finL_app, finL_new, finL_gr, finL_row, finL_box, finL_nil, Act.put, List.setIfInBounds_toArray, List.set_cons_zero, List.set_cons_succ, Nat.reduceAdd]
  have HB := Lib.hid (below_then HB1.out HB1.out.size hI)
  clear hI hF
  go_wp2_with fail
  go_ret
  exact ⟨rfl, HB.out⟩
theorem reg_44_1 : RegOk (opsOf Try.f44 1) [[], [0], [0, 1], [], [0, 1, 3], [0, 1, 2, 3, 4], [0, 1, 2, 3, 4, 5]] [] [some 5, some 6, some 7, some 8, some 9, some 10, some 4] := regOk (by kernel_rfl)
set_option maxRecDepth 20000 in
set_option maxHeartbeats 1600000 in
theorem undoRow_any (id : List Int) (hid : id.length = 32) (out : Int) (ho : 0 ≤ out ∧ out < 4294967296) (c : Int) (s : List Int) (hs : s.length = 32) (h p : Int) (w : World) : Calls Try.prog 44 #[.agg (pt id out).toArray, .agg (cn c s h p).toArray] w fun e w' => e = .returned (.string (strOfNums id ++ F4 out ++ CR c s h p)) ∧ Below w.heap.size w w' := by
  have HL : Hid ((pt id out).length = 33) := Lib.hid (by simp [pt, nums, hid])
  have HC : Hid ((cn c s h p).length = 35) := Lib.hid (by simp [cn, nums, hs])
  have CP := Lib.hid (fun v xs w0 w a b c => point_any id hid out ho v xs w0 w a b c)
  have CC := Lib.hid (fun w => coinRow_any c s hs h p w)
  have hz1 : (strOfNums id ++ F4 out).size = 36 := by rw [ByteArray.size_append, strOfNums_size, hid, F4_size]
  have hz2 : (CR c s h p).size = 48 := by unfold CR; simp only [ByteArray.size_append, strOfNums_size, be_length, hs, F4_size]
  have HZ1 := Lib.hid hz1
  have HZ2 := Lib.hid hz2
  clear hid hs hz1 hz2
  go_enter Try.func44, Try.ntmps44
  go_upto_region 1 with fail
  have hg2 : ((w.alloc (.cells (pt id out).toArray 39)).alloc (.cells (cn c s h p).toArray 56)).heap[w.heap.size + 1]? = some (.cells (cn c s h p).toArray 56) := by
    have hq := heap_alloc_new (w.alloc (.cells (pt id out).toArray 39)) (.cells (cn c s h p).toArray 56)
    rwa [show (w.alloc (.cells (pt id out).toArray 39)).heap.size = w.heap.size + 1 by simp] at hq
  have hg1 : ((w.alloc (.cells (pt id out).toArray 39)).alloc (.cells (cn c s h p).toArray 56)).heap[w.heap.size]? = some (.cells (pt id out).toArray 39) := (heap_alloc_old _ _ (by simp)).trans (heap_alloc_new w _)
  have hb1 : Below w.heap.size w ((w.alloc (.cells (pt id out).toArray 39)).alloc (.cells (cn c s h p).toArray 56)) := below_alloc (below_alloc (Below.refl _ _) _) _
  generalize (w.alloc (.cells (pt id out).toArray 39)).alloc (.cells (cn c s h p).toArray 56) = W at hg1 hg2 hb1 ⊢
  have HG1 : Hid (w.heap.size < W.heap.size ∧ W.heap[w.heap.size]? = some (.cells (pt id out).toArray 39)) := Lib.hid ⟨mk_lt hg1, hg1⟩
  have HG2 : Hid (w.heap.size + 1 < W.heap.size ∧ W.heap[w.heap.size + 1]? = some (.cells (cn c s h p).toArray 56)) := Lib.hid ⟨mk_lt hg2, hg2⟩
  have HB1 := Lib.hid hb1
  clear hg1 hg2 hb1
  refine draws_ (fun wq => Below W.heap.size W wq) (fun _ => True) (by kernel_rfl) reg_44_1 rfl inv0 (fun _ _ _ _ => trivial) (below_drew (Below.refl _ _)) trivial ?_
  refine w_val [(2, _)] (_) (fun vs w hK => ⟨wants_none rfl, rho_out rfl rfl, trivial⟩) rfl (fun wq hI => by exact run_load_op rfl rfl (run_loadAt_mid wq _ 0 39 (pt id out) _ (range_block ((hI.block _ HG1.out.1).trans HG1.out.2)) Try.underlying39 rfl (by rw [HL.out]; kernel_rfl))) ?_
  refine w_callF (FW.new .u8 5 W ([] ++ id ++ be (U out) 4)) [(5, _)] _ (by decide) (fun vs w hK => ⟨wants_none rfl, rho_in rfl (fv (hK 0 (memE rfl))), trivial⟩) rfl rfl Try.func57 (by kernel_rfl) rfl (fun wq hI => ((CP.out _ [] W wq (gr_nil _ _ _) hI (by simp)).mono fun e w' h => by obtain ⟨v, he, hA⟩ := h; exact ⟨v, he, ⟨hA.fr.grown.os, hA.fr.grown.tape, hA.fr.grown.output, hA.fr.grown.size, fun i hi => hA.fr.grown.block i hi (by simp [Value.ownBlock])⟩, new_app hA⟩)) (margs rfl) ?_
  refine w_any (FW.val (.string (strOfNums id ++ F4 out))) (by decide) (fun vs wq hI hK => ?_) ?_
  · have hA : New .u8 5 W ([] ++ id ++ be (U out) 4) (vs 1) wq := hK 1 (memE rfl)
    have hcv := conv_gr (dst := 9) tb Try.underlying5 Try.underlying9 hA.own
    rw [List.nil_append, str_append] at hcv
    exact ob_run [(6, _)] (wants_none rfl) ⟨rho_in rfl rfl, trivial⟩ rfl (run_conv_op rfl rfl hcv) ⟨Below.refl _ _, rfl⟩
  refine w_val [(3, _)] (_) (fun vs w hK => ⟨wants_none rfl, rho_out rfl rfl, trivial⟩) rfl (fun wq hI => by exact run_load_op rfl rfl (run_loadAt_mid wq _ 0 56 (cn c s h p) _ (range_block ((hI.block _ HG2.out.1).trans HG2.out.2)) Try.underlying56 rfl (by rw [HC.out]; kernel_rfl))) ?_
  refine w_call [(8, _)] _ _ (by decide) (fun vs w hK => ⟨wants_none rfl, rho_in rfl (fv (hK 3 (memE rfl))), trivial⟩) rfl rfl Try.func42 (by kernel_rfl) rfl (fun wq hI => CC.out wq) (margs rfl) ?_
  refine w_val [(7, _), (9, _)] (_) (fun vs w hK => ⟨wants_none rfl, rho_in rfl (fv (hK 2 (memE rfl))), rho_in rfl (fv (hK 4 (memE rfl))), trivial⟩) rfl (fun wq hI => by exact run_cat_op rfl rfl rfl (by rw [HZ1.out, HZ2.out]; omega)) ?_
  refine w_move (.inr rfl) (fun vs w hK => ⟨wants_none rfl, rho_in rfl (fv (hK 5 (memE rfl)))⟩) ?_
  refine w_end rfl rfl rfl (fun vs wq hI hF => ?_)
  simp only [List.reverse_cons, List.reverse_nil, List.nil_append, List.cons_append, finL_val, finL_of, finL_any, finL_app, finL_new, finL_gr, finL_row, finL_box, finL_nil, Act.put, List.setIfInBounds_toArray, List.set_cons_zero, List.set_cons_succ, Nat.reduceAdd]
  have HB := Lib.hid (below_then HB1.out HB1.out.size hI)
  clear hI hF
  go_wp2_with fail
  go_ret
  exact ⟨rfl, HB.out⟩
end Go.Proofs.Ytglkagicmolbeaa.Rw

