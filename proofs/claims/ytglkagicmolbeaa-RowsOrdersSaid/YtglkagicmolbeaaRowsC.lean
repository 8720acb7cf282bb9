/- Contracts of package rows: the keys. -/
import Derived.Test.YtglkagicmolbeaaRowsB
namespace Go.Proofs.Ytglkagicmolbeaa.Rw
set_option linter.unusedVariables false
set_option linter.unusedSimpArgs false
open Go.Proofs.Ytglkagicmolbeaa.Kit Go.Proofs.Ytglkagicmolbeaa.Num Go.RowKit Go.Proofs.YtglkagicmolbeaaW.PrintWords Go.Proofs.YtglkagicmolbeaaW.PrintLast Go.Proofs.YtglkagicmolbeaaW.PrintMore NumPure
set_option maxHeartbeats 800000 in
theorem hists_any (h : List Int) (hl : h.length = 32) (w : World) : Calls Try.prog 30 #[.agg (nums .u8 h).toArray] w fun e w' => e = .returned (.string ((⟨#[104]⟩ : ByteArray) ++ strOfNums h)) ∧ Below w.heap.size w w' := by
  have hcv := conv_arr h hl w
  have hsz : (strOfNums h).size = 32 := by rw [strOfNums_size]; exact hl
  generalize strOfNums h = S at hcv hsz ⊢
  go_enter Try.func30, Try.ntmps30
  go_wp2_with fail
  go_ret
  exact ⟨rfl, below_alloc (Below.refl _ _) _⟩
set_option maxHeartbeats 800000 in
theorem unspents_any (h : List Int) (hl : h.length = 32) (w : World) : Calls Try.prog 31 #[.agg (nums .u8 h).toArray] w fun e w' => e = .returned (.string ((⟨#[117]⟩ : ByteArray) ++ strOfNums h)) ∧ Below w.heap.size w w' := by
  have hcv := conv_arr h hl w
  have hsz : (strOfNums h).size = 32 := by rw [strOfNums_size]; exact hl
  generalize strOfNums h = S at hcv hsz ⊢
  go_enter Try.func31, Try.ntmps31
  go_wp2_with fail
  go_ret
  exact ⟨rfl, below_alloc (Below.refl _ _) _⟩
set_option maxHeartbeats 800000 in
theorem outs_any (h : List Int) (hl : h.length = 32) (w : World) : Calls Try.prog 32 #[.agg (nums .u8 h).toArray] w fun e w' => e = .returned (.string ((⟨#[99]⟩ : ByteArray) ++ strOfNums h)) ∧ Below w.heap.size w w' := by
  have hcv := conv_arr h hl w
  have hsz : (strOfNums h).size = 32 := by rw [strOfNums_size]; exact hl
  generalize strOfNums h = S at hcv hsz ⊢
  go_enter Try.func32, Try.ntmps32
  go_wp2_with fail
  go_ret
  exact ⟨rfl, below_alloc (Below.refl _ _) _⟩
theorem tip_any (w : World) : Calls Try.prog 25 #[] w fun e w' => e = .returned (.string ⟨#[109]⟩) ∧ Below w.heap.size w w' := by
  go_enter Try.func25, Try.ntmps25
  go_wp2_with fail
  go_ret
  exact ⟨rfl, Below.refl _ _⟩
theorem low_any (w : World) : Calls Try.prog 26 #[] w fun e w' => e = .returned (.string ⟨#[119]⟩) ∧ Below w.heap.size w w' := by
  go_enter Try.func26, Try.ntmps26
  go_wp2_with fail
  go_ret
  exact ⟨rfl, Below.refl _ _⟩
set_option maxHeartbeats 800000 in
theorem head_any (n : Int) (w : World) : Calls Try.prog 21 #[.int .i64 n] w fun e w' => e = .returned (.string ((⟨#[98]⟩ : ByteArray) ++ F4 n)) ∧ Below w.heap.size w w' := by
  have hmk := conv_marked w #[.int .u8 98] 1 1
  have C := Lib.hid (four_any n _ [98] w _ (marked w w.heap.size [98] 1 rfl (Nat.le_refl _) (by simp)) (below_alloc (Below.refl _ _) _) (by simp))
  go_enter Try.func21, Try.ntmps21
  go_wp2_with fail
  refine C.out.mono ?_
  rintro e w1 ⟨v1, rfl, hA⟩
  have hcv := conv_gr (dst := 9) tb Try.underlying5 Try.underlying9 hA.own
  rw [str_append] at hcv
  have HB := Lib.hid hA.bel
  clear hA C
  go_wp2_with fail
  go_ret
  exact ⟨rfl, HB.out⟩
set_option maxHeartbeats 800000 in
theorem undos_any (n : Int) (w : World) : Calls Try.prog 33 #[.int .i64 n] w fun e w' => e = .returned (.string ((⟨#[114]⟩ : ByteArray) ++ F4 n)) ∧ Below w.heap.size w w' := by
  have hmk := conv_marked w #[.int .u8 114] 1 1
  have C := Lib.hid (four_any n _ [114] w _ (marked w w.heap.size [114] 1 rfl (Nat.le_refl _) (by simp)) (below_alloc (Below.refl _ _) _) (by simp))
  go_enter Try.func33, Try.ntmps33
  go_wp2_with fail
  refine C.out.mono ?_
  rintro e w1 ⟨v1, rfl, hA⟩
  have hcv := conv_gr (dst := 9) tb Try.underlying5 Try.underlying9 hA.own
  rw [str_append] at hcv
  have HB := Lib.hid hA.bel
  clear hA C
  go_wp2_with fail
  go_ret
  exact ⟨rfl, HB.out⟩
set_option maxHeartbeats 800000 in
theorem number_any (n : Int) (w : World) : Calls Try.prog 34 #[.int .i64 n] w fun e w' => e = .returned (.string (F4 n)) ∧ Below w.heap.size w w' := by
  have C := Lib.hid (four_any n (.slice none 0 0) [] w w (gr_nil _ _ _) (Below.refl _ _) (by simp))
  go_enter Try.func34, Try.ntmps34
  go_wp2_with fail
  refine C.out.mono ?_
  rintro e w1 ⟨v1, rfl, hA⟩
  have hcv := conv_gr (dst := 9) tb Try.underlying5 Try.underlying9 hA.own
  rw [List.nil_append] at hcv
  have HB := Lib.hid hA.bel
  clear hA C
  go_wp2_with fail
  go_ret
  exact ⟨rfl, HB.out⟩
set_option maxHeartbeats 800000 in
theorem pos_any (n m : Int) (w : World) : Calls Try.prog 19 #[.int .i64 n, .int .i64 m] w fun e w' => e = .returned (.string ((⟨#[112]⟩ : ByteArray) ++ F4 n ++ F4 m)) ∧ Below w.heap.size w w' := by
  have hmk := conv_marked w #[.int .u8 112] 1 1
  have C := Lib.hid (four_any n _ [112] w _ (marked w w.heap.size [112] 1 rfl (Nat.le_refl _) (by simp)) (below_alloc (Below.refl _ _) _) (by simp))
  go_enter Try.func19, Try.ntmps19
  go_wp2_with fail
  refine C.out.mono ?_
  rintro e w1 ⟨v1, rfl, hA⟩
  have C2 := Lib.hid (four_any m v1 _ w w1 hA.own hA.bel (by simp [be_length]))
  clear hA C hmk
  go_wp2_with fail
  refine C2.out.mono ?_
  rintro e w2 ⟨v2, rfl, hA⟩
  have hcv := conv_gr (dst := 9) tb Try.underlying5 Try.underlying9 hA.own
  rw [str_append, str_append] at hcv
  have HB := Lib.hid hA.bel
  clear hA C2
  go_wp2_with fail
  go_ret
  exact ⟨rfl, HB.out⟩
set_option maxRecDepth 20000 in
set_option maxHeartbeats 800000 in
theorem out_any (id : List Int) (hid : id.length = 32) (out : Int) (ho : 0 ≤ out ∧ out < 4294967296) (w : World) : Calls Try.prog 22 #[.agg (pt id out).toArray] w fun e w' => e = .returned (.string ((⟨#[99]⟩ : ByteArray) ++ (strOfNums id ++ F4 out))) ∧ Below w.heap.size w w' := by
  have hl33 : (pt id out).length = 33 := by simp [pt, nums, hid]
  have hb1 : Below w.heap.size w (w.alloc (.cells (pt id out).toArray 39)) := below_alloc (Below.refl _ _) _
  have hg : (w.alloc (.cells (pt id out).toArray 39)).heap[w.heap.size]? = some (.cells (pt id out).toArray 39) := heap_alloc_new w _
  go_enter Try.func22, Try.ntmps22
  go_upto_region 1 with fail
  generalize hW : w.alloc (.cells (pt id out).toArray 39) = W at hb1 hg ⊢
  have HB1 := Lib.hid hb1
  have hmk := conv_marked W #[.int .u8 99] 1 1
  have HG : Hid ((W.alloc (.cells #[.int .u8 99] 5 (1, 2))).heap[w.heap.size]? = some (.cells (pt id out).toArray 39)) := Lib.hid (by rw [heap_alloc_old W _ (mk_lt hg), hg])
  have C := Lib.hid (point_any id hid out ho _ [99] W _ (marked W W.heap.size [99] 1 rfl (Nat.le_refl _) (by simp)) (below_alloc (Below.refl _ _) _) (by simp))
  have HL := Lib.hid hl33
  clear hb1 hg hW hl33
  go_wp2_with (with_reducible refine wpList_load_row rfl 39 (.tmp 1) rfl w.heap.size rfl 39 (pt id out).toArray (0, 0) _ HG.out Try.underlying39 rfl (by rw [List.size_toArray, HL.out]; kernel_rfl) ?_)
  refine C.out.mono ?_
  rintro e w1 ⟨v1, rfl, hA⟩
  have hcv := conv_gr (dst := 9) tb Try.underlying5 Try.underlying9 hA.own
  rw [List.append_assoc, str_append, str_append] at hcv
  have HB := Lib.hid (below_then HB1.out HB1.out.size hA.bel)
  clear hA C hmk
  go_wp2_with fail
  go_ret
  exact ⟨rfl, HB.out⟩
set_option maxRecDepth 20000 in
set_option maxHeartbeats 800000 in
theorem spent_any (id : List Int) (hid : id.length = 32) (out : Int) (ho : 0 ≤ out ∧ out < 4294967296) (w : World) : Calls Try.prog 28 #[.agg (pt id out).toArray] w fun e w' => e = .returned (.string ((⟨#[115]⟩ : ByteArray) ++ (strOfNums id ++ F4 out))) ∧ Below w.heap.size w w' := by
  have hl33 : (pt id out).length = 33 := by simp [pt, nums, hid]
  have hb1 : Below w.heap.size w (w.alloc (.cells (pt id out).toArray 39)) := below_alloc (Below.refl _ _) _
  have hg : (w.alloc (.cells (pt id out).toArray 39)).heap[w.heap.size]? = some (.cells (pt id out).toArray 39) := heap_alloc_new w _
  go_enter Try.func28, Try.ntmps28
  go_upto_region 1 with fail
  generalize hW : w.alloc (.cells (pt id out).toArray 39) = W at hb1 hg ⊢
  have HB1 := Lib.hid hb1
  have hmk := conv_marked W #[.int .u8 115] 1 1
  have HG : Hid ((W.alloc (.cells #[.int .u8 115] 5 (1, 2))).heap[w.heap.size]? = some (.cells (pt id out).toArray 39)) := Lib.hid (by rw [heap_alloc_old W _ (mk_lt hg), hg])
  have C := Lib.hid (point_any id hid out ho _ [115] W _ (marked W W.heap.size [115] 1 rfl (Nat.le_refl _) (by simp)) (below_alloc (Below.refl _ _) _) (by simp))
  have HL := Lib.hid hl33
  clear hb1 hg hW hl33
  go_wp2_with (with_reducible refine wpList_load_row rfl 39 (.tmp 1) rfl w.heap.size rfl 39 (pt id out).toArray (0, 0) _ HG.out Try.underlying39 rfl (by rw [List.size_toArray, HL.out]; kernel_rfl) ?_)
  refine C.out.mono ?_
  rintro e w1 ⟨v1, rfl, hA⟩
  have hcv := conv_gr (dst := 9) tb Try.underlying5 Try.underlying9 hA.own
  rw [List.append_assoc, str_append, str_append] at hcv
  have HB := Lib.hid (below_then HB1.out HB1.out.size hA.bel)
  clear hA C hmk
  go_wp2_with fail
  go_ret
  exact ⟨rfl, HB.out⟩
end Go.Proofs.Ytglkagicmolbeaa.Rw
