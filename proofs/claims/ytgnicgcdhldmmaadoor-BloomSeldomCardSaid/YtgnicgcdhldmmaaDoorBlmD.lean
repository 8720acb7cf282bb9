/- The filter's bytes, and bytes read; how big keys are. -/
import Derived.Test.YtgnicgcdhldmmaaDoorBlmC
namespace Go.Proofs.YtgnicgcdhldmmaaDoor.Blm
set_option linter.unusedVariables false
set_option linter.unusedSimpArgs false
open Go.Proofs.YtgnicgcdhldmmaaDoor.Crc Go.Proofs.YtgnicgcdhldmmaaDoor.Kit Go.RowKit Go.Proofs.YtgnicgcdhldmmaaDoorW.PrintWords Go.Proofs.YtgnicgcdhldmmaaDoorW.PrintLast Go.Proofs.YtgnicgcdhldmmaaDoorW.PrintMore
set_option maxRecDepth 20000 in
set_option maxHeartbeats 1600000 in
theorem bytes_any (A : Option Addr) (n c : Nat) (xs : List Int) (w : World) (hr : Rds .u8 w A n xs) (hn : n ≤ 1000000) :
    Calls Tryd.prog 12 #[.agg #[.slice A n c]] w fun e W' => ∃ v, e = .returned v ∧ Gr .u8 5 W' w.heap.size v (6 :: xs) ∧ Below w.heap.size w W' := by
  go_enter Tryd.func12, Tryd.ntmps12
  go_upto_region 1 with fail
  have hx1 : (w.alloc (.cells #[.slice A n c] 27)).heap[w.heap.size]? = some (.cells #[.slice A n c] 27) := heap_alloc_new w _
  have hb1 : Below w.heap.size w (w.alloc (.cells #[.slice A n c] 27)) := below_alloc (Below.refl _ _) _
  change Code.wp _ _ _ _ (w.alloc (.cells #[.slice A n c] 27))
  generalize w.alloc (.cells #[.slice A n c] 27) = w1 at hx1 hb1 ⊢
  have hr2 := Lib.hid (fun W (h : Below w.heap.size w W) => rds_below hr h)
  have hO := own_lit_ .u8 5 w1 w.heap.size [6] 1 rfl hb1.size (by simp)
  have hb2 := below_alloc hb1 (.cells (nums .u8 [6]).toArray 5)
  have hc : (w1.alloc (.cells (nums .u8 [6]).toArray 5)).cell? ⟨w.heap.size, 0, none⟩ = some (.slice A n c) := below_cell (below_alloc (Below.refl _ _) _) (by simp [World.cell?, hx1])
  change (w1.alloc (.cells #[.int .u8 6] 5)).cell? ⟨w.heap.size, 0, none⟩ = some (.slice A n c) at hc
  have HO : Hid (Gr .u8 5 (w1.alloc (.cells #[.int .u8 6] 5)) w.heap.size (.slice (some ⟨w1.heap.size, 0, none⟩) 1 1) [6]) := Lib.hid (.inl hO)
  have HB : Hid (Below w.heap.size w (w1.alloc (.cells #[.int .u8 6] 5))) := Lib.hid hb2
  clear hO hb2 hr hx1
  go_wp2_with (at_builtin; refine gapp_row tb rfl (.tmp 3) (.tmp 5) rfl rfl rfl HO.out (hr2.out _ HB.out) HB.out HB.out.size ?cL ?_; (case cL => simp; omega); intro v4 w4 ho hb3 hs1 hf; have HO4 : Hid (Gr .u8 5 w4 w.heap.size v4 (6 :: xs)) := Lib.hid ho; have HB4 : Hid (Below w.heap.size w w4) := Lib.hid hb3; clear ho hb3 hs1 hf)
  go_ret
  exact ⟨_, rfl, HO4.out, HB4.out⟩
/-- Bytes are a filter. -/
def isF (xs : List Int) : Bool := decide (9 ≤ xs.length) && decide (xs.getD 0 0 = 6)
set_option maxRecDepth 20000 in
set_option maxHeartbeats 1600000 in
theorem parse_any (A : Option Addr) (n c : Nat) (xs : List Int) (w : World) (hr : Rds .u8 w A n xs) (hl : xs.length = n) (hb : Crc.isByte xs) (hn : n ≤ 10000) (hnc : n ≤ c) :
    Calls Tryd.prog 14 #[.slice A n c] w fun e W' => ∃ v k, e = .returned (.tuple #[.agg #[v], .int .i64 k]) ∧ Below w.heap.size w W' ∧ (isF xs = true → k = 0 ∧ Gr .u8 5 W' w.heap.size v (xs.drop 1)) ∧ (isF xs = false → k = 2 ∧ v = .slice none 0 0) := by
  go_enter Tryd.func14, Tryd.ntmps14
  go_upto_region 1 with fail
  have hx1 : (w.alloc (.cells #[.slice none 0 0] 27)).heap[w.heap.size]? = some (.cells #[.slice none 0 0] 27) := heap_alloc_new w _
  have hb1 : Below w.heap.size w (w.alloc (.cells #[.slice none 0 0] 27)) := below_alloc (Below.refl _ _) _
  change Code.wp _ _ _ _ (w.alloc (.cells #[.slice none 0 0] 27))
  generalize w.alloc (.cells #[.slice none 0 0] 27) = w1 at hx1 hb1 ⊢
  have hr1 := rds_below hr hb1
  by_cases h9 : n < 9
  · have hF : isF xs = false := by unfold isF; rw [decide_eq_false (by omega)]; rfl
    have HF := Lib.hid hF
    have HB1 := Lib.hid hb1
    clear hF hb1 hr hr1 hl hb
    go_wp2_with (first | (refine wpList_store_box rfl 27 _ _ rfl w.heap.size [.slice none 0 0] rfl rfl (old := [.slice none 0 0]) hx1 rfl info27 rfl ?_; intro w5 hs5; have HS5 := Lib.hid hs5; clear hs5) | fail)
    (try simp only [Exit.inBlock, Exit.then]); refine bodyPost_ret (results_box_tmp rfl rfl (loadVar_box HS5.out.at_ Tryd.underlying27 rfl info27)) rfl ?_
    exact ⟨_, _, rfl, HS5.out.then_ HB1.out (Nat.le_refl _), fun h => (by rw [HF.out] at h; cases h), fun _ => ⟨rfl, rfl⟩⟩
  · obtain ⟨ad, rfl, hc⟩ := rds_at 0 hr1 0 (by omega)
    rw [show ad.add 0 = ad by simp [Addr.add]] at hc
    have h0b := byte_getD hb 0
    by_cases h6 : xs.getD 0 0 = 6
    · have hF : isF xs = true := by unfold isF; rw [decide_eq_true (by omega), decide_eq_true h6]; rfl
      rw [h6] at hc
      obtain ⟨A2, hcut, hR2⟩ := cut_from (enc := Value.int .u8) (h1 := int_one .u8) 0 tb (some ad) n c 1 (n - 1) (by omega) hnc 1 rfl
      have hrd := hR2 w1 xs hr1
      have HR := Lib.hid hrd
      have HF := Lib.hid hF
      have HB1 := Lib.hid hb1
      have HX1 := Lib.hid hx1
      have HL := Lib.hid hl
      have hw1 := hb1.size
      clear hF hb1 hr hr1 hl hb hR2 hrd h6 hx1
      go_wp2_with (first | (at_builtin; refine gapp_row (h1 := int_one .u8) tb rfl (.const (.slice none 0 0)) (.tmp 20) rfl rfl rfl (gr_nil 5 w1 w1.heap.size) HR.out (Below.refl w1.heap.size w1) (Nat.le_refl _) ?cL ?_; (case cL => simp; omega); intro v4 w4 ho hb3 hs1 hf; obtain ⟨A4, n4, c4, rfl, _⟩ := gr_open ho; have HO4 : Hid (Gr .u8 5 w4 w1.heap.size (.slice A4 n4 c4) ([] ++ xs.drop 1)) := Lib.hid ho; have HB4 : Hid (Below w1.heap.size w1 w4) := Lib.hid hb3; clear ho hb3 hs1 hf; have hx4 : Hid (w4.heap[w.heap.size]? = some (.cells #[.slice none 0 0] 27)) := Lib.hid ((HB4.out.block _ (mk_lt HX1.out)).trans HX1.out)) | (refine wpList_store_box rfl 27 _ _ rfl w.heap.size [.slice A4 n4 c4] rfl rfl (old := [.slice none 0 0]) hx4.out rfl info27 rfl ?_; intro w5 hs5; have HS5 := Lib.hid hs5; clear hs5) | fail)
      (try simp only [Exit.inBlock, Exit.then]); refine bodyPost_ret (results_box_tmp rfl rfl (loadVar_box HS5.out.at_ Tryd.underlying27 rfl info27)) rfl ?_
      refine ⟨_, _, rfl, HS5.out.then_ (below_then HB1.out hw1 HB4.out) (Nat.le_refl _), fun h => ⟨rfl, gr_lower (HS5.out.gr HO4.out ?_) hw1⟩, fun h => (by rw [HF.out] at h; cases h)⟩
      intro he
      have h1 := gr_base HO4.out _ he
      have h2 := mk_lt HX1.out
      omega
    · have hF : isF xs = false := by unfold isF; rw [decide_eq_false h6, Bool.and_false]
      generalize xs.getD 0 0 = x0 at hc h6 h0b
      have hne : (x0 != 6) = true := by simpa using h6
      have HF := Lib.hid hF
      have HB1 := Lib.hid hb1
      clear hF hb1 hr hr1 hl hb
      go_wp2_with (first | (refine wpList_store_box rfl 27 _ _ rfl w.heap.size [.slice none 0 0] rfl rfl (old := [.slice none 0 0]) hx1 rfl info27 rfl ?_; intro w5 hs5; have HS5 := Lib.hid hs5; clear hs5) | fail)
      (try simp only [Exit.inBlock, Exit.then]); refine bodyPost_ret (results_box_tmp rfl rfl (loadVar_box HS5.out.at_ Tryd.underlying27 rfl info27)) rfl ?_
      exact ⟨_, _, rfl, HS5.out.then_ HB1.out (Nat.le_refl _), fun h => (by rw [HF.out] at h; cases h), fun _ => ⟨rfl, rfl⟩⟩
end Go.Proofs.YtgnicgcdhldmmaaDoor.Blm

