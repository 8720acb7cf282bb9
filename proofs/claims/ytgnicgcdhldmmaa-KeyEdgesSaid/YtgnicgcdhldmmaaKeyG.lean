/- Contracts of package key: Outer. -/
import Derived.Test.YtgnicgcdhldmmaaKeyF
import Derived.Test.YtgnicgcdhldmmaaKeyC
import Derived.Test.YtgnicgcdhldmmaaBox
namespace Go.Proofs.Ytgnicgcdhldmmaa.Key
set_option linter.unusedVariables false
set_option linter.unusedSimpArgs false
open Go.Proofs.Ytgnicgcdhldmmaa.Kit Go.Proofs.Ytgnicgcdhldmmaa.Num Go.RowKit Go.Proofs.YtgnicgcdhldmmaaW.PrintWords Go.Proofs.YtgnicgcdhldmmaaW.PrintLast Go.Proofs.YtgnicgcdhldmmaaW.PrintMore NumPure
theorem cut2 (s : ByteArray) (k : Nat) (b : Bool) (h : decide (k < s.size) = true → (!decide (((numsOf s).drop k).take 2 = [0, 1])) = b) (h2 : decide (k < s.size) = false → b = false) :
    (decide ((k : Int) < (s.size : Int)) && !decide (s.extract k (min (k + 2) s.size) = ⟨#[0, 1]⟩)) = b := by
  have e : decide ((k : Int) < (s.size : Int)) = decide (k < s.size) := decide_eq_decide.2 ⟨fun h => by omega, fun h => by omega⟩
  rw [e]
  by_cases hk : k < s.size
  · rw [decide_eq_true hk] at h ⊢
    rw [← h rfl, Bool.true_and]
    congr 1
    refine decide_eq_decide.2 ?_
    rw [numsOf_eq, numsOf_extract, show numsOf ⟨#[0, 1]⟩ = [0, 1] by rw [numsOf_data]; rfl]
    have hl := numsOf_length s
    have : ((numsOf s).drop k).take (min (k + 2) s.size - k) = ((numsOf s).drop k).take 2 := by
      by_cases h2 : k + 2 ≤ s.size
      · rw [Nat.min_eq_left h2, show k + 2 - k = 2 by omega]
      · rw [Nat.min_eq_right (by omega), List.take_of_length_le (by rw [List.length_drop]; omega), List.take_of_length_le (by rw [List.length_drop]; omega)]
    rw [this]
  · rw [decide_eq_false hk] at h2 ⊢
    rw [h2 rfl]
    rfl
theorem scan_stop (L : List Int) (n k : Nat) (hn : L.length = n) (h : ¬ (k < n ∧ ¬ (L.drop k).take 2 = [0, 1])) : scan (L.drop k) = some ([], L.drop k) := by
  by_cases hk : k < n
  · have h2 : (L.drop k).take 2 = [0, 1] := Classical.byContradiction fun g => h ⟨hk, g⟩
    have h3 : L.drop k = 0 :: 1 :: (L.drop k).drop 2 := by
      have := List.take_append_drop 2 (L.drop k)
      rw [h2] at this
      exact this.symm
    rw [h3, scan_end]
  · rw [List.drop_eq_nil_of_le (by omega), scan_nil]
theorem reg_14_3 : RegOk (opsOf Try.f14 3) [[], [], [1], [0, 1, 2], [0, 1, 2, 3], [0, 1, 2, 3, 4], [0, 1, 2, 3, 4], [0, 1, 2, 3, 4], [0, 1, 2, 3, 4, 7], [0, 1, 2, 3, 4], [0, 1, 2, 3, 4, 9], [0, 1, 2, 3, 4, 7, 8, 9, 10], [0, 1, 2, 3, 4, 5, 6, 7, 8, 9, 10, 11], [0, 1, 2, 3, 4, 5, 6, 7, 8, 9, 10, 11, 12], [0, 1, 2, 3, 4, 5, 6, 7, 8, 9, 10, 11, 12, 13]] [] [some 8, some 9, some 10, some 11, some 12, some 13, some 14, some 15, some 16, some 17, some 18, some 19, some 20, some 21, some 22] := regOk (by kernel_rfl)
theorem reg_14_8 : RegOk (opsOf Try.f14 8) [[], [], [1], [0, 1, 2], [0, 1, 2, 3], [0, 1, 2, 3, 4], [0, 1, 2, 3, 4], [0, 1, 2, 3, 4, 5, 6], [0, 1, 2, 3, 4, 5, 6, 7], [0, 1, 2, 3, 4, 5, 6, 7, 8]] [] [some 37, some 38, some 39, some 40, some 41, some 42, some 43, some 44, some 45, some 46] := regOk (by kernel_rfl)
set_option maxRecDepth 20000 in
set_option maxHeartbeats 3200000 in
theorem outer_any (s : ByteArray) (hsz : s.size ≤ 140737488355000) (w : World) :
    Calls Try.prog 14 #[.string s] w fun e w' => e = .returned (.tuple #[(told (outer (numsOf s))).1.ag, .int .i64 (told (outer (numsOf s))).2]) ∧ Below w.heap.size w w' := by
  have hll := numsOf_length s
  have hbt := numsOf_isByte s
  obtain ⟨n, hn⟩ : ∃ n, n = s.size := ⟨_, rfl⟩
  obtain ⟨L, hL⟩ : ∃ L, L = numsOf s := ⟨_, rfl⟩
  rw [← hL, ← hn] at hll
  rw [← hL] at hbt ⊢
  have HLL := Lib.hid hll
  have HL := Lib.hid hL
  have HN := Lib.hid hn
  have HBT := Lib.hid hbt
  have hn2 : n ≤ 140737488355000 := by omega
  clear hsz hll hbt hL hn
  obtain ⟨R, hR⟩ : ∃ R, R = told (outer L) := ⟨_, rfl⟩
  rw [← hR]
  have HR := Lib.hid hR
  clear hR
  go_enter Try.func14, Try.ntmps14
  go_wp2_with fail
  have HW1 : Hid (Below w.heap.size w (w.alloc (.cells #[.string ⟨#[]⟩, .int .u64 0, .bool false, .string ⟨#[]⟩] 24))) := Lib.hid (below_alloc (Below.refl _ _) _)
  have HG1 : Hid ((w.alloc (.cells #[.string ⟨#[]⟩, .int .u64 0, .bool false, .string ⟨#[]⟩] 24)).heap[w.heap.size]? = some (.cells Ent.zero.cells.toArray 24)) := Lib.hid (by show (w.heap.push _)[w.heap.size]? = _; simp; rfl)
  generalize w.alloc (.cells #[.string ⟨#[]⟩, .int .u64 0, .bool false, .string ⟨#[]⟩] 24) = w1 at HW1 HG1 ⊢
  go_loopw [4, 5] (fun v i wr => ∃ (k : Nat) (nm : List Int) (v' : Value), v' = v ∧ i = .int .i64 k ∧ k ≤ n ∧ nm.length ≤ k ∧ Hid (GrB wr w1.heap.size v' nm) ∧ Hid (Below w1.heap.size w1 wr) ∧ Hid (scan L = ahead nm (scan (L.drop k)))) (fun _ i _ => n - (intOf i).toNat)
  case atStart => exact ⟨0, [], _, rfl, rfl, Nat.zero_le _, Nat.zero_le _, Lib.hid (gr_nil _ _ _), Lib.hid (Below.refl _ _), Lib.hid (by rw [ahead_nil, List.drop_zero])⟩
  case round =>
    obtain ⟨k, nm, v', hv, rfl, hk, hnm, HO, HB, HS⟩ := hrel
    subst hv
    by_cases hx : k < n ∧ ¬ (L.drop k).take 2 = [0, 1]
    · have H3 : Hid ((decide ((k : Int) < (n : Int)) && !decide (s.extract k (min (k + 2) n) = ⟨#[0, 1]⟩)) = true) := Lib.hid (by
        have := cut2 s k true (fun _ => by rw [← HL.out]; simp [hx.2]) (fun h => by rw [← HN.out] at h; simp at h; omega)
        rw [← HN.out] at this
        exact this)
      go_upto_region 3 with fail
      refine plain_ (fun wq => Below wr.heap.size wr wq) (fun _ => True) reg_14_3 rfl inv0 (fun _ _ _ _ => trivial) (Below.refl _ _) trivial ?_
      refine w_move (.inl rfl) (fun vs w hK => ⟨wants_none rfl, rho_out rfl rfl⟩) ?_
      refine w_move (.inl rfl) (fun vs w hK => ⟨wants_none rfl, rho_out rfl rfl⟩) ?_
      refine w_val [(9, _)] (_) (fun vs w hK => ⟨wants_none rfl, rho_in rfl (fv (hK 1 (by decide))), trivial⟩) rfl (fun wq hI => by exact run_len_str rfl Try.underlying9 rfl (n := (n : Int)) (by rw [HN.out])) ?_
      refine w_val [(8, _), (10, _)] (_) (fun vs w hK => ⟨wants_none rfl, rho_in rfl (fv (hK 0 (by decide))), rho_in rfl (fv (hK 2 (by decide))), trivial⟩) rfl (fun wq hI => by exact run_int_lss rfl rfl rfl rfl) ?_
      refine w_move (.inl rfl) (fun vs w hK => ⟨wants_none rfl, rho_in rfl (fv (hK 3 (by decide)))⟩) ?_
      refine w_moveG (.inl rfl) (fun vs w hK => wantsT rfl (fv (hK 4 (by decide)))) (fun hG vs w hK => (rho_out rfl rfl)) ?_
      refine w_moveG (.inl rfl) (fun vs w hK => wantsT rfl (fv (hK 4 (by decide)))) (fun hG vs w hK => (rho_out rfl rfl)) ?_
      refine w_moveG (.inl rfl) (fun vs w hK => wantsT rfl (fv (hK 4 (by decide)))) (fun hG vs w hK => (rho_out rfl rfl)) ?_
      refine w_valG [(15, _)] (_) (fun vs w hK => wantsT rfl (fv (hK 4 (by decide)))) (fun hG vs w hK => ⟨(rho_in rfl (fvg (hK 7 (by decide)) hG)), trivial⟩) rfl (fun hG wq hI => by exact run_int_add rfl rfl rfl (c := ((k + 2 : Nat) : Int)) (by rw [i64_id (by omega) (by omega)]; omega)) ?_
      refine w_moveG (.inl rfl) (fun vs w hK => wantsT rfl (fv (hK 4 (by decide)))) (fun hG vs w hK => (rho_out rfl rfl)) ?_
      refine w_valG [(17, _)] (_) (fun vs w hK => wantsT rfl (fv (hK 4 (by decide)))) (fun hG vs w hK => ⟨(rho_in rfl (fvg (hK 9 (by decide)) hG)), trivial⟩) rfl (fun hG wq hI => by exact run_len_str rfl Try.underlying9 rfl (n := (n : Int)) (by rw [HN.out])) ?_
      refine w_valG [(16, _), (18, _)] (_) (fun vs w hK => wantsT rfl (fv (hK 4 (by decide)))) (fun hG vs w hK => ⟨(rho_in rfl (fvg (hK 8 (by decide)) hG)), (rho_in rfl (fvg (hK 10 (by decide)) hG)), trivial⟩) rfl (fun hG wq hI => by exact op_min2 rfl rfl rfl (mn_nat _ _)) ?_
      refine w_valG [(13, _), (14, _), (19, _)] (_) (fun vs w hK => wantsT rfl (fv (hK 4 (by decide)))) (fun hG vs w hK => ⟨(rho_in rfl (fvg (hK 5 (by decide)) hG)), (rho_in rfl (fvg (hK 6 (by decide)) hG)), (rho_in rfl (fvg (hK 11 (by decide)) hG)), trivial⟩) rfl (fun hG wq hI => by exact op_cut_mid (a := k) (b := min (k + 2) n) rfl Try.underlying9 rfl rfl rfl rfl rfl (by omega) (by rw [← HN.out]; exact Nat.min_le_right _ _) rfl) ?_
      refine w_valG [(20, _)] (_) (fun vs w hK => wantsT rfl (fv (hK 4 (by decide)))) (fun hG vs w hK => ⟨(rho_in rfl (fvg (hK 12 (by decide)) hG)), trivial⟩) rfl (fun hG wq hI => by exact op_str_nq rfl rfl rfl rfl) ?_
      refine w_and rfl (fun vs w hK => wants_none rfl) (fun vs w hK => (rho_in rfl (fv (hK 4 (by decide))))) (fun hB vs w hK => (rho_in rfl (fvg (hK 13 (by decide)) hB))) ?_
      refine w_as (c' := .bool true) (congrArg Value.bool H3.out) ?_
      refine w_endM [false, false, false, false, false, false, false, false, false, false, false, false, false, false, true] rfl rfl rfl (fun vs wq hI hF => ?_)
      simp only [List.reverse_cons, List.reverse_nil, List.nil_append, List.cons_append, finL_val, finL_of, finL_any, finL_app, finL_new, finL_gr, finL_row, finL_box, finL_nil, Act.put, List.setIfInBounds_toArray, List.set_cons_zero, List.set_cons_succ, Nat.reduceAdd, maskF, finL_imp, Bool.not_false, Bool.not_true, Bool.true_and, Bool.false_and]
      have HO2 := Lib.hid (gr_below HO.out hI)
      have HB2 := Lib.hid (below_then HB.out HB.out.size hI)
      clear hI hF HO HB H3
      obtain ⟨w2, rfl⟩ : ∃ w2 : World, w2 = wq := ⟨_, rfl⟩
      obtain ⟨hkn, hx2⟩ := hx
      have hks : k < s.size := by rw [← HN.out]; exact hkn
      obtain ⟨c, hcc⟩ : ∃ c : Nat, (s[k]'hks).toNat = c := ⟨_, rfl⟩
      have hc1 : L.getD k 0 = (c : Int) := by rw [HL.out, ← at_str s k hks, hcc]
      have hD : L.drop k = (c : Int) :: L.drop (k + 1) := by
        rw [List.drop_eq_getElem_cons (by rw [HLL.out]; exact hkn)]
        rw [List.getD_eq_getElem?_getD, List.getElem?_eq_getElem (by rw [HLL.out]; exact hkn), Option.getD_some] at hc1
        rw [hc1]
      have HD := Lib.hid hD
      have HX := Lib.hid hx2
      clear hc1 hD hx2
      by_cases hz : c = 0
      · subst hz
        have t3 : (((0 : Nat) : Int) == 0) = true := rfl
        by_cases hk1 : k + 1 = n
        · have t4 : ((k : Int) + 1 == (s.size : Int)) = true := by rw [beq_iff_eq, ← HN.out]; omega
          have HF : Hid (R = (Ent.zero, 2)) := Lib.hid (by
            rw [HR.out, outer_none]
            · rfl
            · rw [HS.out, HD.out, List.drop_eq_nil_of_le (by rw [HLL.out]; omega)]
              show ahead nm (scan [0]) = none
              rw [scan_zero]; rfl)
          clear HS HD HX
          go_wp2_with (first
            | (at_builtin; refine gapp_one (enc := Value.int .u8) (h1 := int_one .u8) tb (p := (0 : Int)) rfl (.tmp 25) (.tmp 29) rfl rfl rfl HO2.out HB2.out HB2.out.size ?cL ?_; (case cL => omega); intro v6 w6 ho hb6 hs1 hf; have HB6 : Hid (Below w1.heap.size w1 w6) := Lib.hid hb6; have HX6 := Lib.hid (box_below HG1.out hb6); clear ho hb6 hs1 hf)
            | (refine wpList_store_box rfl 24 (.tmp 2) (.tmp 47) rfl w.heap.size Ent.zero.cells rfl rfl HX6.out rfl (by show _ = some 4; kernel_rfl) rfl ?_; intro w7 hs7; have HS7 := Lib.hid hs7; clear hs7))
          (try simp only [Exit.inBlock, Exit.then])
          refine bodyPost_ret (results_box_tmp rfl rfl (loadVar_box HS7.out.at_ Try.underlying24 rfl (by show _ = some 4; kernel_rfl))) rfl ?_
          refine ⟨by rw [HF.out]; rfl, HS7.out.then_ (below_then HW1.out HW1.out.size HB6.out) (Nat.le_refl _)⟩
        · have hk2 : k + 1 < n := by omega
          have t4 : ((k : Int) + 1 == (s.size : Int)) = false := by rw [beq_eq_false_iff_ne, ← HN.out]; omega
          have hks1 : k + 1 < s.size := by rw [← HN.out]; exact hk2
          obtain ⟨d, hdd⟩ : ∃ d : Nat, (s[k + 1]'hks1).toNat = d := ⟨_, rfl⟩
          have hd1 : L.getD (k + 1) 0 = (d : Int) := by rw [HL.out, ← at_str s (k + 1) hks1, hdd]
          have hD2 : L.drop (k + 1) = (d : Int) :: L.drop (k + 2) := by
            rw [List.drop_eq_getElem_cons (by rw [HLL.out]; exact hk2)]
            rw [List.getD_eq_getElem?_getD, List.getElem?_eq_getElem (by rw [HLL.out]; exact hk2), Option.getD_some] at hd1
            rw [hd1]
          have hdd1 : (d : Int) ≠ 1 := fun e => HX.out (by rw [HD.out, hD2, e]; rfl)
          have HD2 := Lib.hid hD2
          have i0 : (0 : Int) ≤ (k : Int) + 1 := by omega
          have i1 : (k : Int) + 1 < (s.size : Int) := by omega
          clear hd1 hD2
          by_cases h255 : d = 255
          · subst h255
            have HS2 : Hid (scan L = ahead (nm ++ [0]) (scan (L.drop (k + 2)))) := Lib.hid (by
              rw [HS.out, HD.out, HD2.out]
              show ahead nm (scan (0 :: 255 :: L.drop (k + 2))) = _
              rw [scan_esc0, ahead_snoc])
            clear HS HD HX HD2 hdd1
            go_wp2_with (at_builtin; refine gapp_one (enc := Value.int .u8) (h1 := int_one .u8) tb (p := (0 : Int)) rfl (.tmp 25) (.tmp 29) rfl rfl rfl HO2.out HB2.out HB2.out.size ?cL ?_; (case cL => omega); intro v6 w6 ho hb6 hs1 hf; have HO6 : Hid (GrB w6 w1.heap.size v6 (nm ++ [0])) := Lib.hid ho; have HB6 : Hid (Below w1.heap.size w1 w6) := Lib.hid hb6; clear ho hb6 hs1 hf)
            go_roundw
            case rel => exact ⟨k + 2, _, _, rfl, by go_num, by omega, by simp; omega, HO6, HB6, HS2⟩
            case measure => simp [intOf]; omega
          · have HF : Hid (R = (Ent.zero, 2)) := Lib.hid (by
              rw [HR.out, outer_none]
              · rfl
              · rw [HS.out, HD.out, HD2.out]
                show ahead nm (scan (0 :: (d : Int) :: L.drop (k + 2))) = none
                rw [scan_bad _ hdd1 (by omega)]; rfl)
            have t5 : ((d : Int) == 255) = false := by rw [beq_eq_false_iff_ne]; omega
            clear HS HD HX HD2 hdd1
            go_wp2_with (first
              | (at_builtin; refine gapp_one (enc := Value.int .u8) (h1 := int_one .u8) tb (p := (0 : Int)) rfl (.tmp 25) (.tmp 29) rfl rfl rfl HO2.out HB2.out HB2.out.size ?cL ?_; (case cL => omega); intro v6 w6 ho hb6 hs1 hf; have HB6 : Hid (Below w1.heap.size w1 w6) := Lib.hid hb6; have HX6 := Lib.hid (box_below HG1.out hb6); clear ho hb6 hs1 hf)
              | (refine wpList_store_box rfl 24 (.tmp 2) (.tmp 47) rfl w.heap.size Ent.zero.cells rfl rfl HX6.out rfl (by show _ = some 4; kernel_rfl) rfl ?_; intro w7 hs7; have HS7 := Lib.hid hs7; clear hs7))
            (try simp only [Exit.inBlock, Exit.then])
            refine bodyPost_ret (results_box_tmp rfl rfl (loadVar_box HS7.out.at_ Try.underlying24 rfl (by show _ = some 4; kernel_rfl))) rfl ?_
            refine ⟨by rw [HF.out]; rfl, HS7.out.then_ (below_then HW1.out HW1.out.size HB6.out) (Nat.le_refl _)⟩
      · have t3 : ((c : Int) == 0) = false := by rw [beq_eq_false_iff_ne]; omega
        have HS2 : Hid (scan L = ahead (nm ++ [(c : Int)]) (scan (L.drop (k + 1)))) := Lib.hid (by rw [HS.out, HD.out, scan_cons _ (by omega), ahead_snoc])
        clear HS HD HX hz
        go_wp2_with (at_builtin; refine gapp_one (enc := Value.int .u8) (h1 := int_one .u8) tb (p := (c : Int)) rfl (.tmp 25) (.tmp 29) rfl rfl rfl HO2.out HB2.out HB2.out.size ?cL ?_; (case cL => omega); intro v6 w6 ho hb6 hs1 hf; have HO6 : Hid (GrB w6 w1.heap.size v6 (nm ++ [(c : Int)])) := Lib.hid ho; have HB6 : Hid (Below w1.heap.size w1 w6) := Lib.hid hb6; clear ho hb6 hs1 hf)
        go_roundw
        case rel => exact ⟨k + 1, _, _, rfl, by go_num, by omega, by simp; omega, HO6, HB6, HS2⟩
        case measure => simp [intOf]; omega
    · have HS2 : Hid (scan L = some (nm, L.drop k)) := Lib.hid (by
        rw [HS.out, scan_stop L n k HLL.out hx]
        show some (nm ++ [], L.drop k) = _
        rw [List.append_nil])
      have H3 : Hid ((decide ((k : Int) < (n : Int)) && !decide (s.extract k (min (k + 2) n) = ⟨#[0, 1]⟩)) = false) := Lib.hid (by
        have := cut2 s k false (fun h => by
          rw [← HL.out]
          by_cases g : (L.drop k).take 2 = [0, 1]
          · simp [g]
          · exact absurd ⟨by rw [HN.out]; simpa using h, g⟩ hx) (fun _ => rfl)
        rw [← HN.out] at this
        exact this)
      clear hx HS
      go_upto_region 3 with fail
      refine plain_ (fun wq => Below wr.heap.size wr wq) (fun _ => True) reg_14_3 rfl inv0 (fun _ _ _ _ => trivial) (Below.refl _ _) trivial ?_
      refine w_move (.inl rfl) (fun vs w hK => ⟨wants_none rfl, rho_out rfl rfl⟩) ?_
      refine w_move (.inl rfl) (fun vs w hK => ⟨wants_none rfl, rho_out rfl rfl⟩) ?_
      refine w_val [(9, _)] (_) (fun vs w hK => ⟨wants_none rfl, rho_in rfl (fv (hK 1 (by decide))), trivial⟩) rfl (fun wq hI => by exact run_len_str rfl Try.underlying9 rfl (n := (n : Int)) (by rw [HN.out])) ?_
      refine w_val [(8, _), (10, _)] (_) (fun vs w hK => ⟨wants_none rfl, rho_in rfl (fv (hK 0 (by decide))), rho_in rfl (fv (hK 2 (by decide))), trivial⟩) rfl (fun wq hI => by exact run_int_lss rfl rfl rfl rfl) ?_
      refine w_move (.inl rfl) (fun vs w hK => ⟨wants_none rfl, rho_in rfl (fv (hK 3 (by decide)))⟩) ?_
      refine w_moveG (.inl rfl) (fun vs w hK => wantsT rfl (fv (hK 4 (by decide)))) (fun hG vs w hK => (rho_out rfl rfl)) ?_
      refine w_moveG (.inl rfl) (fun vs w hK => wantsT rfl (fv (hK 4 (by decide)))) (fun hG vs w hK => (rho_out rfl rfl)) ?_
      refine w_moveG (.inl rfl) (fun vs w hK => wantsT rfl (fv (hK 4 (by decide)))) (fun hG vs w hK => (rho_out rfl rfl)) ?_
      refine w_valG [(15, _)] (_) (fun vs w hK => wantsT rfl (fv (hK 4 (by decide)))) (fun hG vs w hK => ⟨(rho_in rfl (fvg (hK 7 (by decide)) hG)), trivial⟩) rfl (fun hG wq hI => by exact run_int_add rfl rfl rfl (c := ((k + 2 : Nat) : Int)) (by rw [i64_id (by omega) (by omega)]; omega)) ?_
      refine w_moveG (.inl rfl) (fun vs w hK => wantsT rfl (fv (hK 4 (by decide)))) (fun hG vs w hK => (rho_out rfl rfl)) ?_
      refine w_valG [(17, _)] (_) (fun vs w hK => wantsT rfl (fv (hK 4 (by decide)))) (fun hG vs w hK => ⟨(rho_in rfl (fvg (hK 9 (by decide)) hG)), trivial⟩) rfl (fun hG wq hI => by exact run_len_str rfl Try.underlying9 rfl (n := (n : Int)) (by rw [HN.out])) ?_
      refine w_valG [(16, _), (18, _)] (_) (fun vs w hK => wantsT rfl (fv (hK 4 (by decide)))) (fun hG vs w hK => ⟨(rho_in rfl (fvg (hK 8 (by decide)) hG)), (rho_in rfl (fvg (hK 10 (by decide)) hG)), trivial⟩) rfl (fun hG wq hI => by exact op_min2 rfl rfl rfl (mn_nat _ _)) ?_
      refine w_valG [(13, _), (14, _), (19, _)] (_) (fun vs w hK => wantsT rfl (fv (hK 4 (by decide)))) (fun hG vs w hK => ⟨(rho_in rfl (fvg (hK 5 (by decide)) hG)), (rho_in rfl (fvg (hK 6 (by decide)) hG)), (rho_in rfl (fvg (hK 11 (by decide)) hG)), trivial⟩) rfl (fun hG wq hI => by exact op_cut_mid (a := k) (b := min (k + 2) n) rfl Try.underlying9 rfl rfl rfl rfl rfl (by have := of_decide_eq_true hG; omega) (by rw [← HN.out]; exact Nat.min_le_right _ _) rfl) ?_
      refine w_valG [(20, _)] (_) (fun vs w hK => wantsT rfl (fv (hK 4 (by decide)))) (fun hG vs w hK => ⟨(rho_in rfl (fvg (hK 12 (by decide)) hG)), trivial⟩) rfl (fun hG wq hI => by exact op_str_nq rfl rfl rfl rfl) ?_
      refine w_and rfl (fun vs w hK => wants_none rfl) (fun vs w hK => (rho_in rfl (fv (hK 4 (by decide))))) (fun hB vs w hK => (rho_in rfl (fvg (hK 13 (by decide)) hB))) ?_
      refine w_as (c' := .bool false) (congrArg Value.bool H3.out) ?_
      refine w_endM [false, false, false, false, false, false, false, false, false, false, false, false, false, false, true] rfl rfl rfl (fun vs wq hI hF => ?_)
      simp only [List.reverse_cons, List.reverse_nil, List.nil_append, List.cons_append, finL_val, finL_of, finL_any, finL_app, finL_new, finL_gr, finL_row, finL_box, finL_nil, Act.put, List.setIfInBounds_toArray, List.set_cons_zero, List.set_cons_succ, Nat.reduceAdd, maskF, finL_imp, Bool.not_false, Bool.not_true, Bool.true_and, Bool.false_and]
      have HO2 := Lib.hid (gr_below HO.out hI)
      have HB2 := Lib.hid (below_then HB.out HB.out.size hI)
      clear hI hF HO HB H3
      obtain ⟨w2, rfl⟩ : ∃ w2 : World, w2 = wq := ⟨_, rfl⟩
      have HLD : Hid ((L.drop k).length = n - k) := Lib.hid (by rw [List.length_drop, HLL.out])
      by_cases h10 : n - k = 10
      · have t6 : (wrap64 ((s.size : Int) - (k : Int)) != 10) = false := by have := HN.out; rw [show wrap64 ((s.size : Int) - (k : Int)) = (s.size : Int) - (k : Int) by unfold wrap64; omega]; simp; omega
        have hbl : k + 2 ≤ s.size := by have := HN.out; omega
        have i0 : (0 : Int) ≤ (k : Int) + 2 := by omega
        have i1 : (k : Int) + 2 ≤ (s.size : Int) := by omega
        obtain ⟨T, hT⟩ : ∃ T, T = s.extract (k + 2) s.size := ⟨_, rfl⟩
        have hTn : numsOf T = (L.drop k).drop 2 := by
          rw [hT, numsOf_extract, ← HL.out, List.drop_drop, List.take_of_length_le]
          rw [List.length_drop, HLL.out, ← HN.out]
          omega
        have hTs : T.size = 8 := by rw [← numsOf_length, hTn, List.length_drop, HLD.out]; omega
        obtain ⟨v3, w3, hcv, hb3, ho3, _⟩ := conv_bytes (t := 33) Try.underlying9 Try.underlying33 Try.underlying5 w2 T (by simp only [maxLen]; omega) (Nat.le_refl w2.heap.size)
        obtain ⟨A3, n3, c3, rfl, h3c, HL3, h3m, hr3⟩ := gr_open ho3
        obtain rfl : n3 = 8 := by have := HL3.out; rw [numsOf_length, hTs] at this; exact this.symm
        have C1 := Lib.hid (big_val A3 8 c3 (numsOf T) w3 hr3 HL3.out (by omega) h3c (numsOf_isByte T))
        have hbv : beVal ((L.drop k).drop 2) < 18446744073709551616 := by
          have h8 : ((L.drop k).drop 2).length = 8 := by rw [List.length_drop, HLD.out]; omega
          have := beVal_lt ((HBT.out.drop k).drop 2)
          rw [h8] at this
          exact this
        rw [List.take_of_length_le (by rw [numsOf_length, hTs]; omega), hTn] at C1
        have HB3 := Lib.hid (below_then HB2.out HB2.out.size hb3)
        have HO3 := Lib.hid (gr_below HO2.out hb3)
        rw [hT] at hcv
        clear ho3 hr3 hb3 hT hTn hTs
        obtain ⟨N, hN⟩ : ∃ N, N = outN (L.drop k) := ⟨_, rfl⟩
        have hnot : Go.bits .xor .u64 IntKind.u64.max ((beVal ((L.drop k).drop 2) : Nat) : Int) = (N : Int) := by rw [u64_not _ hbv, hN]; rfl
        have hNl : N < 18446744073709551616 := by rw [hN]; unfold outN; omega
        have HF : Hid (R = told (if (outE nm N).check = 0 then some (outE nm N) else none)) := Lib.hid (by rw [HR.out, outer_long HS2.out (by rw [HLD.out]; exact h10), hN])
        clear hN HS2
        generalize beVal ((L.drop k).drop 2) = bv at C1 hnot hbv
        have hcv2 := conv_gr (dst := 9) tb Try.underlying5 Try.underlying9 HO3.out
        have hand : (Go.bits .and .u64 (N : Int) 1 == 0) = decide (N % 2 = 0) := by
          have h := u64_and_nat N 1 hNl (by omega)
          rw [show ((1 : Nat) : Int) = 1 from rfl, Nat.and_one_is_mod] at h
          rw [h, Bool.eq_iff_iff, beq_iff_eq, decide_eq_true_iff]
          omega
        have hnl : (strOfNums nm).size ≤ n := by rw [strOf_size]; omega
        obtain ⟨X, hX⟩ : ∃ X, X = outE nm N := ⟨_, rfl⟩
        rw [← hX] at HF
        have hXo : X.ok := by rw [hX]; exact ⟨by show N / 2 < _; omega, by show (strOfNums nm).size ≤ _; omega, by show (0 : Nat) ≤ _; omega⟩
        have hXc : X.cells = [.string (strOfNums nm), .int .u64 ((N : Int) / 2), .bool (decide (N % 2 = 0)), .string ⟨#[]⟩] := by rw [hX]; rfl
        have CK : Hid (∀ wq, Calls Try.prog 11 #[.agg #[.string (strOfNums nm), .int .u64 ((N : Int) / 2), .bool (decide (N % 2 = 0)), .string ⟨#[]⟩]] wq fun e w' => e = .returned (.int .i64 X.check) ∧ Below wq.heap.size wq w') := Lib.hid (fun wq => by
          have := check_any X hXo wq
          rw [Ent.ag, hXc] at this
          exact this)
        have HXC := Lib.hid hXc
        clear hX hXo hXc hnl hNl
        go_wp2_with fail
        refine C1.out.mono ?_
        rintro e w' ⟨rfl, rfl⟩
        by_cases hc0 : X.check = 0
        · have t8 : ((X.check : Int) != 0) = false := by rw [hc0]; rfl
          rw [if_pos hc0] at HF
          go_wp2_with fail
          refine (CK.out _).mono ?_
          rintro e w5 ⟨rfl, hb5⟩
          have HB4 : Hid (Below w1.heap.size w1 w5) := Lib.hid (below_then (below_alloc HB3.out _) (below_alloc HB3.out _).size hb5)
          have HX6 := Lib.hid (box_below HG1.out HB4.out)
          have HX7 : Hid (w5.heap[w3.heap.size]? = some (.cells X.cells.toArray 24)) := Lib.hid (box_below (by rw [HXC.out]; exact heap_alloc_new w3 _) hb5)
          clear hb5
          go_wp2_with (first
            | (refine wpList_load_box rfl 24 (.tmp 7) rfl w3.heap.size X.cells rfl HX7.out Try.underlying24 rfl (by show _ = some 4; kernel_rfl) ?_)
            | (refine wpList_store_box rfl 24 (.tmp 2) (.tmp 73) rfl w.heap.size X.cells rfl rfl HX6.out rfl (by show _ = some 4; kernel_rfl) rfl ?_; intro w7 hs7; have HS7 := Lib.hid hs7; clear hs7))
          (try simp only [Exit.inBlock, Exit.then])
          refine bodyPost_ret (results_box_tmp rfl rfl (loadVar_box HS7.out.at_ Try.underlying24 rfl (by show _ = some 4; kernel_rfl))) rfl ?_
          refine ⟨by rw [HF.out]; rfl, HS7.out.then_ (below_then HW1.out HW1.out.size HB4.out) (Nat.le_refl _)⟩
        · have t8 : ((X.check : Int) != 0) = true := by simp; omega
          rw [if_neg hc0] at HF
          go_wp2_with fail
          refine (CK.out _).mono ?_
          rintro e w5 ⟨rfl, hb5⟩
          have HB4 : Hid (Below w1.heap.size w1 w5) := Lib.hid (below_then (below_alloc HB3.out _) (below_alloc HB3.out _).size hb5)
          have HX6 := Lib.hid (box_below HG1.out HB4.out)
          clear hb5
          go_wp2_with (refine wpList_store_box rfl 24 (.tmp 2) (.tmp 72) rfl w.heap.size Ent.zero.cells rfl rfl HX6.out rfl (by show _ = some 4; kernel_rfl) rfl ?_; intro w7 hs7; have HS7 := Lib.hid hs7; clear hs7)
          (try simp only [Exit.inBlock, Exit.then])
          refine bodyPost_ret (results_box_tmp rfl rfl (loadVar_box HS7.out.at_ Try.underlying24 rfl (by show _ = some 4; kernel_rfl))) rfl ?_
          refine ⟨by rw [HF.out]; rfl, HS7.out.then_ (below_then HW1.out HW1.out.size HB4.out) (Nat.le_refl _)⟩
      · have t6 : (wrap64 ((s.size : Int) - (k : Int)) != 10) = true := by have := HN.out; rw [show wrap64 ((s.size : Int) - (k : Int)) = (s.size : Int) - (k : Int) by unfold wrap64; omega]; simp; omega
        have HF : Hid (R = (Ent.zero, 2)) := Lib.hid (by
          rw [HR.out, outer_short HS2.out (by rw [HLD.out]; exact h10)]
          rfl)
        have HX6 := Lib.hid (box_below HG1.out HB2.out)
        clear HS2
        go_wp2_with (refine wpList_store_box rfl 24 (.tmp 2) (.tmp 53) rfl w.heap.size Ent.zero.cells rfl rfl HX6.out rfl (by show _ = some 4; kernel_rfl) rfl ?_; intro w7 hs7; have HS7 := Lib.hid hs7; clear hs7)
        (try simp only [Exit.inBlock, Exit.then])
        refine bodyPost_ret (results_box_tmp rfl rfl (loadVar_box HS7.out.at_ Try.underlying24 rfl (by show _ = some 4; kernel_rfl))) rfl ?_
        refine ⟨by rw [HF.out]; rfl, HS7.out.then_ (below_then HW1.out HW1.out.size HB2.out) (Nat.le_refl _)⟩
end Go.Proofs.Ytgnicgcdhldmmaa.Key

