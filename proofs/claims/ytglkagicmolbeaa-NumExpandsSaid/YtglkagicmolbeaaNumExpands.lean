/- The walk of the law NumExpands. -/
import Derived.Test.YtglkagicmolbeaaNumAid
namespace Go.Proofs.Ytglkagicmolbeaa.Num
set_option linter.unusedVariables false
set_option linter.unusedSimpArgs false
open Go.Proofs.Ytglkagicmolbeaa.Kit Go.RowKit Go.Proofs.YtglkagicmolbeaaW.PrintWords Go.Proofs.YtglkagicmolbeaaW.PrintLast Go.Proofs.YtglkagicmolbeaaW.PrintMore NumPure
theorem short_2 {m : Nat} (h : (compact m).length ≠ 3) (hm : m < 65536) : m < 253 := by
  unfold compact at h
  repeat' split at h
  all_goals simp [le_length] at h
  all_goals omega
theorem short_4 {m : Nat} (h : (compact m).length ≠ 5) (hm : m < 4294967296) : m < 65536 := by
  unfold compact at h
  repeat' split at h
  all_goals simp [le_length] at h
  all_goals omega
theorem short_8 {m : Nat} (h : (compact m).length ≠ 9) : m < 4294967296 := by
  unfold compact at h
  repeat' split at h
  all_goals simp [le_length] at h
  all_goals omega
theorem form_2 {t : List Int} (hb : Byte t) (hl : t.length = 2) (h : (compact (leVal t)).length = 3) : compact (leVal t) = 253 :: t := by
  have hle := le_leVal t hb
  rw [hl] at hle
  generalize leVal t = m at h hle ⊢
  unfold compact at h ⊢
  repeat' split at h
  all_goals simp [le_length] at h
  rw [if_neg (by assumption), if_pos (by assumption), hle]
theorem form_4 {t : List Int} (hb : Byte t) (hl : t.length = 4) (h : (compact (leVal t)).length = 5) : compact (leVal t) = 254 :: t := by
  have hle := le_leVal t hb
  rw [hl] at hle
  generalize leVal t = m at h hle ⊢
  unfold compact at h ⊢
  repeat' split at h
  all_goals simp [le_length] at h
  rw [if_neg (by assumption), if_neg (by assumption), if_pos (by assumption), hle]
theorem form_8 {t : List Int} (hb : Byte t) (hl : t.length = 8) (h : (compact (leVal t)).length = 9) : compact (leVal t) = 255 :: t := by
  have hle := le_leVal t hb
  rw [hl] at hle
  generalize leVal t = m at h hle ⊢
  unfold compact at h ⊢
  repeat' split at h
  all_goals simp [le_length] at h
  rw [if_neg (by assumption), if_neg (by assumption), if_neg (by assumption), hle]
def tailracelaw01_NumExpands.T14 : Bool × List (List Nat × List Nat) := (true, [([], []), ([], []), ([0, 1], [0, 1]), ([2], [2]), ([3], [3]), ([4, 3, 3], [3, 4]), ([5, 3], [3, 5]), ([3], [3]), ([3], [3]), ([7, 8, 3], [3, 7, 8]), ([9, 3], [3, 9]), ([6, 10, 3], [3, 6, 10]), ([3, 11], [3, 11]), ([12, 5, 0, 1, 2, 3, 4, 5, 6, 7, 8, 9, 10, 11, 12], [12])])
def tailracelaw01_NumExpands.B14 : List Nat := [0, 0, 3, 7, 15, 31, 63, 15, 15, 399, 911, 2047, 4095, 8191]
theorem tailracelaw01_NumExpands.tab14 : rtab .any (opsOf Try.f9 14) = tailracelaw01_NumExpands.T14 := by kernel_rfl
theorem tailracelaw01_NumExpands.bits14 : waitsOk tailracelaw01_NumExpands.T14.2 tailracelaw01_NumExpands.B14 = true := by kernel_rfl
set_option maxRecDepth 20000 in
set_option maxHeartbeats 6400000 in
theorem expands_any (A : Option Addr) (n c : Nat) (l : List Int) (w : World) (hr : Rds .u8 w A n l) (hl : l.length = n) (hm : n * 1 ≤ 140737488351232) (hw : ∀ x ∈ l, (Lit.int .u8 x).wf = true) (hc : n ≤ c) :
    Calls Try.prog 9 #[.slice A n c] w fun e w' => e = .returned (.bool true) ∧ Below w.heap.size w w' := by
  have hb := byte_wf hw
  clear hw
  have C300 := Lib.hid (compact_any 300 (by omega) (.slice none 0 0) [] w w (gr_nil _ _ _) (Below.refl _ _) (by simp))
  have hs300 : ((strOfNums [253, 44, 1]).toList == ([253, 44, 1] : List UInt8)) = true := by rw [str_list]; rfl
  go_enter Try.func9, Try.ntmps9
  go_wp2_with fail
  refine C300.out.mono ?_
  rintro e w1 ⟨v1, rfl, hA1⟩
  have ho1 := hA1.own
  rw [List.nil_append, compact300] at ho1
  have hcv := conv_gr (dst := 9) tb Try.underlying5 Try.underlying9 ho1
  have HB1 := Lib.hid hA1.bel
  clear hA1 ho1
  go_upto_region 3 with fail
  clear hs300 hcv
  by_cases g : n ≤ 300
  · have hr1 := rds_below hr HB1.out
    clear hr
    have hmx := rds_max hr1
    have CE := Lib.hid (expand_any A n c l w1 hr1 hl hmx hc hb)
    go_wp2_with fail
    refine CE.out.mono ?_
    rintro e w2 ⟨rfl, hB2⟩
    have HB2 := Lib.hid (below_then HB1.out HB1.out.size hB2)
    have hr2 := rds_below hr1 hB2
    clear hr1 hB2 CE
    unfold three
    cases l with
    | nil =>
      obtain rfl : n = 0 := by simpa using hl.symm
      clear hr2 hl hb
      rw [show expand [] = (0, 0, 8) from rfl]
      go_wp2_with fail
      go_ret
      exact ⟨rfl, HB2.out⟩
    | cons x r =>
      have hx := hb.head
      obtain ⟨ad, e1, hc0⟩ := rds_at 0 hr2 0 (by rw [← hl]; simp)
      subst e1
      rw [List.getD_cons_zero, Addr.add_zero'] at hc0
      have hr3 := rds_below hr2 (below_alloc (Below.refl w2.heap.size w2) (.cells #[.int .i64 3, .int .i64 5, .int .i64 9] 3))
      obtain ⟨ad', e1, hc1⟩ := rds_at 0 hr3 0 (by rw [← hl]; simp)
      injection e1 with e1
      subst e1
      rw [List.getD_cons_zero, Addr.add_zero'] at hc1
      have hnp : (0 : Int) < (n : Int) := by rw [List.length_cons] at hl; omega
      have HL := Lib.hid hl
      clear hl
      by_cases h1 : x < 253
      · obtain ⟨m, rfl⟩ : ∃ m : Nat, x = (m : Int) := ⟨x.toNat, by omega⟩
        have hf : expand ((m : Int) :: r) = (m, 1, 0) := by unfold expand; simp only [if_pos h1]; rfl
        have hn1 : ¬ (n : Int) < 1 := by omega
        have hv64 : m < 18446744073709551616 := by omega
        have hput : compact m = ((m : Int) :: r).take 1 := by unfold compact; rw [if_pos (by omega)]; rfl
        rw [hf]
        clear hf hc1 hr3
        have HV64 := Lib.hid hv64
        have CP := Lib.hid (fun w9 (hB : Below w2.heap.size w2 w9) => compact_any m hv64 (.slice none 0 0) [] w9 w9 (gr_nil _ _ _) (Below.refl _ _) (by simp))
        have HP := Lib.hid hput
        obtain ⟨hcut, hCut⟩ := cut_to (enc := Value.int .u8) (h1 := int_one .u8) 0 tb (some ad) n c 1 (by omega) hc 1 rfl
        have HCV2 := Lib.hid (fun w9 (hB : Below w2.heap.size w2 w9) => conv_rds (c := c) (dst := 9) tb Try.underlying5 Try.underlying9 (hCut w9 _ (rds_below hr2 hB)))
        clear hput hv64 hCut
        go_wp2_with fail
        have hcvD := HCV2.out w2.drew (below_drew (Below.refl _ _))
        refine start_ (n := 14) (S := fun w' => (convert 22 9 (.slice (some ad) 1 c)).run Try.prog w' = .ok (.string (strOfNums (((m : Int) :: r).take 1))) w') (ds := []) #[false, false, false, false, false, false, false, false, false, false, false, false, false, false] (by kernel_rfl) rfl rfl (by assumption) (fun hHeld => ?_); refine with_tabW tailracelaw01_NumExpands.tab14 tailracelaw01_NumExpands.bits14 (fun HT_ HW_ => ?_)
        generalize hwd : w2.drew = wd at hcvD hHeld ⊢
        refine pure_ (i := 0) (N := some 81) (v := ?_) (a' := ?_) #[true, false, false, false, false, false, false, false, false, false, false, false, false, false] rfl rfl (any_of HT_.out (by kernel_rfl)) (fun _ _ _ h => h) (Or.inl ⟨by rfl, ?_⟩) ?_ ?_
        rotate_left
        · intro w'
          go_simp
          with_reducible rfl
        rotate_left
        · simp only [Act.put, List.setIfInBounds_toArray, List.set_cons_zero, List.set_cons_succ, i64_w, i32_w]
          rfl
        refine pure_ (i := 1) (N := some 82) (v := ?_) (a' := ?_) #[true, true, false, false, false, false, false, false, false, false, false, false, false, false] rfl rfl (any_of HT_.out (by kernel_rfl)) (fun _ _ _ h => h) (Or.inl ⟨by rfl, ?_⟩) ?_ ?_
        rotate_left
        · intro w'
          go_simp
          with_reducible rfl
        rotate_left
        · simp only [Act.put, List.setIfInBounds_toArray, List.set_cons_zero, List.set_cons_succ, i64_w, i32_w]
          rfl
        refine pure_ (i := 2) (N := some 83) (v := ?_) (a' := ?_) #[true, true, true, false, false, false, false, false, false, false, false, false, false, false] rfl rfl (any_of HT_.out (by kernel_rfl)) (fun _ _ _ h => h) (Or.inl ⟨by rfl, ?_⟩) ?_ ?_
        rotate_left
        · intro w'
          go_simp
          with_reducible rfl
        rotate_left
        · simp only [Act.put, List.setIfInBounds_toArray, List.set_cons_zero, List.set_cons_succ, i64_w, i32_w]
          rfl
        refine pure_ (i := 3) (N := some 84) (v := ?_) (a' := ?_) #[true, true, true, true, false, false, false, false, false, false, false, false, false, false] rfl rfl (any_of HT_.out (by kernel_rfl)) (fun _ _ _ h => h) (Or.inl ⟨by rfl, ?_⟩) ?_ ?_
        rotate_left
        · intro w'
          go_simp
          with_reducible rfl
        rotate_left
        · simp only [Act.put, List.setIfInBounds_toArray, List.set_cons_zero, List.set_cons_succ, i64_w, i32_w]
          rfl
        refine pure_ (i := 4) (N := some 85) (v := ?_) (a' := ?_) #[true, true, true, true, true, false, false, false, false, false, false, false, false, false] rfl rfl (any_of HT_.out (by kernel_rfl)) (fun _ _ _ h => h) (Or.inl ⟨by rfl, ?_⟩) ?_ ?_
        rotate_left
        · intro w'
          go_simp
          with_reducible rfl
        rotate_left
        · simp only [Act.put, List.setIfInBounds_toArray, List.set_cons_zero, List.set_cons_succ, i64_w, i32_w]
          rfl
        refine pure_ (i := 7) (N := some 88) (v := ?_) (a' := ?_) #[true, true, true, true, true, false, false, true, false, false, false, false, false, false] rfl rfl (any_of HT_.out (by kernel_rfl)) (fun _ _ _ h => h) (Or.inl ⟨by rfl, ?_⟩) ?_ ?_
        rotate_left
        · intro w'
          go_simp
          with_reducible rfl
        rotate_left
        · simp only [Act.put, List.setIfInBounds_toArray, List.set_cons_zero, List.set_cons_succ, i64_w, i32_w]
          rfl
        refine pure_ (i := 8) (N := some 89) (v := ?_) (a' := ?_) #[true, true, true, true, true, false, false, true, true, false, false, false, false, false] rfl rfl (any_of HT_.out (by kernel_rfl)) (fun _ _ _ h => h) (Or.inl ⟨by rfl, ?_⟩) ?_ ?_
        rotate_left
        · intro w'
          go_simp
          with_reducible rfl
        rotate_left
        · simp only [Act.put, List.setIfInBounds_toArray, List.set_cons_zero, List.set_cons_succ, i64_w, i32_w]
          rfl
        refine pure_ (i := 9) (N := some 90) (v := ?_) (a' := ?_) #[true, true, true, true, true, false, false, true, true, true, false, false, false, false] rfl rfl (any_of HT_.out (by kernel_rfl)) (fun _ _ _ h => h) (Or.inl ⟨by rfl, ?_⟩) ?_ ?_
        rotate_left
        · intro w'
          go_simp
          with_reducible rfl
        rotate_left
        · simp only [Act.put, List.setIfInBounds_toArray, List.set_cons_zero, List.set_cons_succ, i64_w, i32_w]
          rfl
        refine take_ (i := 10) (N := some 91) (v := ?_) (a' := ?_) #[true, true, true, true, true, false, false, true, true, true, true, false, false, false] rfl rfl (take_ofW HT_.out HW_.out (by kernel_rfl)) (fun _ _ _ h => h) (Or.inl ⟨by rfl, ?_⟩) hHeld ?_ ?_
        rotate_left
        · intro w' hSw
          go_simp
          with_reducible rfl
        rotate_left
        · simp only [Act.put, List.setIfInBounds_toArray, List.set_cons_zero, List.set_cons_succ, i64_w, i32_w]
          rfl
        refine one_ (i := 5) (N := some 86) #[true, true, true, true, true, true, false, true, true, true, true, false, false, false] rfl rfl (one_of HT_.out (by kernel_rfl)) (by decide) (fun K hK => ?_)
        refine goes_ Try.func37 (by kernel_rfl) rfl #[.slice none 0 0, .int .u64 m] (by rfl) rfl rfl (by simp only [List.map_toArray, List.map_cons, List.map_nil]; rfl) ?_
        subst hwd
        refine (CP.out _ (below_drew (Below.refl _ _))).mono ?_
        rintro e w9 ⟨v9, rfl, hA⟩
        refine ⟨_, rfl, ?_⟩
        have hcvA := HCV2.out w9 (below_drew_then hA.bel)
        have hcvO := conv_gr (dst := 9) tb Try.underlying5 Try.underlying9 hA.own
        have HBA := Lib.hid (below_then HB2.out (HB2.out).size (below_drew_then hA.bel))
        clear hA
        refine hK.out _ _ (by assumption) (fun hHeld => ?_)
        clear hK K
        refine norm_ (a' := ?_) ?_ ?_
        rotate_left
        · show Act.put _ (some 86) _ = _
          simp only [Act.put, List.setIfInBounds_toArray, List.set_cons_zero, List.set_cons_succ, i64_w, i32_w]
          rfl
        refine one_ (i := 6) (N := some 87) #[true, true, true, true, true, true, true, true, true, true, true, false, false, false] rfl rfl (one_of HT_.out (by kernel_rfl)) (by decide) (fun K hK => ?_)
        refine value_ (w1 := ?_) (v := ?_) (by rfl) rfl ?_ ?_
        rotate_left 2
        · go_simp
          constructor
          · rfl
          · rfl
        refine hK.out _ _ (by assumption) (fun hHeld => ?_)
        clear hK K
        refine norm_ (a' := ?_) ?_ ?_
        rotate_left
        · show Act.put _ (some 87) _ = _
          simp only [Act.put, List.setIfInBounds_toArray, List.set_cons_zero, List.set_cons_succ, i64_w, i32_w]
          rfl
        refine pure_ (i := 11) (N := some 92) (v := ?_) (a' := ?_) #[true, true, true, true, true, true, true, true, true, true, true, true, false, false] rfl rfl (any_of HT_.out (by kernel_rfl)) (fun _ _ _ h => h) (Or.inl ⟨by rfl, ?_⟩) ?_ ?_
        rotate_left
        · intro w'
          go_simp
          with_reducible rfl
        rotate_left
        · simp only [Act.put, List.setIfInBounds_toArray, List.set_cons_zero, List.set_cons_succ, i64_w, i32_w]
          rfl
        refine pure_ (i := 12) (N := some 93) (v := ?_) (a' := ?_) #[true, true, true, true, true, true, true, true, true, true, true, true, true, false] rfl rfl (any_of HT_.out (by kernel_rfl)) (fun _ _ _ h => h) (Or.inl ⟨by rfl, ?_⟩) ?_ ?_
        rotate_left
        · intro w'
          go_simp
          with_reducible rfl
        rotate_left
        · simp only [Act.put, List.setIfInBounds_toArray, List.set_cons_zero, List.set_cons_succ, i64_w, i32_w]
          rfl
        refine pure_ (i := 13) (N := some 2) (v := ?_) (a' := ?_) #[true, true, true, true, true, true, true, true, true, true, true, true, true, true] rfl rfl (any_of HT_.out (by kernel_rfl)) (fun _ _ _ h => h) (Or.inl ⟨by rfl, ?_⟩) ?_ ?_
        rotate_left
        · intro w'
          go_simp
          with_reducible rfl
        rotate_left
        · simp only [Act.put, List.setIfInBounds_toArray, List.set_cons_zero, List.set_cons_succ, i64_w, i32_w]
          rfl
        refine done_ (done_of HT_.out (by kernel_rfl)) ?_
        go_wp2_with fail
        go_ret
        exact ⟨by simp [HP.out], HBA.out⟩
      · have hs : x = 253 ∨ x = 254 ∨ x = 255 := by omega
        rcases hs with rfl | rfl | rfl
        · have hf := expand_big 253 r 2 (by omega) rfl
          by_cases hlen : n < 1 + 2
          · rw [if_pos (by rw [HL.out]; exact hlen)] at hf
            rw [hf]
            have hlt : (n : Int) < 1 + 2 := by omega
            clear hf
            go_wp2_with fail
            go_ret
            exact ⟨rfl, below_alloc HB2.out _⟩
          · rw [if_neg (by rw [HL.out]; exact hlen)] at hf
            obtain ⟨A2, hcut, hC⟩ := cut_mid (enc := Value.int .u8) (h1 := int_one .u8) 0 tb (some ad) n c 1 (1 + 2) 2 (by omega) (by omega) hc 1 (((1 + 2 : Nat) : Int)) rfl rfl
            rw [show (((1 + 2 : Nat) : Int)) = 3 from rfl] at hcut
            have hl2 : (((253 :: r).take (1 + 2)).drop 1).length = 2 := by rw [List.length_drop, List.length_take, HL.out]; omega
            have hb2 : Byte (((253 :: r).take (1 + 2)).drop 1) := (hb.take _).drop 1
            have hspl : (253 :: r).take 3 = 253 :: (((253 :: r).take (1 + 2)).drop 1) := rfl
            have hC2 := fun W hW => hC W _ (rds_below hr2 hW)
            clear hC
            generalize (((253 :: r).take (1 + 2)).drop 1) = t at hf hC2 hl2 hb2 hspl
            have hv := leVal_lt hb2
            rw [hl2] at hv
            have hv64 : leVal t < 18446744073709551616 := Nat.lt_of_lt_of_le hv (by decide)
            have HC2 := Lib.hid hC2
            have HV := Lib.hid hv
            have HLT := Lib.hid hl2
            have HBT := Lib.hid hb2
            have HR3 := Lib.hid hr3
            clear hC2 hv hl2 hb2 hr3
            have hge : ¬ (n : Int) < 3 := by omega
            by_cases hq : (compact (leVal t)).length = 1 + 2
            · rw [if_neg (by omega)] at hf
              rw [hf]
              have hput : compact (leVal t) = (253 :: r).take 3 := by rw [hspl]; exact form_2 HBT.out HLT.out hq
              clear hf hspl hq hcut
              generalize leVal t = m at hv64 hput
              have HB3 := Lib.hid (below_alloc HB2.out (.cells #[.int .i64 3, .int .i64 5, .int .i64 9] 3))
              generalize hw3 : w2.alloc (.cells #[.int .i64 3, .int .i64 5, .int .i64 9] 3) = w3 at HR3 HB3
              have HV64 := Lib.hid hv64
              have CP := Lib.hid (fun w9 (hB : Below w3.heap.size w3 w9) => compact_any m hv64 (.slice none 0 0) [] w9 w9 (gr_nil _ _ _) (Below.refl _ _) (by simp))
              have HP := Lib.hid hput
              obtain ⟨hcut, hCut⟩ := cut_to (enc := Value.int .u8) (h1 := int_one .u8) 0 tb (some ad) n c 3 (by omega) hc 3 rfl
              have HCV2 := Lib.hid (fun w9 (hB : Below w3.heap.size w3 w9) => conv_rds (c := c) (dst := 9) tb Try.underlying5 Try.underlying9 (hCut w9 _ (rds_below HR3.out hB)))
              clear hput hv64 hCut
              have HW3 := Lib.hid hw3
              clear hw3
              go_wp2_with fail
              rw [HW3.out]
              have hcvD := HCV2.out w3.drew (below_drew (Below.refl _ _))
              refine start_ (n := 14) (S := fun w' => (convert 22 9 (.slice (some ad) 3 c)).run Try.prog w' = .ok (.string (strOfNums ((253 :: r).take 3))) w') (ds := []) #[false, false, false, false, false, false, false, false, false, false, false, false, false, false] (by kernel_rfl) rfl rfl (by assumption) (fun hHeld => ?_); refine with_tabW tailracelaw01_NumExpands.tab14 tailracelaw01_NumExpands.bits14 (fun HT_ HW_ => ?_)
              generalize hwd : w3.drew = wd at hcvD hHeld ⊢
              refine pure_ (i := 0) (N := some 81) (v := ?_) (a' := ?_) #[true, false, false, false, false, false, false, false, false, false, false, false, false, false] rfl rfl (any_of HT_.out (by kernel_rfl)) (fun _ _ _ h => h) (Or.inl ⟨by rfl, ?_⟩) ?_ ?_
              rotate_left
              · intro w'
                go_simp
                with_reducible rfl
              rotate_left
              · simp only [Act.put, List.setIfInBounds_toArray, List.set_cons_zero, List.set_cons_succ, i64_w, i32_w]
                rfl
              refine pure_ (i := 1) (N := some 82) (v := ?_) (a' := ?_) #[true, true, false, false, false, false, false, false, false, false, false, false, false, false] rfl rfl (any_of HT_.out (by kernel_rfl)) (fun _ _ _ h => h) (Or.inl ⟨by rfl, ?_⟩) ?_ ?_
              rotate_left
              · intro w'
                go_simp
                with_reducible rfl
              rotate_left
              · simp only [Act.put, List.setIfInBounds_toArray, List.set_cons_zero, List.set_cons_succ, i64_w, i32_w]
                rfl
              refine pure_ (i := 2) (N := some 83) (v := ?_) (a' := ?_) #[true, true, true, false, false, false, false, false, false, false, false, false, false, false] rfl rfl (any_of HT_.out (by kernel_rfl)) (fun _ _ _ h => h) (Or.inl ⟨by rfl, ?_⟩) ?_ ?_
              rotate_left
              · intro w'
                go_simp
                with_reducible rfl
              rotate_left
              · simp only [Act.put, List.setIfInBounds_toArray, List.set_cons_zero, List.set_cons_succ, i64_w, i32_w]
                rfl
              refine pure_ (i := 3) (N := some 84) (v := ?_) (a' := ?_) #[true, true, true, true, false, false, false, false, false, false, false, false, false, false] rfl rfl (any_of HT_.out (by kernel_rfl)) (fun _ _ _ h => h) (Or.inl ⟨by rfl, ?_⟩) ?_ ?_
              rotate_left
              · intro w'
                go_simp
                with_reducible rfl
              rotate_left
              · simp only [Act.put, List.setIfInBounds_toArray, List.set_cons_zero, List.set_cons_succ, i64_w, i32_w]
                rfl
              refine pure_ (i := 4) (N := some 85) (v := ?_) (a' := ?_) #[true, true, true, true, true, false, false, false, false, false, false, false, false, false] rfl rfl (any_of HT_.out (by kernel_rfl)) (fun _ _ _ h => h) (Or.inl ⟨by rfl, ?_⟩) ?_ ?_
              rotate_left
              · intro w'
                go_simp
                with_reducible rfl
              rotate_left
              · simp only [Act.put, List.setIfInBounds_toArray, List.set_cons_zero, List.set_cons_succ, i64_w, i32_w]
                rfl
              refine pure_ (i := 7) (N := some 88) (v := ?_) (a' := ?_) #[true, true, true, true, true, false, false, true, false, false, false, false, false, false] rfl rfl (any_of HT_.out (by kernel_rfl)) (fun _ _ _ h => h) (Or.inl ⟨by rfl, ?_⟩) ?_ ?_
              rotate_left
              · intro w'
                go_simp
                with_reducible rfl
              rotate_left
              · simp only [Act.put, List.setIfInBounds_toArray, List.set_cons_zero, List.set_cons_succ, i64_w, i32_w]
                rfl
              refine pure_ (i := 8) (N := some 89) (v := ?_) (a' := ?_) #[true, true, true, true, true, false, false, true, true, false, false, false, false, false] rfl rfl (any_of HT_.out (by kernel_rfl)) (fun _ _ _ h => h) (Or.inl ⟨by rfl, ?_⟩) ?_ ?_
              rotate_left
              · intro w'
                go_simp
                with_reducible rfl
              rotate_left
              · simp only [Act.put, List.setIfInBounds_toArray, List.set_cons_zero, List.set_cons_succ, i64_w, i32_w]
                rfl
              refine pure_ (i := 9) (N := some 90) (v := ?_) (a' := ?_) #[true, true, true, true, true, false, false, true, true, true, false, false, false, false] rfl rfl (any_of HT_.out (by kernel_rfl)) (fun _ _ _ h => h) (Or.inl ⟨by rfl, ?_⟩) ?_ ?_
              rotate_left
              · intro w'
                go_simp
                with_reducible rfl
              rotate_left
              · simp only [Act.put, List.setIfInBounds_toArray, List.set_cons_zero, List.set_cons_succ, i64_w, i32_w]
                rfl
              refine take_ (i := 10) (N := some 91) (v := ?_) (a' := ?_) #[true, true, true, true, true, false, false, true, true, true, true, false, false, false] rfl rfl (take_ofW HT_.out HW_.out (by kernel_rfl)) (fun _ _ _ h => h) (Or.inl ⟨by rfl, ?_⟩) hHeld ?_ ?_
              rotate_left
              · intro w' hSw
                go_simp
                with_reducible rfl
              rotate_left
              · simp only [Act.put, List.setIfInBounds_toArray, List.set_cons_zero, List.set_cons_succ, i64_w, i32_w]
                rfl
              refine one_ (i := 5) (N := some 86) #[true, true, true, true, true, true, false, true, true, true, true, false, false, false] rfl rfl (one_of HT_.out (by kernel_rfl)) (by decide) (fun K hK => ?_)
              refine goes_ Try.func37 (by kernel_rfl) rfl #[.slice none 0 0, .int .u64 m] (by rfl) rfl rfl (by simp only [List.map_toArray, List.map_cons, List.map_nil]; rfl) ?_
              subst hwd
              refine (CP.out _ (below_drew (Below.refl _ _))).mono ?_
              rintro e w9 ⟨v9, rfl, hA⟩
              refine ⟨_, rfl, ?_⟩
              have hcvA := HCV2.out w9 (below_drew_then hA.bel)
              have hcvO := conv_gr (dst := 9) tb Try.underlying5 Try.underlying9 hA.own
              have HBA := Lib.hid (below_then HB3.out (HB3.out).size (below_drew_then hA.bel))
              clear hA
              refine hK.out _ _ (by assumption) (fun hHeld => ?_)
              clear hK K
              refine norm_ (a' := ?_) ?_ ?_
              rotate_left
              · show Act.put _ (some 86) _ = _
                simp only [Act.put, List.setIfInBounds_toArray, List.set_cons_zero, List.set_cons_succ, i64_w, i32_w]
                rfl
              refine one_ (i := 6) (N := some 87) #[true, true, true, true, true, true, true, true, true, true, true, false, false, false] rfl rfl (one_of HT_.out (by kernel_rfl)) (by decide) (fun K hK => ?_)
              refine value_ (w1 := ?_) (v := ?_) (by rfl) rfl ?_ ?_
              rotate_left 2
              · go_simp
                constructor
                · rfl
                · rfl
              refine hK.out _ _ (by assumption) (fun hHeld => ?_)
              clear hK K
              refine norm_ (a' := ?_) ?_ ?_
              rotate_left
              · show Act.put _ (some 87) _ = _
                simp only [Act.put, List.setIfInBounds_toArray, List.set_cons_zero, List.set_cons_succ, i64_w, i32_w]
                rfl
              refine pure_ (i := 11) (N := some 92) (v := ?_) (a' := ?_) #[true, true, true, true, true, true, true, true, true, true, true, true, false, false] rfl rfl (any_of HT_.out (by kernel_rfl)) (fun _ _ _ h => h) (Or.inl ⟨by rfl, ?_⟩) ?_ ?_
              rotate_left
              · intro w'
                go_simp
                with_reducible rfl
              rotate_left
              · simp only [Act.put, List.setIfInBounds_toArray, List.set_cons_zero, List.set_cons_succ, i64_w, i32_w]
                rfl
              refine pure_ (i := 12) (N := some 93) (v := ?_) (a' := ?_) #[true, true, true, true, true, true, true, true, true, true, true, true, true, false] rfl rfl (any_of HT_.out (by kernel_rfl)) (fun _ _ _ h => h) (Or.inl ⟨by rfl, ?_⟩) ?_ ?_
              rotate_left
              · intro w'
                go_simp
                with_reducible rfl
              rotate_left
              · simp only [Act.put, List.setIfInBounds_toArray, List.set_cons_zero, List.set_cons_succ, i64_w, i32_w]
                rfl
              refine pure_ (i := 13) (N := some 2) (v := ?_) (a' := ?_) #[true, true, true, true, true, true, true, true, true, true, true, true, true, true] rfl rfl (any_of HT_.out (by kernel_rfl)) (fun _ _ _ h => h) (Or.inl ⟨by rfl, ?_⟩) ?_ ?_
              rotate_left
              · intro w'
                go_simp
                with_reducible rfl
              rotate_left
              · simp only [Act.put, List.setIfInBounds_toArray, List.set_cons_zero, List.set_cons_succ, i64_w, i32_w]
                rfl
              refine done_ (done_of HT_.out (by kernel_rfl)) ?_
              go_wp2_with fail
              go_ret
              exact ⟨by simp [HP.out], HBA.out⟩
            · rw [if_pos hq] at hf
              rw [hf]
              have hless := Lib.hid (short_2 hq HV.out)
              clear hf hspl hq
              go_wp2_with fail
              have hB4 : Below w2.heap.size w2 ((w2.alloc (.cells #[.int .i64 3, .int .i64 5, .int .i64 9] 3)).alloc (.cells #[.int .u64 253, .int .u64 65536, .int .u64 4294967296] 24)) := below_alloc (below_alloc (Below.refl _ _) _) _
              have hr4 := rds_below hr2 hB4
              obtain ⟨ad', e1, hc4⟩ := rds_at 0 hr4 0 (by omega)
              injection e1 with e1
              subst e1
              rw [List.getD_cons_zero, Addr.add_zero'] at hc4
              have hcl : ((w2.alloc (.cells #[.int .i64 3, .int .i64 5, .int .i64 9] 3)).alloc (.cells #[.int .u64 253, .int .u64 65536, .int .u64 4294967296] 24)).cell? { block := w2.heap.size + 1, off := 0 } = some (.int .u64 253) := by
                have h := heap_alloc_new (w2.alloc (.cells #[.int .i64 3, .int .i64 5, .int .i64 9] 3)) (.cells #[.int .u64 253, .int .u64 65536, .int .u64 4294967296] 24)
                have h2 : (w2.alloc (.cells #[.int .i64 3, .int .i64 5, .int .i64 9] 3)).heap.size = w2.heap.size + 1 := by simp
                rw [h2] at h
                exact cell_of_row _ _ 0 _ _ _ h
              have hBW := Lib.hid (below_then HB2.out HB2.out.size hB4)
              have hC4 := HC2.out _ hB4
              generalize (w2.alloc (.cells #[.int .i64 3, .int .i64 5, .int .i64 9] 3)).alloc (.cells #[.int .u64 253, .int .u64 65536, .int .u64 4294967296] 24) = w4 at hBW hC4 hc4 hcl ⊢
              have S1 := Lib.hid (fun N => quiet_left (little_val A2 2 (c - 1) t (w4.drewN N) (rds_drewN hC4 N) HLT.out (by omega) HBT.out))
              rw [List.take_of_length_le (by rw [HLT.out]; omega)] at S1
              have hfin : decide ((leVal t : Int) < 253) = true := by have := hless.out; simp only [decide_eq_true_eq]; omega
              have HFIN := Lib.hid hfin
              clear hr4 hB4 hC4 hc1 hc0 hr2 hb hfin
              generalize leVal t = m at S1 HFIN hv64 hless
              go_quiet (first | (with_reducible exact S1.out _))
              go_wp2_with fail
              go_ret
              exact ⟨ret_bool (by have := HFIN.out; simp only [decide_eq_true_eq] at this; simp <;> omega), below_drewN_ hBW.out _⟩
        · have hf := expand_big 254 r 4 (by omega) rfl
          by_cases hlen : n < 1 + 4
          · rw [if_pos (by rw [HL.out]; exact hlen)] at hf
            rw [hf]
            have hlt : (n : Int) < 1 + 4 := by omega
            clear hf
            go_wp2_with fail
            go_ret
            exact ⟨rfl, below_alloc HB2.out _⟩
          · rw [if_neg (by rw [HL.out]; exact hlen)] at hf
            obtain ⟨A2, hcut, hC⟩ := cut_mid (enc := Value.int .u8) (h1 := int_one .u8) 0 tb (some ad) n c 1 (1 + 4) 4 (by omega) (by omega) hc 1 (((1 + 4 : Nat) : Int)) rfl rfl
            rw [show (((1 + 4 : Nat) : Int)) = 5 from rfl] at hcut
            have hl2 : (((254 :: r).take (1 + 4)).drop 1).length = 4 := by rw [List.length_drop, List.length_take, HL.out]; omega
            have hb2 : Byte (((254 :: r).take (1 + 4)).drop 1) := (hb.take _).drop 1
            have hspl : (254 :: r).take 5 = 254 :: (((254 :: r).take (1 + 4)).drop 1) := rfl
            have hC2 := fun W hW => hC W _ (rds_below hr2 hW)
            clear hC
            generalize (((254 :: r).take (1 + 4)).drop 1) = t at hf hC2 hl2 hb2 hspl
            have hv := leVal_lt hb2
            rw [hl2] at hv
            have hv64 : leVal t < 18446744073709551616 := Nat.lt_of_lt_of_le hv (by decide)
            have HC2 := Lib.hid hC2
            have HV := Lib.hid hv
            have HLT := Lib.hid hl2
            have HBT := Lib.hid hb2
            have HR3 := Lib.hid hr3
            clear hC2 hv hl2 hb2 hr3
            have hge : ¬ (n : Int) < 5 := by omega
            by_cases hq : (compact (leVal t)).length = 1 + 4
            · rw [if_neg (by omega)] at hf
              rw [hf]
              have hput : compact (leVal t) = (254 :: r).take 5 := by rw [hspl]; exact form_4 HBT.out HLT.out hq
              clear hf hspl hq hcut
              generalize leVal t = m at hv64 hput
              have HB3 := Lib.hid (below_alloc HB2.out (.cells #[.int .i64 3, .int .i64 5, .int .i64 9] 3))
              generalize hw3 : w2.alloc (.cells #[.int .i64 3, .int .i64 5, .int .i64 9] 3) = w3 at HR3 HB3
              have HV64 := Lib.hid hv64
              have CP := Lib.hid (fun w9 (hB : Below w3.heap.size w3 w9) => compact_any m hv64 (.slice none 0 0) [] w9 w9 (gr_nil _ _ _) (Below.refl _ _) (by simp))
              have HP := Lib.hid hput
              obtain ⟨hcut, hCut⟩ := cut_to (enc := Value.int .u8) (h1 := int_one .u8) 0 tb (some ad) n c 5 (by omega) hc 5 rfl
              have HCV2 := Lib.hid (fun w9 (hB : Below w3.heap.size w3 w9) => conv_rds (c := c) (dst := 9) tb Try.underlying5 Try.underlying9 (hCut w9 _ (rds_below HR3.out hB)))
              clear hput hv64 hCut
              have HW3 := Lib.hid hw3
              clear hw3
              go_wp2_with fail
              rw [HW3.out]
              have hcvD := HCV2.out w3.drew (below_drew (Below.refl _ _))
              refine start_ (n := 14) (S := fun w' => (convert 22 9 (.slice (some ad) 5 c)).run Try.prog w' = .ok (.string (strOfNums ((254 :: r).take 5))) w') (ds := []) #[false, false, false, false, false, false, false, false, false, false, false, false, false, false] (by kernel_rfl) rfl rfl (by assumption) (fun hHeld => ?_); refine with_tabW tailracelaw01_NumExpands.tab14 tailracelaw01_NumExpands.bits14 (fun HT_ HW_ => ?_)
              generalize hwd : w3.drew = wd at hcvD hHeld ⊢
              refine pure_ (i := 0) (N := some 81) (v := ?_) (a' := ?_) #[true, false, false, false, false, false, false, false, false, false, false, false, false, false] rfl rfl (any_of HT_.out (by kernel_rfl)) (fun _ _ _ h => h) (Or.inl ⟨by rfl, ?_⟩) ?_ ?_
              rotate_left
              · intro w'
                go_simp
                with_reducible rfl
              rotate_left
              · simp only [Act.put, List.setIfInBounds_toArray, List.set_cons_zero, List.set_cons_succ, i64_w, i32_w]
                rfl
              refine pure_ (i := 1) (N := some 82) (v := ?_) (a' := ?_) #[true, true, false, false, false, false, false, false, false, false, false, false, false, false] rfl rfl (any_of HT_.out (by kernel_rfl)) (fun _ _ _ h => h) (Or.inl ⟨by rfl, ?_⟩) ?_ ?_
              rotate_left
              · intro w'
                go_simp
                with_reducible rfl
              rotate_left
              · simp only [Act.put, List.setIfInBounds_toArray, List.set_cons_zero, List.set_cons_succ, i64_w, i32_w]
                rfl
              refine pure_ (i := 2) (N := some 83) (v := ?_) (a' := ?_) #[true, true, true, false, false, false, false, false, false, false, false, false, false, false] rfl rfl (any_of HT_.out (by kernel_rfl)) (fun _ _ _ h => h) (Or.inl ⟨by rfl, ?_⟩) ?_ ?_
              rotate_left
              · intro w'
                go_simp
                with_reducible rfl
              rotate_left
              · simp only [Act.put, List.setIfInBounds_toArray, List.set_cons_zero, List.set_cons_succ, i64_w, i32_w]
                rfl
              refine pure_ (i := 3) (N := some 84) (v := ?_) (a' := ?_) #[true, true, true, true, false, false, false, false, false, false, false, false, false, false] rfl rfl (any_of HT_.out (by kernel_rfl)) (fun _ _ _ h => h) (Or.inl ⟨by rfl, ?_⟩) ?_ ?_
              rotate_left
              · intro w'
                go_simp
                with_reducible rfl
              rotate_left
              · simp only [Act.put, List.setIfInBounds_toArray, List.set_cons_zero, List.set_cons_succ, i64_w, i32_w]
                rfl
              refine pure_ (i := 4) (N := some 85) (v := ?_) (a' := ?_) #[true, true, true, true, true, false, false, false, false, false, false, false, false, false] rfl rfl (any_of HT_.out (by kernel_rfl)) (fun _ _ _ h => h) (Or.inl ⟨by rfl, ?_⟩) ?_ ?_
              rotate_left
              · intro w'
                go_simp
                with_reducible rfl
              rotate_left
              · simp only [Act.put, List.setIfInBounds_toArray, List.set_cons_zero, List.set_cons_succ, i64_w, i32_w]
                rfl
              refine pure_ (i := 7) (N := some 88) (v := ?_) (a' := ?_) #[true, true, true, true, true, false, false, true, false, false, false, false, false, false] rfl rfl (any_of HT_.out (by kernel_rfl)) (fun _ _ _ h => h) (Or.inl ⟨by rfl, ?_⟩) ?_ ?_
              rotate_left
              · intro w'
                go_simp
                with_reducible rfl
              rotate_left
              · simp only [Act.put, List.setIfInBounds_toArray, List.set_cons_zero, List.set_cons_succ, i64_w, i32_w]
                rfl
              refine pure_ (i := 8) (N := some 89) (v := ?_) (a' := ?_) #[true, true, true, true, true, false, false, true, true, false, false, false, false, false] rfl rfl (any_of HT_.out (by kernel_rfl)) (fun _ _ _ h => h) (Or.inl ⟨by rfl, ?_⟩) ?_ ?_
              rotate_left
              · intro w'
                go_simp
                with_reducible rfl
              rotate_left
              · simp only [Act.put, List.setIfInBounds_toArray, List.set_cons_zero, List.set_cons_succ, i64_w, i32_w]
                rfl
              refine pure_ (i := 9) (N := some 90) (v := ?_) (a' := ?_) #[true, true, true, true, true, false, false, true, true, true, false, false, false, false] rfl rfl (any_of HT_.out (by kernel_rfl)) (fun _ _ _ h => h) (Or.inl ⟨by rfl, ?_⟩) ?_ ?_
              rotate_left
              · intro w'
                go_simp
                with_reducible rfl
              rotate_left
              · simp only [Act.put, List.setIfInBounds_toArray, List.set_cons_zero, List.set_cons_succ, i64_w, i32_w]
                rfl
              refine take_ (i := 10) (N := some 91) (v := ?_) (a' := ?_) #[true, true, true, true, true, false, false, true, true, true, true, false, false, false] rfl rfl (take_ofW HT_.out HW_.out (by kernel_rfl)) (fun _ _ _ h => h) (Or.inl ⟨by rfl, ?_⟩) hHeld ?_ ?_
              rotate_left
              · intro w' hSw
                go_simp
                with_reducible rfl
              rotate_left
              · simp only [Act.put, List.setIfInBounds_toArray, List.set_cons_zero, List.set_cons_succ, i64_w, i32_w]
                rfl
              refine one_ (i := 5) (N := some 86) #[true, true, true, true, true, true, false, true, true, true, true, false, false, false] rfl rfl (one_of HT_.out (by kernel_rfl)) (by decide) (fun K hK => ?_)
              refine goes_ Try.func37 (by kernel_rfl) rfl #[.slice none 0 0, .int .u64 m] (by rfl) rfl rfl (by simp only [List.map_toArray, List.map_cons, List.map_nil]; rfl) ?_
              subst hwd
              refine (CP.out _ (below_drew (Below.refl _ _))).mono ?_
              rintro e w9 ⟨v9, rfl, hA⟩
              refine ⟨_, rfl, ?_⟩
              have hcvA := HCV2.out w9 (below_drew_then hA.bel)
              have hcvO := conv_gr (dst := 9) tb Try.underlying5 Try.underlying9 hA.own
              have HBA := Lib.hid (below_then HB3.out (HB3.out).size (below_drew_then hA.bel))
              clear hA
              refine hK.out _ _ (by assumption) (fun hHeld => ?_)
              clear hK K
              refine norm_ (a' := ?_) ?_ ?_
              rotate_left
              · show Act.put _ (some 86) _ = _
                simp only [Act.put, List.setIfInBounds_toArray, List.set_cons_zero, List.set_cons_succ, i64_w, i32_w]
                rfl
              refine one_ (i := 6) (N := some 87) #[true, true, true, true, true, true, true, true, true, true, true, false, false, false] rfl rfl (one_of HT_.out (by kernel_rfl)) (by decide) (fun K hK => ?_)
              refine value_ (w1 := ?_) (v := ?_) (by rfl) rfl ?_ ?_
              rotate_left 2
              · go_simp
                constructor
                · rfl
                · rfl
              refine hK.out _ _ (by assumption) (fun hHeld => ?_)
              clear hK K
              refine norm_ (a' := ?_) ?_ ?_
              rotate_left
              · show Act.put _ (some 87) _ = _
                simp only [Act.put, List.setIfInBounds_toArray, List.set_cons_zero, List.set_cons_succ, i64_w, i32_w]
                rfl
              refine pure_ (i := 11) (N := some 92) (v := ?_) (a' := ?_) #[true, true, true, true, true, true, true, true, true, true, true, true, false, false] rfl rfl (any_of HT_.out (by kernel_rfl)) (fun _ _ _ h => h) (Or.inl ⟨by rfl, ?_⟩) ?_ ?_
              rotate_left
              · intro w'
                go_simp
                with_reducible rfl
              rotate_left
              · simp only [Act.put, List.setIfInBounds_toArray, List.set_cons_zero, List.set_cons_succ, i64_w, i32_w]
                rfl
              refine pure_ (i := 12) (N := some 93) (v := ?_) (a' := ?_) #[true, true, true, true, true, true, true, true, true, true, true, true, true, false] rfl rfl (any_of HT_.out (by kernel_rfl)) (fun _ _ _ h => h) (Or.inl ⟨by rfl, ?_⟩) ?_ ?_
              rotate_left
              · intro w'
                go_simp
                with_reducible rfl
              rotate_left
              · simp only [Act.put, List.setIfInBounds_toArray, List.set_cons_zero, List.set_cons_succ, i64_w, i32_w]
                rfl
              refine pure_ (i := 13) (N := some 2) (v := ?_) (a' := ?_) #[true, true, true, true, true, true, true, true, true, true, true, true, true, true] rfl rfl (any_of HT_.out (by kernel_rfl)) (fun _ _ _ h => h) (Or.inl ⟨by rfl, ?_⟩) ?_ ?_
              rotate_left
              · intro w'
                go_simp
                with_reducible rfl
              rotate_left
              · simp only [Act.put, List.setIfInBounds_toArray, List.set_cons_zero, List.set_cons_succ, i64_w, i32_w]
                rfl
              refine done_ (done_of HT_.out (by kernel_rfl)) ?_
              go_wp2_with fail
              go_ret
              exact ⟨by simp [HP.out], HBA.out⟩
            · rw [if_pos hq] at hf
              rw [hf]
              have hless := Lib.hid (short_4 hq HV.out)
              clear hf hspl hq
              go_wp2_with fail
              have hB4 : Below w2.heap.size w2 ((w2.alloc (.cells #[.int .i64 3, .int .i64 5, .int .i64 9] 3)).alloc (.cells #[.int .u64 253, .int .u64 65536, .int .u64 4294967296] 24)) := below_alloc (below_alloc (Below.refl _ _) _) _
              have hr4 := rds_below hr2 hB4
              obtain ⟨ad', e1, hc4⟩ := rds_at 0 hr4 0 (by omega)
              injection e1 with e1
              subst e1
              rw [List.getD_cons_zero, Addr.add_zero'] at hc4
              have hcl : ((w2.alloc (.cells #[.int .i64 3, .int .i64 5, .int .i64 9] 3)).alloc (.cells #[.int .u64 253, .int .u64 65536, .int .u64 4294967296] 24)).cell? { block := w2.heap.size + 1, off := 1 } = some (.int .u64 65536) := by
                have h := heap_alloc_new (w2.alloc (.cells #[.int .i64 3, .int .i64 5, .int .i64 9] 3)) (.cells #[.int .u64 253, .int .u64 65536, .int .u64 4294967296] 24)
                have h2 : (w2.alloc (.cells #[.int .i64 3, .int .i64 5, .int .i64 9] 3)).heap.size = w2.heap.size + 1 := by simp
                rw [h2] at h
                exact cell_of_row _ _ 1 _ _ _ h
              have hBW := Lib.hid (below_then HB2.out HB2.out.size hB4)
              have hC4 := HC2.out _ hB4
              generalize (w2.alloc (.cells #[.int .i64 3, .int .i64 5, .int .i64 9] 3)).alloc (.cells #[.int .u64 253, .int .u64 65536, .int .u64 4294967296] 24) = w4 at hBW hC4 hc4 hcl ⊢
              have S1 := Lib.hid (fun N => quiet_left (little_val A2 4 (c - 1) t (w4.drewN N) (rds_drewN hC4 N) HLT.out (by omega) HBT.out))
              rw [List.take_of_length_le (by rw [HLT.out]; omega)] at S1
              have hfin : decide ((leVal t : Int) < 65536) = true := by have := hless.out; simp only [decide_eq_true_eq]; omega
              have HFIN := Lib.hid hfin
              clear hr4 hB4 hC4 hc1 hc0 hr2 hb hfin
              generalize leVal t = m at S1 HFIN hv64 hless
              go_quiet (first | (with_reducible exact S1.out _))
              go_wp2_with fail
              go_ret
              exact ⟨ret_bool (by have := HFIN.out; simp only [decide_eq_true_eq] at this; simp <;> omega), below_drewN_ hBW.out _⟩
        · have hf := expand_big 255 r 8 (by omega) rfl
          by_cases hlen : n < 1 + 8
          · rw [if_pos (by rw [HL.out]; exact hlen)] at hf
            rw [hf]
            have hlt : (n : Int) < 1 + 8 := by omega
            clear hf
            go_wp2_with fail
            go_ret
            exact ⟨rfl, below_alloc HB2.out _⟩
          · rw [if_neg (by rw [HL.out]; exact hlen)] at hf
            obtain ⟨A2, hcut, hC⟩ := cut_mid (enc := Value.int .u8) (h1 := int_one .u8) 0 tb (some ad) n c 1 (1 + 8) 8 (by omega) (by omega) hc 1 (((1 + 8 : Nat) : Int)) rfl rfl
            rw [show (((1 + 8 : Nat) : Int)) = 9 from rfl] at hcut
            have hl2 : (((255 :: r).take (1 + 8)).drop 1).length = 8 := by rw [List.length_drop, List.length_take, HL.out]; omega
            have hb2 : Byte (((255 :: r).take (1 + 8)).drop 1) := (hb.take _).drop 1
            have hspl : (255 :: r).take 9 = 255 :: (((255 :: r).take (1 + 8)).drop 1) := rfl
            have hC2 := fun W hW => hC W _ (rds_below hr2 hW)
            clear hC
            generalize (((255 :: r).take (1 + 8)).drop 1) = t at hf hC2 hl2 hb2 hspl
            have hv := leVal_lt hb2
            rw [hl2] at hv
            have hv64 : leVal t < 18446744073709551616 := Nat.lt_of_lt_of_le hv (by decide)
            have HC2 := Lib.hid hC2
            have HV := Lib.hid hv
            have HLT := Lib.hid hl2
            have HBT := Lib.hid hb2
            have HR3 := Lib.hid hr3
            clear hC2 hv hl2 hb2 hr3
            have hge : ¬ (n : Int) < 9 := by omega
            by_cases hq : (compact (leVal t)).length = 1 + 8
            · rw [if_neg (by omega)] at hf
              rw [hf]
              have hput : compact (leVal t) = (255 :: r).take 9 := by rw [hspl]; exact form_8 HBT.out HLT.out hq
              clear hf hspl hq hcut
              generalize leVal t = m at hv64 hput
              have HB3 := Lib.hid (below_alloc HB2.out (.cells #[.int .i64 3, .int .i64 5, .int .i64 9] 3))
              generalize hw3 : w2.alloc (.cells #[.int .i64 3, .int .i64 5, .int .i64 9] 3) = w3 at HR3 HB3
              have HV64 := Lib.hid hv64
              have CP := Lib.hid (fun w9 (hB : Below w3.heap.size w3 w9) => compact_any m hv64 (.slice none 0 0) [] w9 w9 (gr_nil _ _ _) (Below.refl _ _) (by simp))
              have HP := Lib.hid hput
              obtain ⟨hcut, hCut⟩ := cut_to (enc := Value.int .u8) (h1 := int_one .u8) 0 tb (some ad) n c 9 (by omega) hc 9 rfl
              have HCV2 := Lib.hid (fun w9 (hB : Below w3.heap.size w3 w9) => conv_rds (c := c) (dst := 9) tb Try.underlying5 Try.underlying9 (hCut w9 _ (rds_below HR3.out hB)))
              clear hput hv64 hCut
              have HW3 := Lib.hid hw3
              clear hw3
              go_wp2_with fail
              rw [HW3.out]
              have hcvD := HCV2.out w3.drew (below_drew (Below.refl _ _))
              refine start_ (n := 14) (S := fun w' => (convert 22 9 (.slice (some ad) 9 c)).run Try.prog w' = .ok (.string (strOfNums ((255 :: r).take 9))) w') (ds := []) #[false, false, false, false, false, false, false, false, false, false, false, false, false, false] (by kernel_rfl) rfl rfl (by assumption) (fun hHeld => ?_); refine with_tabW tailracelaw01_NumExpands.tab14 tailracelaw01_NumExpands.bits14 (fun HT_ HW_ => ?_)
              generalize hwd : w3.drew = wd at hcvD hHeld ⊢
              refine pure_ (i := 0) (N := some 81) (v := ?_) (a' := ?_) #[true, false, false, false, false, false, false, false, false, false, false, false, false, false] rfl rfl (any_of HT_.out (by kernel_rfl)) (fun _ _ _ h => h) (Or.inl ⟨by rfl, ?_⟩) ?_ ?_
              rotate_left
              · intro w'
                go_simp
                with_reducible rfl
              rotate_left
              · simp only [Act.put, List.setIfInBounds_toArray, List.set_cons_zero, List.set_cons_succ, i64_w, i32_w]
                rfl
              refine pure_ (i := 1) (N := some 82) (v := ?_) (a' := ?_) #[true, true, false, false, false, false, false, false, false, false, false, false, false, false] rfl rfl (any_of HT_.out (by kernel_rfl)) (fun _ _ _ h => h) (Or.inl ⟨by rfl, ?_⟩) ?_ ?_
              rotate_left
              · intro w'
                go_simp
                with_reducible rfl
              rotate_left
              · simp only [Act.put, List.setIfInBounds_toArray, List.set_cons_zero, List.set_cons_succ, i64_w, i32_w]
                rfl
              refine pure_ (i := 2) (N := some 83) (v := ?_) (a' := ?_) #[true, true, true, false, false, false, false, false, false, false, false, false, false, false] rfl rfl (any_of HT_.out (by kernel_rfl)) (fun _ _ _ h => h) (Or.inl ⟨by rfl, ?_⟩) ?_ ?_
              rotate_left
              · intro w'
                go_simp
                with_reducible rfl
              rotate_left
              · simp only [Act.put, List.setIfInBounds_toArray, List.set_cons_zero, List.set_cons_succ, i64_w, i32_w]
                rfl
              refine pure_ (i := 3) (N := some 84) (v := ?_) (a' := ?_) #[true, true, true, true, false, false, false, false, false, false, false, false, false, false] rfl rfl (any_of HT_.out (by kernel_rfl)) (fun _ _ _ h => h) (Or.inl ⟨by rfl, ?_⟩) ?_ ?_
              rotate_left
              · intro w'
                go_simp
                with_reducible rfl
              rotate_left
              · simp only [Act.put, List.setIfInBounds_toArray, List.set_cons_zero, List.set_cons_succ, i64_w, i32_w]
                rfl
              refine pure_ (i := 4) (N := some 85) (v := ?_) (a' := ?_) #[true, true, true, true, true, false, false, false, false, false, false, false, false, false] rfl rfl (any_of HT_.out (by kernel_rfl)) (fun _ _ _ h => h) (Or.inl ⟨by rfl, ?_⟩) ?_ ?_
              rotate_left
              · intro w'
                go_simp
                with_reducible rfl
              rotate_left
              · simp only [Act.put, List.setIfInBounds_toArray, List.set_cons_zero, List.set_cons_succ, i64_w, i32_w]
                rfl
              refine pure_ (i := 7) (N := some 88) (v := ?_) (a' := ?_) #[true, true, true, true, true, false, false, true, false, false, false, false, false, false] rfl rfl (any_of HT_.out (by kernel_rfl)) (fun _ _ _ h => h) (Or.inl ⟨by rfl, ?_⟩) ?_ ?_
              rotate_left
              · intro w'
                go_simp
                with_reducible rfl
              rotate_left
              · simp only [Act.put, List.setIfInBounds_toArray, List.set_cons_zero, List.set_cons_succ, i64_w, i32_w]
                rfl
              refine pure_ (i := 8) (N := some 89) (v := ?_) (a' := ?_) #[true, true, true, true, true, false, false, true, true, false, false, false, false, false] rfl rfl (any_of HT_.out (by kernel_rfl)) (fun _ _ _ h => h) (Or.inl ⟨by rfl, ?_⟩) ?_ ?_
              rotate_left
              · intro w'
                go_simp
                with_reducible rfl
              rotate_left
              · simp only [Act.put, List.setIfInBounds_toArray, List.set_cons_zero, List.set_cons_succ, i64_w, i32_w]
                rfl
              refine pure_ (i := 9) (N := some 90) (v := ?_) (a' := ?_) #[true, true, true, true, true, false, false, true, true, true, false, false, false, false] rfl rfl (any_of HT_.out (by kernel_rfl)) (fun _ _ _ h => h) (Or.inl ⟨by rfl, ?_⟩) ?_ ?_
              rotate_left
              · intro w'
                go_simp
                with_reducible rfl
              rotate_left
              · simp only [Act.put, List.setIfInBounds_toArray, List.set_cons_zero, List.set_cons_succ, i64_w, i32_w]
                rfl
              refine take_ (i := 10) (N := some 91) (v := ?_) (a' := ?_) #[true, true, true, true, true, false, false, true, true, true, true, false, false, false] rfl rfl (take_ofW HT_.out HW_.out (by kernel_rfl)) (fun _ _ _ h => h) (Or.inl ⟨by rfl, ?_⟩) hHeld ?_ ?_
              rotate_left
              · intro w' hSw
                go_simp
                with_reducible rfl
              rotate_left
              · simp only [Act.put, List.setIfInBounds_toArray, List.set_cons_zero, List.set_cons_succ, i64_w, i32_w]
                rfl
              refine one_ (i := 5) (N := some 86) #[true, true, true, true, true, true, false, true, true, true, true, false, false, false] rfl rfl (one_of HT_.out (by kernel_rfl)) (by decide) (fun K hK => ?_)
              refine goes_ Try.func37 (by kernel_rfl) rfl #[.slice none 0 0, .int .u64 m] (by rfl) rfl rfl (by simp only [List.map_toArray, List.map_cons, List.map_nil]; rfl) ?_
              subst hwd
              refine (CP.out _ (below_drew (Below.refl _ _))).mono ?_
              rintro e w9 ⟨v9, rfl, hA⟩
              refine ⟨_, rfl, ?_⟩
              have hcvA := HCV2.out w9 (below_drew_then hA.bel)
              have hcvO := conv_gr (dst := 9) tb Try.underlying5 Try.underlying9 hA.own
              have HBA := Lib.hid (below_then HB3.out (HB3.out).size (below_drew_then hA.bel))
              clear hA
              refine hK.out _ _ (by assumption) (fun hHeld => ?_)
              clear hK K
              refine norm_ (a' := ?_) ?_ ?_
              rotate_left
              · show Act.put _ (some 86) _ = _
                simp only [Act.put, List.setIfInBounds_toArray, List.set_cons_zero, List.set_cons_succ, i64_w, i32_w]
                rfl
              refine one_ (i := 6) (N := some 87) #[true, true, true, true, true, true, true, true, true, true, true, false, false, false] rfl rfl (one_of HT_.out (by kernel_rfl)) (by decide) (fun K hK => ?_)
              refine value_ (w1 := ?_) (v := ?_) (by rfl) rfl ?_ ?_
              rotate_left 2
              · go_simp
                constructor
                · rfl
                · rfl
              refine hK.out _ _ (by assumption) (fun hHeld => ?_)
              clear hK K
              refine norm_ (a' := ?_) ?_ ?_
              rotate_left
              · show Act.put _ (some 87) _ = _
                simp only [Act.put, List.setIfInBounds_toArray, List.set_cons_zero, List.set_cons_succ, i64_w, i32_w]
                rfl
              refine pure_ (i := 11) (N := some 92) (v := ?_) (a' := ?_) #[true, true, true, true, true, true, true, true, true, true, true, true, false, false] rfl rfl (any_of HT_.out (by kernel_rfl)) (fun _ _ _ h => h) (Or.inl ⟨by rfl, ?_⟩) ?_ ?_
              rotate_left
              · intro w'
                go_simp
                with_reducible rfl
              rotate_left
              · simp only [Act.put, List.setIfInBounds_toArray, List.set_cons_zero, List.set_cons_succ, i64_w, i32_w]
                rfl
              refine pure_ (i := 12) (N := some 93) (v := ?_) (a' := ?_) #[true, true, true, true, true, true, true, true, true, true, true, true, true, false] rfl rfl (any_of HT_.out (by kernel_rfl)) (fun _ _ _ h => h) (Or.inl ⟨by rfl, ?_⟩) ?_ ?_
              rotate_left
              · intro w'
                go_simp
                with_reducible rfl
              rotate_left
              · simp only [Act.put, List.setIfInBounds_toArray, List.set_cons_zero, List.set_cons_succ, i64_w, i32_w]
                rfl
              refine pure_ (i := 13) (N := some 2) (v := ?_) (a' := ?_) #[true, true, true, true, true, true, true, true, true, true, true, true, true, true] rfl rfl (any_of HT_.out (by kernel_rfl)) (fun _ _ _ h => h) (Or.inl ⟨by rfl, ?_⟩) ?_ ?_
              rotate_left
              · intro w'
                go_simp
                with_reducible rfl
              rotate_left
              · simp only [Act.put, List.setIfInBounds_toArray, List.set_cons_zero, List.set_cons_succ, i64_w, i32_w]
                rfl
              refine done_ (done_of HT_.out (by kernel_rfl)) ?_
              go_wp2_with fail
              go_ret
              exact ⟨by simp [HP.out], HBA.out⟩
            · rw [if_pos hq] at hf
              rw [hf]
              have hless := Lib.hid (short_8 hq)
              clear hf hspl hq
              go_wp2_with fail
              have hB4 : Below w2.heap.size w2 ((w2.alloc (.cells #[.int .i64 3, .int .i64 5, .int .i64 9] 3)).alloc (.cells #[.int .u64 253, .int .u64 65536, .int .u64 4294967296] 24)) := below_alloc (below_alloc (Below.refl _ _) _) _
              have hr4 := rds_below hr2 hB4
              obtain ⟨ad', e1, hc4⟩ := rds_at 0 hr4 0 (by omega)
              injection e1 with e1
              subst e1
              rw [List.getD_cons_zero, Addr.add_zero'] at hc4
              have hcl : ((w2.alloc (.cells #[.int .i64 3, .int .i64 5, .int .i64 9] 3)).alloc (.cells #[.int .u64 253, .int .u64 65536, .int .u64 4294967296] 24)).cell? { block := w2.heap.size + 1, off := 2 } = some (.int .u64 4294967296) := by
                have h := heap_alloc_new (w2.alloc (.cells #[.int .i64 3, .int .i64 5, .int .i64 9] 3)) (.cells #[.int .u64 253, .int .u64 65536, .int .u64 4294967296] 24)
                have h2 : (w2.alloc (.cells #[.int .i64 3, .int .i64 5, .int .i64 9] 3)).heap.size = w2.heap.size + 1 := by simp
                rw [h2] at h
                exact cell_of_row _ _ 2 _ _ _ h
              have hBW := Lib.hid (below_then HB2.out HB2.out.size hB4)
              have hC4 := HC2.out _ hB4
              generalize (w2.alloc (.cells #[.int .i64 3, .int .i64 5, .int .i64 9] 3)).alloc (.cells #[.int .u64 253, .int .u64 65536, .int .u64 4294967296] 24) = w4 at hBW hC4 hc4 hcl ⊢
              have S1 := Lib.hid (fun N => quiet_left (little_val A2 8 (c - 1) t (w4.drewN N) (rds_drewN hC4 N) HLT.out (by omega) HBT.out))
              rw [List.take_of_length_le (by rw [HLT.out]; omega)] at S1
              have hfin : decide ((leVal t : Int) < 4294967296) = true := by have := hless.out; simp only [decide_eq_true_eq]; omega
              have HFIN := Lib.hid hfin
              clear hr4 hB4 hC4 hc1 hc0 hr2 hb hfin
              generalize leVal t = m at S1 HFIN hv64 hless
              go_quiet (first | (with_reducible exact S1.out _))
              go_wp2_with fail
              go_ret
              exact ⟨ret_bool (by have := HFIN.out; simp only [decide_eq_true_eq] at this; simp <;> omega), below_drewN_ hBW.out _⟩
  · go_wp2_with fail
    go_ret
    exact ⟨rfl, HB1.out⟩
end Go.Proofs.Ytglkagicmolbeaa.Num
