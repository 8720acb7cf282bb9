/- The walk of the law NumGets. -/
import Derived.Test.YtglkagicmolbeaaNum
import Derived.Test.YtglkagicmolbeaaNumPure2
import Derived.Test.YtglkagicmolbeaaStr
import Derived.WalkLawsBesides
import Derived.WalkSpells
import Derived.Test.YtglkagicmolbeaaWTab
namespace Go.Proofs.Ytglkagicmolbeaa.Num
set_option linter.unusedVariables false
set_option linter.unusedSimpArgs false
open Go.Proofs.Ytglkagicmolbeaa.Kit Go.RowKit Go.Proofs.YtglkagicmolbeaaW.PrintWords Go.Proofs.YtglkagicmolbeaaW.PrintLast Go.Proofs.YtglkagicmolbeaaW.PrintMore NumPure

theorem put300 : put7 300 = [172, 2] := by rw [put7_big (by omega), put7_small (by omega)]; rfl
theorem high_succ {l : List Int} {k n x : Nat} (h : High (l.take k)) (hk : k < n) (hl : l.length = n) (hx : l.getD k 0 = (x : Int)) (h1 : 128 ≤ x) (h2 : x < 256) : High (l.take (k + 1)) := by
  rw [List.take_succ_eq_append_getElem (by omega)]
  intro y hy
  rcases List.mem_append.1 hy with hy | hy
  · exact h y hy
  · rcases List.mem_singleton.1 hy with rfl
    rw [List.getD_eq_getElem?_getD, List.getElem?_eq_getElem (by omega)] at hx
    simp only [Option.getD_some] at hx
    omega
theorem split_at {l : List Int} {k n : Nat} {x : Int} (hk : k < n) (hl : l.length = n) (hx : l.getD k 0 = x) : l = l.take k ++ x :: l.drop (k + 1) := by
  have h1 : l[k]'(by omega) = x := by rw [← hx, List.getD_eq_getElem?_getD, List.getElem?_eq_getElem (by omega)]; rfl
  have h2 := List.drop_eq_getElem_cons (l := l) (i := k) (by omega)
  rw [h1] at h2
  rw [← h2, List.take_append_drop]
theorem below_drew_then {w w' : World} (h : Below w.drew.heap.size w.drew w') : Below w.heap.size w w' := ⟨h.os, h.tape, h.output, h.size, h.block⟩
theorem byte_wf {l : List Int} (h : ∀ x ∈ l, (Lit.int .u8 x).wf = true) : Byte l := fun x hx => wf_u8 (h x hx)
def tailracelaw01_NumGets.T18 : Bool × List (List Nat × List Nat) := (true, [([], []), ([], []), ([1], [1]), ([0, 2], [0, 2]), ([3], [3]), ([4], [4]), ([5, 4, 4], [4, 5]), ([6, 4], [4, 6]), ([4], [4]), ([4], [4]), ([8, 9, 4], [4, 8, 9]), ([10, 4], [4, 10]), ([7, 11, 4], [4, 7, 11]), ([4, 12], [4, 12]), ([13, 6, 0, 1, 2, 3, 4, 5, 6, 7, 8, 9, 10, 11, 12, 13], [13])])
def tailracelaw01_NumGets.B18 : List Nat := [0, 0, 2, 7, 15, 31, 63, 127, 31, 31, 799, 1823, 4095, 8191, 16383]
theorem tailracelaw01_NumGets.tab18 : rtab .any (opsOf Try.f3 18) = tailracelaw01_NumGets.T18 := by kernel_rfl
theorem tailracelaw01_NumGets.bits18 : waitsOk tailracelaw01_NumGets.T18.2 tailracelaw01_NumGets.B18 = true := by kernel_rfl
set_option maxRecDepth 20000 in
set_option maxHeartbeats 3200000 in
theorem gets_any (A : Option Addr) (n c : Nat) (l : List Int) (w : World) (hr : Rds .u8 w A n l) (hl : l.length = n) (hm : n * 1 ≤ 140737488351232) (hw : ∀ x ∈ l, (Lit.int .u8 x).wf = true) (hc : n ≤ c) :
    Calls Try.prog 3 #[.slice A n c] w fun e w' => e = .returned (.bool true) ∧ Below w.heap.size w w' := by
  have hb := byte_wf hw
  clear hw
  have HL := Lib.hid hl
  clear hl
  have C300 := Lib.hid (put_any 300 (by omega) (.slice none 0 0) [] w w (own_e_nil _ _ _) (Below.refl _ _) (by simp))
  by_cases g : n ≤ 300
  · go_enter Try.func3, Try.ntmps3
    go_wp2_with fail
    refine C300.out.mono ?_
    rintro e w1 ⟨v1, rfl, hA1⟩
    have ho1 := hA1.own
    rw [List.nil_append, put300] at ho1
    have hcv := conv_own (dst := 9) tb Try.underlying5 Try.underlying9 ho1
    have HB1 := Lib.hid hA1.bel
    have C2 := Lib.hid (get_any A n c l w1 (rds_below hr hA1.bel) HL.out (by omega) hb)
    clear hA1 ho1
    have hs300 : ((strOfNums [172, 2]).toList == ([172, 2] : List UInt8)) = true := by rw [str_list]; rfl
    go_wp2_with fail
    refine C2.out.mono ?_
    rintro e w' ⟨rfl, rfl⟩
    unfold three
    obtain ⟨g1, g2, g3, hg⟩ : ∃ g1 g2 g3, get l = (g1, g2, g3) := ⟨_, _, _, rfl⟩
    rw [hg]
    have HG := Lib.hid hg
    clear hg hcv C2
    have hrb := rds_below hr HB1.out
    clear hr
    go_wp2_with fail
    go_loop [6] (fun i => ∃ k : Nat, k ≤ n ∧ k ≤ 9 ∧ i = .int .i64 k ∧ Hid (High (l.take k))) (fun i => n - (intOf i).toNat)
    case atStart => exact ⟨0, Nat.zero_le _, by omega, rfl, Lib.hid (fun x hx => by simp at hx)⟩
    case round =>
      obtain ⟨k, hk, hk9, rfl, HH⟩ := hrel
      by_cases hlt : k < n
      · obtain ⟨ad, e1, hc'⟩ := rds_at 0 hrb k hlt
        subst e1
        obtain ⟨x, hx, hxl⟩ := getD_nat hb k
        rw [hx] at hc'
        have HX := Lib.hid hx
        have i0 : (0 : Int) ≤ (k : Int) := Int.natCast_nonneg _
        have i1 : (k : Int) < (n : Int) := by omega
        have t0 : decide ((k : Int) < (n : Int)) = true := by simp; omega
        have tne : ((k : Int) == (n : Int)) = false := by simp; omega
        clear hx
        by_cases h9 : k < 9
        · have t1 : decide ((k : Int) < 9) = true := by simp; omega
          by_cases h128 : 128 ≤ x
          · have HH2 : Hid (High (l.take (k + 1))) := Lib.hid (high_succ HH.out hlt HL.out HX.out h128 hxl)
            go_wp2_with fail
            go_round
            case rel => exact ⟨k + 1, by omega, by omega, by go_num, HH2⟩
            case measure => simp [intOf]; omega
          · have hA' : ∃ A', A' = (some ad : Option Addr) := ⟨_, rfl⟩
            have t5 : decide ((128 : Int) ≤ (x : Int)) = false := by simp; omega
            have t6 : ((k : Int) == 9) = false := by simp; omega
            by_cases hz : x = 0 ∧ 0 < k
            · obtain ⟨hz1, hz2⟩ := hz
              have t7 : ((x : Int) == 0) = true := by simp; omega
              have hg := HG.out
              rw [split_at hlt HL.out HX.out] at hg
              rw [NumPure.get_at _ _ _ HH.out (by rw [List.length_take, HL.out]; omega) (by omega)] at hg
              rw [List.length_take, HL.out, show min k n = k by omega] at hg
              rw [if_neg (by omega), if_pos (by omega), if_pos (by omega)] at hg
              clear hz1
              simp only [Prod.mk.injEq] at hg
              obtain ⟨rfl, rfl, rfl⟩ := hg
              go_wp2_with fail
              go_ret
              exact ⟨rfl, HB1.out⟩
            · have hg := HG.out
              rw [split_at hlt HL.out HX.out] at hg
              rw [NumPure.get_at _ _ _ HH.out (by rw [List.length_take, HL.out]; omega) (by omega)] at hg
              rw [List.length_take, HL.out, show min k n = k by omega] at hg
              rw [if_neg (by omega), if_pos (by omega), if_neg (by omega)] at hg
              have hput := put7_read (l.take k) (x : Int) (l.drop (k + 1)) HH.out (by omega) (by omega) (by rw [List.length_take, HL.out]; omega)
              rw [← split_at hlt HL.out HX.out, List.length_take, HL.out, show min k n = k by omega] at hput
              have hv64 := v7_64 (l.take k) (x : Int) (by rw [List.length_take, HL.out]; omega) (by omega) (by rw [List.length_take, HL.out]; omega)
              simp only [Prod.mk.injEq] at hg
              obtain ⟨rfl, rfl, rfl⟩ := hg
              generalize v7 (l.take k ++ [(x : Int)]) = V at hput hv64 ⊢
              have CP := Lib.hid (fun w2 (hB : Below w1.heap.size w1 w2) => put_any V hv64 (.slice none 0 0) [] w2 w2 (own_e_nil _ _ _) (Below.refl _ _) (by simp))
              have HP := Lib.hid hput
              have t3 : decide ((k + 1 : Int) ≤ (n : Int)) = true := by simp; omega
              have hwr : IntKind.i64.wrap ((k : Int) + 1) = (k : Int) + 1 := IntWalk.i64_in _ (by omega)
              have teq : (((k : Int) + 1) == IntKind.i64.wrap ((k : Int) + 1)) = true := by rw [hwr]; simp
              obtain ⟨hcut, hCut⟩ := cut_to (enc := Value.int .u8) (h1 := int_one .u8) 0 tb (some ad) n c (k + 1) (by omega) hc ((k : Int) + 1) (by omega)
              have HCut := Lib.hid hCut
              have hcv2 : ∀ w2, Below w1.heap.size w1 w2 → (convert 22 9 (.slice (some ad) (k + 1) c)).run Try.prog w2 = .ok (.string (strOfNums (l.take (k + 1)))) w2 := fun w2 hB => conv_rds tb Try.underlying5 Try.underlying9 (hCut w2 _ (rds_below hrb hB))
              have HCV2 := Lib.hid hcv2
              clear hput hv64 hCut hcv2
              go_wp2_with fail
              all_goals
                have hcvD := HCV2.out w1.drew (below_drew (Below.refl _ _))
                refine start_ (n := 15) (S := fun w' => (convert 22 9 (.slice (some ad) (k + 1) c)).run Try.prog w' = .ok (.string (strOfNums (l.take (k + 1)))) w') (ds := []) #[false, false, false, false, false, false, false, false, false, false, false, false, false, false, false] (by kernel_rfl) rfl rfl (by assumption) (fun hHeld => ?_); refine with_tabW tailracelaw01_NumGets.tab18 tailracelaw01_NumGets.bits18 (fun HT_ HW_ => ?_)
                generalize hwd : w1.drew = wd at hcvD hHeld ⊢
                refine pure_ (i := 0) (N := some 73) (v := ?_) (a' := ?_) #[true, false, false, false, false, false, false, false, false, false, false, false, false, false, false] rfl rfl (any_of HT_.out (by kernel_rfl)) (fun _ _ _ h => h) (Or.inl ⟨by rfl, ?_⟩) ?_ ?_
                rotate_left
                · intro w'
                  go_simp
                  with_reducible rfl
                rotate_left
                · simp only [Act.put, List.setIfInBounds_toArray, List.set_cons_zero, List.set_cons_succ, i64_w, i32_w]
                  rfl
                refine pure_ (i := 1) (N := some 74) (v := ?_) (a' := ?_) #[true, true, false, false, false, false, false, false, false, false, false, false, false, false, false] rfl rfl (any_of HT_.out (by kernel_rfl)) (fun _ _ _ h => h) (Or.inl ⟨by rfl, ?_⟩) ?_ ?_
                rotate_left
                · intro w'
                  go_simp
                  with_reducible rfl
                rotate_left
                · simp only [Act.put, List.setIfInBounds_toArray, List.set_cons_zero, List.set_cons_succ, i64_w, i32_w]
                  rfl
                refine pure_ (i := 2) (N := some 75) (v := ?_) (a' := ?_) #[true, true, true, false, false, false, false, false, false, false, false, false, false, false, false] rfl rfl (any_of HT_.out (by kernel_rfl)) (fun _ _ _ h => h) (Or.inl ⟨by rfl, ?_⟩) ?_ ?_
                rotate_left
                · intro w'
                  go_simp
                  with_reducible rfl
                rotate_left
                · simp only [Act.put, List.setIfInBounds_toArray, List.set_cons_zero, List.set_cons_succ, i64_w, i32_w]
                  rfl
                refine pure_ (i := 3) (N := some 76) (v := ?_) (a' := ?_) #[true, true, true, true, false, false, false, false, false, false, false, false, false, false, false] rfl rfl (any_of HT_.out (by kernel_rfl)) (fun _ _ _ h => h) (Or.inl ⟨by rfl, ?_⟩) ?_ ?_
                rotate_left
                · intro w'
                  go_simp
                  with_reducible rfl
                rotate_left
                · simp only [Act.put, List.setIfInBounds_toArray, List.set_cons_zero, List.set_cons_succ, i64_w, i32_w]
                  rfl
                refine pure_ (i := 4) (N := some 77) (v := ?_) (a' := ?_) #[true, true, true, true, true, false, false, false, false, false, false, false, false, false, false] rfl rfl (any_of HT_.out (by kernel_rfl)) (fun _ _ _ h => h) (Or.inl ⟨by rfl, ?_⟩) ?_ ?_
                rotate_left
                · intro w'
                  go_simp
                  with_reducible rfl
                rotate_left
                · simp only [Act.put, List.setIfInBounds_toArray, List.set_cons_zero, List.set_cons_succ, i64_w, i32_w]
                  rfl
                refine pure_ (i := 5) (N := some 78) (v := ?_) (a' := ?_) #[true, true, true, true, true, true, false, false, false, false, false, false, false, false, false] rfl rfl (any_of HT_.out (by kernel_rfl)) (fun _ _ _ h => h) (Or.inl ⟨by rfl, ?_⟩) ?_ ?_
                rotate_left
                · intro w'
                  go_simp
                  with_reducible rfl
                rotate_left
                · simp only [Act.put, List.setIfInBounds_toArray, List.set_cons_zero, List.set_cons_succ, i64_w, i32_w]
                  rfl
                refine pure_ (i := 8) (N := some 81) (v := ?_) (a' := ?_) #[true, true, true, true, true, true, false, false, true, false, false, false, false, false, false] rfl rfl (any_of HT_.out (by kernel_rfl)) (fun _ _ _ h => h) (Or.inl ⟨by rfl, ?_⟩) ?_ ?_
                rotate_left
                · intro w'
                  go_simp
                  with_reducible rfl
                rotate_left
                · simp only [Act.put, List.setIfInBounds_toArray, List.set_cons_zero, List.set_cons_succ, i64_w, i32_w]
                  rfl
                refine pure_ (i := 9) (N := some 82) (v := ?_) (a' := ?_) #[true, true, true, true, true, true, false, false, true, true, false, false, false, false, false] rfl rfl (any_of HT_.out (by kernel_rfl)) (fun _ _ _ h => h) (Or.inl ⟨by rfl, ?_⟩) ?_ ?_
                rotate_left
                · intro w'
                  go_simp
                  with_reducible rfl
                rotate_left
                · simp only [Act.put, List.setIfInBounds_toArray, List.set_cons_zero, List.set_cons_succ, i64_w, i32_w]
                  rfl
                refine pure_ (i := 10) (N := some 83) (v := ?_) (a' := ?_) #[true, true, true, true, true, true, false, false, true, true, true, false, false, false, false] rfl rfl (any_of HT_.out (by kernel_rfl)) (fun _ _ _ h => h) (Or.inl ⟨by rfl, ?_⟩) ?_ ?_
                rotate_left
                · intro w'
                  go_simp
                  with_reducible rfl
                rotate_left
                · simp only [Act.put, List.setIfInBounds_toArray, List.set_cons_zero, List.set_cons_succ, i64_w, i32_w]
                  rfl
                refine take_ (i := 11) (N := some 84) (v := ?_) (a' := ?_) #[true, true, true, true, true, true, false, false, true, true, true, true, false, false, false] rfl rfl (take_ofW HT_.out HW_.out (by kernel_rfl)) (fun _ _ _ h => h) (Or.inl ⟨by rfl, ?_⟩) hHeld ?_ ?_
                rotate_left
                · intro w' hSw
                  go_simp
                  with_reducible rfl
                rotate_left
                · simp only [Act.put, List.setIfInBounds_toArray, List.set_cons_zero, List.set_cons_succ, i64_w, i32_w]
                  rfl
                refine one_ (i := 6) (N := some 79) #[true, true, true, true, true, true, true, false, true, true, true, true, false, false, false] rfl rfl (one_of HT_.out (by kernel_rfl)) (by decide) (fun K hK => ?_)
                refine goes_ Try.func15 (by kernel_rfl) rfl #[.slice none 0 0, .int .u64 V] (by rfl) rfl rfl (by simp only [List.map_toArray, List.map_cons, List.map_nil]; rfl) ?_
                subst hwd
                refine (CP.out _ (below_drew (Below.refl _ _))).mono ?_
                rintro e w2 ⟨v2, rfl, hA⟩
                refine ⟨_, rfl, ?_⟩
                have hcvA := HCV2.out w2 (below_drew_then hA.bel)
                have hcvO := conv_own (dst := 9) tb Try.underlying5 Try.underlying9 hA.own
                have HBA := Lib.hid (below_then HB1.out HB1.out.size (below_drew_then hA.bel))
                clear hA
                refine hK.out _ _ (by assumption) (fun hHeld => ?_)
                clear hK K
                refine norm_ (a' := ?_) ?_ ?_
                rotate_left
                · show Act.put _ (some 79) _ = _
                  simp only [Act.put, List.setIfInBounds_toArray, List.set_cons_zero, List.set_cons_succ, i64_w, i32_w]
                  rfl
                refine one_ (i := 7) (N := some 80) #[true, true, true, true, true, true, true, true, true, true, true, true, false, false, false] rfl rfl (one_of HT_.out (by kernel_rfl)) (by decide) (fun K hK => ?_)
                refine value_ (w1 := ?_) (v := ?_) (by rfl) rfl ?_ ?_
                rotate_left 2
                · go_simp
                  constructor
                  · rfl
                  · rfl
                refine hK.out _ _ (by assumption) (fun hHeld => ?_)
                clear hK K
                refine norm_ (a' := ?_) ?_ ?_
                rotate_left
                · show Act.put _ (some 80) _ = _
                  simp only [Act.put, List.setIfInBounds_toArray, List.set_cons_zero, List.set_cons_succ, i64_w, i32_w]
                  rfl
                refine pure_ (i := 12) (N := some 85) (v := ?_) (a' := ?_) #[true, true, true, true, true, true, true, true, true, true, true, true, true, false, false] rfl rfl (any_of HT_.out (by kernel_rfl)) (fun _ _ _ h => h) (Or.inl ⟨by rfl, ?_⟩) ?_ ?_
                rotate_left
                · intro w'
                  go_simp
                  with_reducible rfl
                rotate_left
                · simp only [Act.put, List.setIfInBounds_toArray, List.set_cons_zero, List.set_cons_succ, i64_w, i32_w]
                  rfl
                refine pure_ (i := 13) (N := some 86) (v := ?_) (a' := ?_) #[true, true, true, true, true, true, true, true, true, true, true, true, true, true, false] rfl rfl (any_of HT_.out (by kernel_rfl)) (fun _ _ _ h => h) (Or.inl ⟨by rfl, ?_⟩) ?_ ?_
                rotate_left
                · intro w'
                  go_simp
                  with_reducible rfl
                rotate_left
                · simp only [Act.put, List.setIfInBounds_toArray, List.set_cons_zero, List.set_cons_succ, i64_w, i32_w]
                  rfl
                refine pure_ (i := 14) (N := some 2) (v := ?_) (a' := ?_) #[true, true, true, true, true, true, true, true, true, true, true, true, true, true, true] rfl rfl (any_of HT_.out (by kernel_rfl)) (fun _ _ _ h => h) (Or.inl ⟨by rfl, ?_⟩) ?_ ?_
                rotate_left
                · intro w'
                  go_simp
                  with_reducible rfl
                rotate_left
                · simp only [Act.put, List.setIfInBounds_toArray, List.set_cons_zero, List.set_cons_succ, i64_w, i32_w]
                  rfl
                refine done_ (done_of HT_.out (by kernel_rfl)) ?_
                go_wp2_with fail
                go_ret
                exact ⟨by simp [HP.out], HBA.out⟩
        · have hk9e : k = 9 := by omega
          have t1 : decide ((k : Int) < 9) = false := by simp; omega
          have t6 : ((k : Int) == 9) = true := by simp; omega
          have i9 : (9 : Int) < (n : Int) := by omega
          have hc9 : w1.cell? { block := ad.block, off := ad.off + 9 } = some (.int .u8 x) := by subst hk9e; exact hc'
          have HK9 := Lib.hid hk9e
          clear hk9e
          have hA' : ∃ A', A' = (some ad : Option Addr) := ⟨_, rfl⟩
          by_cases hz : 1 < x ∨ x = 0
          · have hg := HG.out
            rw [split_at hlt HL.out HX.out] at hg
            rw [NumPure.get_at _ _ _ HH.out (by rw [List.length_take, HL.out]; omega) (by omega)] at hg
            rw [List.length_take, HL.out, show min k n = k by omega] at hg
            have hg2 : ((0 : Nat), (0 : Nat), (2 : Nat)) = (g1, g2, g3) := by
              rcases hz with hz | hz
              · rw [if_pos (by have := HK9.out; omega)] at hg
                exact hg
              · rw [if_neg (by omega), if_pos (by omega), if_pos (by have := HK9.out; omega)] at hg
                exact hg
            simp only [Prod.mk.injEq] at hg2
            obtain ⟨rfl, rfl, rfl⟩ := hg2
            clear hg
            have t0k : decide ((0 : Int) < (k : Int)) = true := by have := HK9.out; simp; omega
            rcases hz with hz | hz
            · have t9 : decide ((1 : Int) < (x : Int)) = true := by simp; omega
              go_wp2_with fail
              go_ret
              exact ⟨rfl, HB1.out⟩
            · have t9 : decide ((1 : Int) < (x : Int)) = false := by simp; omega
              have t7 : ((x : Int) == 0) = true := by simp; omega
              go_wp2_with fail
              go_ret
              exact ⟨rfl, HB1.out⟩
          · have hx1 := Lib.hid (show x = 1 by omega)
            have t9 : decide ((1 : Int) < (x : Int)) = false := by simp; omega
            have t7 : ((x : Int) == 0) = false := by simp; omega
            have hg := HG.out
            rw [split_at hlt HL.out HX.out] at hg
            rw [NumPure.get_at _ _ _ HH.out (by rw [List.length_take, HL.out]; omega) (by omega)] at hg
            rw [List.length_take, HL.out, show min k n = k by omega] at hg
            rw [if_neg (by have := hx1.out; omega), if_pos (by have := hx1.out; omega), if_neg (by have := hx1.out; omega)] at hg
            have hput := put7_read (l.take k) (x : Int) (l.drop (k + 1)) HH.out (by omega) (by omega) (by rw [List.length_take, HL.out]; omega)
            rw [← split_at hlt HL.out HX.out, List.length_take, HL.out, show min k n = k by omega] at hput
            have hv64 := v7_64 (l.take k) (x : Int) (by rw [List.length_take, HL.out]; omega) (by omega) (by rw [List.length_take, HL.out]; omega)
            simp only [Prod.mk.injEq] at hg
            obtain ⟨rfl, rfl, rfl⟩ := hg
            generalize v7 (l.take k ++ [(x : Int)]) = V at hput hv64 ⊢
            have CP := Lib.hid (fun w2 (hB : Below w1.heap.size w1 w2) => put_any V hv64 (.slice none 0 0) [] w2 w2 (own_e_nil _ _ _) (Below.refl _ _) (by simp))
            have HP := Lib.hid hput
            have t3 : decide ((k + 1 : Int) ≤ (n : Int)) = true := by simp; omega
            have hwr : IntKind.i64.wrap ((k : Int) + 1) = (k : Int) + 1 := IntWalk.i64_in _ (by omega)
            have teq : (((k : Int) + 1) == IntKind.i64.wrap ((k : Int) + 1)) = true := by rw [hwr]; simp
            obtain ⟨hcut, hCut⟩ := cut_to (enc := Value.int .u8) (h1 := int_one .u8) 0 tb (some ad) n c (k + 1) (by omega) hc ((k : Int) + 1) (by omega)
            have HCut := Lib.hid hCut
            have hcv2 : ∀ w2, Below w1.heap.size w1 w2 → (convert 22 9 (.slice (some ad) (k + 1) c)).run Try.prog w2 = .ok (.string (strOfNums (l.take (k + 1)))) w2 := fun w2 hB => conv_rds tb Try.underlying5 Try.underlying9 (hCut w2 _ (rds_below hrb hB))
            have HCV2 := Lib.hid hcv2
            clear hput hv64 hCut hcv2
            go_wp2_with fail
            all_goals
              have hcvD := HCV2.out w1.drew (below_drew (Below.refl _ _))
              refine start_ (n := 15) (S := fun w' => (convert 22 9 (.slice (some ad) (k + 1) c)).run Try.prog w' = .ok (.string (strOfNums (l.take (k + 1)))) w') (ds := []) #[false, false, false, false, false, false, false, false, false, false, false, false, false, false, false] (by kernel_rfl) rfl rfl (by assumption) (fun hHeld => ?_); refine with_tabW tailracelaw01_NumGets.tab18 tailracelaw01_NumGets.bits18 (fun HT_ HW_ => ?_)
              generalize hwd : w1.drew = wd at hcvD hHeld ⊢
              refine pure_ (i := 0) (N := some 73) (v := ?_) (a' := ?_) #[true, false, false, false, false, false, false, false, false, false, false, false, false, false, false] rfl rfl (any_of HT_.out (by kernel_rfl)) (fun _ _ _ h => h) (Or.inl ⟨by rfl, ?_⟩) ?_ ?_
              rotate_left
              · intro w'
                go_simp
                with_reducible rfl
              rotate_left
              · simp only [Act.put, List.setIfInBounds_toArray, List.set_cons_zero, List.set_cons_succ, i64_w, i32_w]
                rfl
              refine pure_ (i := 1) (N := some 74) (v := ?_) (a' := ?_) #[true, true, false, false, false, false, false, false, false, false, false, false, false, false, false] rfl rfl (any_of HT_.out (by kernel_rfl)) (fun _ _ _ h => h) (Or.inl ⟨by rfl, ?_⟩) ?_ ?_
              rotate_left
              · intro w'
                go_simp
                with_reducible rfl
              rotate_left
              · simp only [Act.put, List.setIfInBounds_toArray, List.set_cons_zero, List.set_cons_succ, i64_w, i32_w]
                rfl
              refine pure_ (i := 2) (N := some 75) (v := ?_) (a' := ?_) #[true, true, true, false, false, false, false, false, false, false, false, false, false, false, false] rfl rfl (any_of HT_.out (by kernel_rfl)) (fun _ _ _ h => h) (Or.inl ⟨by rfl, ?_⟩) ?_ ?_
              rotate_left
              · intro w'
                go_simp
                with_reducible rfl
              rotate_left
              · simp only [Act.put, List.setIfInBounds_toArray, List.set_cons_zero, List.set_cons_succ, i64_w, i32_w]
                rfl
              refine pure_ (i := 3) (N := some 76) (v := ?_) (a' := ?_) #[true, true, true, true, false, false, false, false, false, false, false, false, false, false, false] rfl rfl (any_of HT_.out (by kernel_rfl)) (fun _ _ _ h => h) (Or.inl ⟨by rfl, ?_⟩) ?_ ?_
              rotate_left
              · intro w'
                go_simp
                with_reducible rfl
              rotate_left
              · simp only [Act.put, List.setIfInBounds_toArray, List.set_cons_zero, List.set_cons_succ, i64_w, i32_w]
                rfl
              refine pure_ (i := 4) (N := some 77) (v := ?_) (a' := ?_) #[true, true, true, true, true, false, false, false, false, false, false, false, false, false, false] rfl rfl (any_of HT_.out (by kernel_rfl)) (fun _ _ _ h => h) (Or.inl ⟨by rfl, ?_⟩) ?_ ?_
              rotate_left
              · intro w'
                go_simp
                with_reducible rfl
              rotate_left
              · simp only [Act.put, List.setIfInBounds_toArray, List.set_cons_zero, List.set_cons_succ, i64_w, i32_w]
                rfl
              refine pure_ (i := 5) (N := some 78) (v := ?_) (a' := ?_) #[true, true, true, true, true, true, false, false, false, false, false, false, false, false, false] rfl rfl (any_of HT_.out (by kernel_rfl)) (fun _ _ _ h => h) (Or.inl ⟨by rfl, ?_⟩) ?_ ?_
              rotate_left
              · intro w'
                go_simp
                with_reducible rfl
              rotate_left
              · simp only [Act.put, List.setIfInBounds_toArray, List.set_cons_zero, List.set_cons_succ, i64_w, i32_w]
                rfl
              refine pure_ (i := 8) (N := some 81) (v := ?_) (a' := ?_) #[true, true, true, true, true, true, false, false, true, false, false, false, false, false, false] rfl rfl (any_of HT_.out (by kernel_rfl)) (fun _ _ _ h => h) (Or.inl ⟨by rfl, ?_⟩) ?_ ?_
              rotate_left
              · intro w'
                go_simp
                with_reducible rfl
              rotate_left
              · simp only [Act.put, List.setIfInBounds_toArray, List.set_cons_zero, List.set_cons_succ, i64_w, i32_w]
                rfl
              refine pure_ (i := 9) (N := some 82) (v := ?_) (a' := ?_) #[true, true, true, true, true, true, false, false, true, true, false, false, false, false, false] rfl rfl (any_of HT_.out (by kernel_rfl)) (fun _ _ _ h => h) (Or.inl ⟨by rfl, ?_⟩) ?_ ?_
              rotate_left
              · intro w'
                go_simp
                with_reducible rfl
              rotate_left
              · simp only [Act.put, List.setIfInBounds_toArray, List.set_cons_zero, List.set_cons_succ, i64_w, i32_w]
                rfl
              refine pure_ (i := 10) (N := some 83) (v := ?_) (a' := ?_) #[true, true, true, true, true, true, false, false, true, true, true, false, false, false, false] rfl rfl (any_of HT_.out (by kernel_rfl)) (fun _ _ _ h => h) (Or.inl ⟨by rfl, ?_⟩) ?_ ?_
              rotate_left
              · intro w'
                go_simp
                with_reducible rfl
              rotate_left
              · simp only [Act.put, List.setIfInBounds_toArray, List.set_cons_zero, List.set_cons_succ, i64_w, i32_w]
                rfl
              refine take_ (i := 11) (N := some 84) (v := ?_) (a' := ?_) #[true, true, true, true, true, true, false, false, true, true, true, true, false, false, false] rfl rfl (take_ofW HT_.out HW_.out (by kernel_rfl)) (fun _ _ _ h => h) (Or.inl ⟨by rfl, ?_⟩) hHeld ?_ ?_
              rotate_left
              · intro w' hSw
                go_simp
                with_reducible rfl
              rotate_left
              · simp only [Act.put, List.setIfInBounds_toArray, List.set_cons_zero, List.set_cons_succ, i64_w, i32_w]
                rfl
              refine one_ (i := 6) (N := some 79) #[true, true, true, true, true, true, true, false, true, true, true, true, false, false, false] rfl rfl (one_of HT_.out (by kernel_rfl)) (by decide) (fun K hK => ?_)
              refine goes_ Try.func15 (by kernel_rfl) rfl #[.slice none 0 0, .int .u64 V] (by rfl) rfl rfl (by simp only [List.map_toArray, List.map_cons, List.map_nil]; rfl) ?_
              subst hwd
              refine (CP.out _ (below_drew (Below.refl _ _))).mono ?_
              rintro e w2 ⟨v2, rfl, hA⟩
              refine ⟨_, rfl, ?_⟩
              have hcvA := HCV2.out w2 (below_drew_then hA.bel)
              have hcvO := conv_own (dst := 9) tb Try.underlying5 Try.underlying9 hA.own
              have HBA := Lib.hid (below_then HB1.out HB1.out.size (below_drew_then hA.bel))
              clear hA
              refine hK.out _ _ (by assumption) (fun hHeld => ?_)
              clear hK K
              refine norm_ (a' := ?_) ?_ ?_
              rotate_left
              · show Act.put _ (some 79) _ = _
                simp only [Act.put, List.setIfInBounds_toArray, List.set_cons_zero, List.set_cons_succ, i64_w, i32_w]
                rfl
              refine one_ (i := 7) (N := some 80) #[true, true, true, true, true, true, true, true, true, true, true, true, false, false, false] rfl rfl (one_of HT_.out (by kernel_rfl)) (by decide) (fun K hK => ?_)
              refine value_ (w1 := ?_) (v := ?_) (by rfl) rfl ?_ ?_
              rotate_left 2
              · go_simp
                constructor
                · rfl
                · rfl
              refine hK.out _ _ (by assumption) (fun hHeld => ?_)
              clear hK K
              refine norm_ (a' := ?_) ?_ ?_
              rotate_left
              · show Act.put _ (some 80) _ = _
                simp only [Act.put, List.setIfInBounds_toArray, List.set_cons_zero, List.set_cons_succ, i64_w, i32_w]
                rfl
              refine pure_ (i := 12) (N := some 85) (v := ?_) (a' := ?_) #[true, true, true, true, true, true, true, true, true, true, true, true, true, false, false] rfl rfl (any_of HT_.out (by kernel_rfl)) (fun _ _ _ h => h) (Or.inl ⟨by rfl, ?_⟩) ?_ ?_
              rotate_left
              · intro w'
                go_simp
                with_reducible rfl
              rotate_left
              · simp only [Act.put, List.setIfInBounds_toArray, List.set_cons_zero, List.set_cons_succ, i64_w, i32_w]
                rfl
              refine pure_ (i := 13) (N := some 86) (v := ?_) (a' := ?_) #[true, true, true, true, true, true, true, true, true, true, true, true, true, true, false] rfl rfl (any_of HT_.out (by kernel_rfl)) (fun _ _ _ h => h) (Or.inl ⟨by rfl, ?_⟩) ?_ ?_
              rotate_left
              · intro w'
                go_simp
                with_reducible rfl
              rotate_left
              · simp only [Act.put, List.setIfInBounds_toArray, List.set_cons_zero, List.set_cons_succ, i64_w, i32_w]
                rfl
              refine pure_ (i := 14) (N := some 2) (v := ?_) (a' := ?_) #[true, true, true, true, true, true, true, true, true, true, true, true, true, true, true] rfl rfl (any_of HT_.out (by kernel_rfl)) (fun _ _ _ h => h) (Or.inl ⟨by rfl, ?_⟩) ?_ ?_
              rotate_left
              · intro w'
                go_simp
                with_reducible rfl
              rotate_left
              · simp only [Act.put, List.setIfInBounds_toArray, List.set_cons_zero, List.set_cons_succ, i64_w, i32_w]
                rfl
              refine done_ (done_of HT_.out (by kernel_rfl)) ?_
              go_wp2_with fail
              go_ret
              exact ⟨by simp [HP.out], HBA.out⟩
      · obtain rfl : k = n := by omega
        have hg := HG.out
        rw [get_short l (by have := HH.out; rwa [List.take_of_length_le (by rw [HL.out]; omega)] at this) (by rw [HL.out]; omega)] at hg
        simp only [Prod.mk.injEq] at hg
        obtain ⟨rfl, rfl, rfl⟩ := hg
        go_wp2_with fail
        go_ret
        exact ⟨rfl, HB1.out⟩
  · go_enter Try.func3, Try.ntmps3
    go_wp2_with fail
    refine C300.out.mono ?_
    rintro e w1 ⟨v1, rfl, hA1⟩
    have ho1 := hA1.own
    rw [List.nil_append, put300] at ho1
    have hcv := conv_own (dst := 9) tb Try.underlying5 Try.underlying9 ho1
    have HB1 := Lib.hid hA1.bel
    clear hA1 ho1
    have hs300 : ((strOfNums [172, 2]).toList == ([172, 2] : List UInt8)) = true := by rw [str_list]; rfl
    go_wp2_with fail
    go_ret
    exact ⟨rfl, HB1.out⟩
end Go.Proofs.Ytglkagicmolbeaa.Num
