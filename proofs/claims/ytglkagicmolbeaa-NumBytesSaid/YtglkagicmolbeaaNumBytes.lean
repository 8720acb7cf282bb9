/- The walk of the law NumBytes. -/
import Derived.Test.YtglkagicmolbeaaNumHead
import Derived.Test.YtglkagicmolbeaaWalk
namespace Go.Proofs.Ytglkagicmolbeaa.Num
set_option linter.unusedVariables false
set_option linter.unusedSimpArgs false
open Go.Proofs.Ytglkagicmolbeaa.Kit Go.RowKit Go.Proofs.YtglkagicmolbeaaW.PrintWords Go.Proofs.YtglkagicmolbeaaW.PrintLast Go.Proofs.YtglkagicmolbeaaW.PrintMore NumPure
theorem take_snoc' {l : List Int} {k n : Nat} (hk : k < n) (hl : l.length = n) : l.take (k + 1) = l.take k ++ [l.getD k 0] := by
  rw [List.take_succ_eq_append_getElem (by omega), List.getD_eq_getElem?_getD, List.getElem?_eq_getElem (by omega)]
  rfl
theorem pow256_7 (j : Nat) (h : j ≤ 7) : 256 ^ j ≤ 72057594037927936 := by
  have h2 : 256 ^ j ≤ 256 ^ 7 := Nat.pow_le_pow_right (by omega) h
  have h3 : 256 ^ 7 = 72057594037927936 := by decide
  omega
theorem le_at (V s i : Nat) (h : i < s) : ([97] ++ le V s).getD (1 + i) 0 = ((V / 256 ^ i % 256 : Nat) : Int) := by
  rw [List.getD_eq_getElem?_getD, List.singleton_append, show 1 + i = i + 1 by omega, List.getElem?_cons_succ]
  simp [le, h]
theorem be_at (V s i : Nat) (h : i < s) : ([97] ++ be V s).getD (s - i) 0 = ((V / 256 ^ i % 256 : Nat) : Int) := by
  rw [List.getD_eq_getElem?_getD, List.singleton_append, show s - i = (s - 1 - i) + 1 by omega, List.getElem?_cons_succ, be, List.getElem?_reverse (by rw [le_length]; omega), le_length, show s - 1 - (s - 1 - i) = i by omega]
  simp [le, h]
structure AddRel (t : List Int) (k j lo hi : Nat) : Prop where
  lo : lo = leVal (t.drop (k - j))
  hi : hi = beVal (t.take j)
theorem mul_add_u64 (q x : Nat) (hq : q < 72057594037927936) (hx : x < 256) : ((q * 256 + x : Nat) : Int) = (q : Int) * 256 + (x : Int) := by omega
theorem reg_10_13 : RegOk (opsOf Try.f10 13) [[], [0], [], [0, 1, 2], [0, 1, 2, 3], [0, 1, 2, 3, 4], [0, 1, 2, 3, 4, 5], [0, 1, 2, 3, 4], [0, 1, 2, 3, 4, 5, 6, 7], [0, 1, 2, 3, 4, 5, 6, 7, 8], [0, 1, 2, 3, 4, 5, 6, 7, 8, 9], [0, 1, 2, 3, 4, 5, 6, 7, 8, 9, 10], [0, 1, 2, 3, 4, 5, 6, 7, 8, 9, 10], [0, 1, 2, 3, 4, 5, 6, 7, 8, 9, 10, 11, 12], [0, 1, 2, 3, 4, 5, 6, 7, 8, 9, 10, 11, 12, 13], [0, 1, 2, 3, 4, 5, 6, 7, 8, 9, 10], [0, 1, 2, 3, 4, 5, 6, 7, 8, 9, 10], [0, 1, 2, 3, 4, 5, 6, 7, 8, 9, 10, 15, 16], [0, 1, 2, 3, 4, 5, 6, 7, 8, 9, 10, 15, 16, 17], [0, 1, 2, 3, 4, 5, 6, 7, 8, 9, 10, 11, 12, 13, 14, 15, 16, 17, 18], [0, 1, 2, 3, 4, 5, 6, 7, 8, 9, 10, 11, 12, 13, 14, 15, 16, 17, 18, 19], [0, 1, 2, 3, 4, 5, 6, 7, 8, 9, 10, 11, 12, 13, 14, 15, 16, 17, 18, 19, 20], [0, 1, 2, 3, 4, 5, 6, 7, 8, 9, 10, 11, 12, 13, 14, 15, 16, 17, 18, 19, 20, 21], [0, 1, 2, 3, 4, 5, 6, 7, 8, 9, 10, 11, 12, 13, 14, 15, 16, 17, 18, 19, 20, 21], [0, 1, 2, 3, 4, 5, 6, 7, 8, 9, 10, 11, 12, 13, 14, 15, 16, 17, 18, 19, 20, 21, 22, 23], [0, 1, 2, 3, 4, 5, 6, 7, 8, 9, 10, 11, 12, 13, 14, 15, 16, 17, 18, 19, 20, 21, 22, 23, 24], [0, 1, 2, 3, 4, 5, 6, 7, 8, 9, 10, 11, 12, 13, 14, 15, 16, 17, 18, 19, 20, 21], [0, 1, 2, 3, 4, 5, 6, 7, 8, 9, 10, 11, 12, 13, 14, 15, 16, 17, 18, 19, 20, 21], [0, 1, 2, 3, 4, 5, 6, 7, 8, 9, 10, 11, 12, 13, 14, 15, 16, 17, 18, 19, 20, 21, 26, 27], [0, 1, 2, 3, 4, 5, 6, 7, 8, 9, 10, 11, 12, 13, 14, 15, 16, 17, 18, 19, 20, 21, 26, 27, 28], [0, 1, 2, 3, 4, 5, 6, 7, 8, 9, 10, 11, 12, 13, 14, 15, 16, 17, 18, 19, 20, 21, 22, 23, 24, 25, 26, 27, 28, 29], [0, 1, 2, 3, 4, 5, 6, 7, 8, 9, 10, 11, 12, 13, 14, 15, 16, 17, 18, 19, 20, 21, 22, 23, 24, 25, 26, 27, 28, 29, 30]] [] [some 48, some 49, some 50, some 51, some 52, some 53, some 54, some 55, some 56, some 57, some 58, some 59, some 60, some 61, some 62, some 63, some 64, some 65, some 66, some 67, some 68, some 69, some 70, some 71, some 72, some 73, some 74, some 75, some 76, some 77, some 78, some 79] := regOk (by kernel_rfl)
set_option maxRecDepth 20000 in
set_option maxHeartbeats 3200000 in
theorem bytes_any (A : Option Addr) (n c : Nat) (l : List Int) (N sz : Int) (w : World) (hr : Rds .u8 w A n l) (hl : l.length = n) (hm : n * 1 ≤ 140737488351232) (hw : ∀ x ∈ l, (Lit.int .u8 x).wf = true) (hc : n ≤ c) (hN : (Lit.int .u64 N).wf = true) (hsz : (Lit.int .i64 sz).wf = true) :
    Calls Try.prog 10 #[.slice A n c, .int .u64 N, .int .i64 sz] w fun e w' => e = .returned (.bool true) ∧ Below w.heap.size w w' := by
  have hb := byte_wf hw
  obtain ⟨hN0, hN1⟩ := wf_u64 hN
  obtain ⟨V, rfl⟩ : ∃ V : Nat, N = (V : Int) := ⟨N.toNat, by omega⟩
  have hV : V < 18446744073709551616 := by omega
  have HV := Lib.hid hV
  have HB := Lib.hid hb
  have HR := Lib.hid hr
  have HL := Lib.hid hl
  have HSZ := Lib.hid (wf_i64 hsz)
  clear hN hN0 hN1 hV hb hw hr hl hsz
  have C0 := Lib.hid (head_any w)
  go_enter Try.func10, Try.ntmps10
  go_wp2_with fail
  refine C0.out.mono ?_
  rintro e w1 ⟨rfl, hb1⟩
  have HW1 := Lib.hid hb1
  clear hb1 C0
  rcases Nat.lt_or_ge 300 n with g | g
  · have t1 : decide ((300 : Int) < (n : Int)) = true := decide_eq_true (by omega)
    go_wp2_with fail
    go_ret
    exact ⟨rfl, HW1.out⟩
  have t1 : decide ((300 : Int) < (n : Int)) = false := decide_eq_false (by omega)
  have hmin : ∀ W : World, (Builtin.min_ #[3, 3] 3 #[.int .i64 (n : Int), .int .i64 8]).run Try.prog W = .ok (.int .i64 ((min n 8 : Nat) : Int)) W := fun W => by rw [run_min2, show (8 : Int) = ((8 : Nat) : Int) from rfl, mn_nat]
  have hT : Hid ((l.take 8).length = min n 8) := Lib.hid (by rw [List.length_take, HL.out]; omega)
  have HG : Hid (∀ k, k < min n 8 → l.getD k 0 = (l.take 8).getD k 0) := Lib.hid (fun k hk => by
    rw [List.getD_eq_getElem?_getD, List.getD_eq_getElem?_getD, List.getElem?_take, if_pos (by omega)])
  have HBT := Lib.hid (HB.out.take 8)
  have hk8 : min n 8 ≤ 8 := by omega
  have hkn : min n 8 ≤ n := by omega
  have HTT : Hid (l.take (min n 8) = l.take 8) := Lib.hid (by
    rcases Nat.le_total n 8 with h | h
    · rw [Nat.min_eq_left h, List.take_of_length_le (by rw [HL.out]; omega), List.take_of_length_le (by rw [HL.out]; omega)]
    · rw [Nat.min_eq_right h])
  have CL := Lib.hid (fun wq (h : Below w.heap.size w wq) => pureB (little_val A n c l wq (rds_below HR.out h) HL.out (by omega) HB.out))
  have CB := Lib.hid (fun wq (h : Below w.heap.size w wq) => pureB (big_val A n c l wq (rds_below HR.out h) HL.out (by omega) hc HB.out))
  generalize hkk : min n 8 = k at hmin hT HG hk8 hkn HTT
  clear hkk
  generalize l.take 8 = t at hT HG HBT HTT CL CB
  clear g
  go_wp2_with fail
  have hR0 : AddRel t k 0 0 0 := ⟨by rw [Nat.sub_zero, List.drop_eq_nil_of_le (by rw [hT.out]; omega)]; rfl, rfl⟩
  go_loop [8, 9, 10] (fun lo hi i => ∃ j p q : Nat, j ≤ k ∧ i = .int .i64 j ∧ lo = .int .u64 p ∧ hi = .int .u64 q ∧ AddRel t k j p q) (fun _ _ i => k - (intOf i).toNat)
  case atStart => exact ⟨0, 0, 0, Nat.zero_le _, rfl, rfl, rfl, hR0⟩
  case round =>
    obtain ⟨j, p, q, hj, rfl, rfl, rfl, hrel⟩ := hrel
    clear hR0
    by_cases hlt : j < k
    · have t2 : decide ((j : Int) < (k : Int)) = true := decide_eq_true (by omega)
      obtain ⟨ad, e1, hc1⟩ := rds_at 0 (rds_below HR.out HW1.out) j (by omega)
      subst e1
      obtain ⟨ad', e1, hc2⟩ := rds_at 0 (rds_below HR.out HW1.out) (k - 1 - j) (by omega)
      injection e1 with e1
      subst e1
      rw [HG.out _ hlt] at hc1
      rw [HG.out _ (by omega)] at hc2
      obtain ⟨x, hx, hxl⟩ := getD_nat HBT.out j
      obtain ⟨y, hy, hyl⟩ := getD_nat HBT.out (k - 1 - j)
      have hbe := beVal_take t j (by rw [hT.out]; omega)
      have hle := leVal_drop t (k - 1 - j) (by rw [hT.out]; omega)
      rw [hx, Int.toNat_natCast, ← hrel.hi] at hbe
      rw [show k - 1 - j + 1 = k - j by omega, hy, Int.toNat_natCast, ← hrel.lo] at hle
      have hq : q < 72057594037927936 := by
        rw [hrel.hi]
        have h1 := beVal_lt (HBT.out.take j)
        have h2 := pow256_7 j (by omega)
        rw [List.length_take, hT.out, Nat.min_eq_left (by omega)] at h1
        omega
      have hp : p < 72057594037927936 := by
        rw [hrel.lo]
        have h1 := leVal_lt (HBT.out.drop (k - j))
        have h2 := pow256_7 j (by omega)
        rw [List.length_drop, hT.out, show k - (k - j) = j by omega] at h1
        omega
      have hR1 : AddRel t k (j + 1) (p * 256 + y) (q * 256 + x) := ⟨by rw [show k - (j + 1) = k - 1 - j by omega, hle]; omega, by rw [hbe]⟩
      rw [hx] at hc1
      rw [hy] at hc2
      have HQ := Lib.hid (mul_add_u64 q x hq hxl)
      have HP := Lib.hid (mul_add_u64 p y hp hyl)
      have HI : Hid (((k - 1 - j : Nat) : Int) = (k : Int) - 1 - (j : Int)) := Lib.hid (by omega)
      have i0 : (0 : Int) ≤ (j : Int) := by omega
      have i1 : (j : Int) < (n : Int) := by omega
      have i2 : (0 : Int) ≤ (k : Int) - 1 - (j : Int) := by omega
      have i3 : (k : Int) - 1 - (j : Int) < (n : Int) := by omega
      have hti : ((k : Int) - 1 - (j : Int)).toNat = k - 1 - j := by omega
      clear hx hy hbe hle hrel
      go_wp2_with fail
      exact ⟨⟨j + 1, _, _, by omega, by go_num, by rw [HP.out], by rw [HQ.out], hR1⟩, by simp [intOf]; omega⟩
    · obtain rfl : j = k := by omega
      have t2 : decide ((j : Int) < (j : Int)) = false := by simp
      obtain ⟨hlo, hhi⟩ := hrel
      rw [Nat.sub_self, List.drop_zero] at hlo
      rw [List.take_of_length_le (by rw [hT.out]; omega)] at hhi
      subst hlo hhi
      obtain ⟨hcut, hCut⟩ := cut_to (enc := Value.int .u8) (h1 := int_one .u8) 0 tb A n c j hkn hc (j : Int) rfl
      have HCut : Hid (∀ wq, Below w.heap.size w wq → Rds .u8 wq A j t) := Lib.hid (fun wq h => by
        have := hCut wq _ (rds_below HR.out h)
        rwa [HTT.out] at this)
      have h64 : (256 : Nat) ^ 8 = 18446744073709551616 := by decide
      have hle8 : 256 ^ t.length ≤ 256 ^ 8 := Nat.pow_le_pow_right (by omega) (by rw [hT.out]; exact hk8)
      have hpv : leVal t < 18446744073709551616 := by have := leVal_lt HBT.out; omega
      have hqv : beVal t < 18446744073709551616 := by have := beVal_lt HBT.out; omega
      have CPL := Lib.hid (fun v xs w0 w a b c => putLittle_any (leVal t) (j : Int) hpv v xs w0 w a b c)
      have CPB := Lib.hid (fun v xs w0 w a b c => putBig_any (beVal t) (j : Int) hqv v xs w0 w a b c)
      have EL : Hid (le (leVal t) (min (Int.toNat (j : Int)) 8) = t) := Lib.hid (by rw [Int.toNat_natCast, Nat.min_eq_left hk8, ← hT.out]; exact le_leVal t HBT.out)
      have EB : Hid (be (beVal t) (min (Int.toNat (j : Int)) 8) = t) := Lib.hid (by rw [Int.toNat_natCast, Nat.min_eq_left hk8, ← hT.out]; exact be_beVal t HBT.out)
      clear hCut h64 hle8 hpv hqv
      go_upto_region 13 with fail
      refine draws_ (fun wq => Below w1.heap.size w1 wq) (fun _ => True) (by kernel_rfl) reg_10_13 rfl (fun _ _ h k => below_then h h.size k) (fun _ _ _ _ => trivial) (below_drew (Below.refl _ _)) trivial ?_
      refine w_move (.inl rfl) (fun vs w hK => ⟨wants_none rfl, rho_out rfl rfl⟩) ?_
      refine w_call [(48, _)] _ _ (by decide) (fun vs w hK => ⟨wants_none rfl, rho_in rfl (fv (hK 0 (by decide))), trivial⟩) rfl rfl Try.func39 (by kernel_rfl) rfl (fun wq hI => CL.out wq (below_then HW1.out HW1.out.size hI)) (by first | (simp only [List.map_toArray, List.map_cons, List.map_nil]; done) | (simp only [List.map_toArray, List.map_cons, List.map_nil]; rfl)) ?_
      refine w_move (.inl rfl) (fun vs w hK => ⟨wants_none rfl, rho_out rfl rfl⟩) ?_
      refine w_val [(49, _), (50, _)] (_) (fun vs w hK => ⟨wants_none rfl, rho_in rfl (fv (hK 1 (by decide))), rho_in rfl (fv (hK 2 (by decide))), trivial⟩) rfl (fun wq hI => by exact run_int_neq (r := false) rfl rfl rfl (by simp)) ?_
      refine w_move (.inl rfl) (fun vs w hK => ⟨wants_none rfl, rho_in rfl (fv (hK 3 (by decide)))⟩) ?_
      refine w_move (.inl rfl) (fun vs w hK => ⟨wants_g rfl (fv (hK 4 (by decide))), rho_out rfl rfl⟩) ?_
      refine w_call [(53, _)] _ _ (by decide) (fun vs w hK => ⟨wants_g rfl (fv (hK 4 (by decide))), rho_in rfl (fv (hK 5 (by decide))), trivial⟩) rfl rfl Try.func40 (by kernel_rfl) rfl (fun wq hI => CB.out wq (below_then HW1.out HW1.out.size hI)) (by first | (simp only [List.map_toArray, List.map_cons, List.map_nil]; done) | (simp only [List.map_toArray, List.map_cons, List.map_nil]; rfl)) ?_
      refine w_move (.inl rfl) (fun vs w hK => ⟨wants_g rfl (fv (hK 4 (by decide))), rho_out rfl rfl⟩) ?_
      refine w_val [(54, _), (55, _)] (_) (fun vs w hK => ⟨wants_g rfl (fv (hK 4 (by decide))), rho_in rfl (fv (hK 6 (by decide))), rho_in rfl (fv (hK 7 (by decide))), trivial⟩) rfl (fun wq hI => by exact run_int_neq (r := false) rfl rfl rfl (by simp)) ?_
      refine w_pick (b := false) rfl (fun vs w hK => ⟨wants_none rfl, (rho_in rfl (fv (hK 4 (by decide)))), (rho_in rfl (fv (hK 8 (by decide))))⟩) ?_
      refine w_move (.inl rfl) (fun vs w hK => ⟨wants_none rfl, rho_in rfl (fv (hK 9 (by decide)))⟩) ?_
      refine w_move (.inl rfl) (fun vs w hK => ⟨wants_g rfl (fv (hK 10 (by decide))), rho_out rfl rfl⟩) ?_
      refine w_move (.inl rfl) (fun vs w hK => ⟨wants_g rfl (fv (hK 10 (by decide))), rho_out rfl rfl⟩) ?_
      refine w_callF (FW.new .u8 5 w1 ([] ++ t)) [(59, _), (60, _)] _ rfl (fun vs w hK => ⟨wants_g rfl (fv (hK 10 (by decide))), rho_in rfl (fv (hK 11 (by decide))), rho_in rfl (fv (hK 12 (by decide))), trivial⟩) rfl rfl Try.func41 (by kernel_rfl) rfl (fun wq hI => ((CPL.out (.slice none 0 0) [] w1 wq (gr_nil _ _ _) hI (by simp)).mono fun e w' h => by obtain ⟨v, he, hA⟩ := h; rw [EL.out] at hA; exact ⟨v, he, ⟨hA.fr.grown.os, hA.fr.grown.tape, hA.fr.grown.output, hA.fr.grown.size, fun i hi => hA.fr.grown.block i hi (by simp [Value.ownBlock])⟩, new_app hA⟩)) (by first | (simp only [List.map_toArray, List.map_cons, List.map_nil]; done) | (simp only [List.map_toArray, List.map_cons, List.map_nil]; rfl)) ?_
      refine w_any (FW.val (.string (strOfNums t))) (.inl rfl) (fun vs wq hI hK => ?_) ?_
      · have hA : New .u8 5 w1 ([] ++ t) (vs 13) wq := hK 13 (by decide)
        have hcv := conv_gr (dst := 9) tb Try.underlying5 Try.underlying9 hA.own
        rw [List.nil_append] at hcv
        exact ob_run [(61, _)] (wants_g rfl (fv (hK 10 (by decide)))) ⟨rho_in rfl rfl, trivial⟩ rfl (run_conv_op rfl rfl hcv) ⟨Below.refl _ _, rfl⟩
      refine w_move (.inl rfl) (fun vs w hK => ⟨wants_g rfl (fv (hK 10 (by decide))), rho_out rfl rfl⟩) ?_
      refine w_move (.inl rfl) (fun vs w hK => ⟨wants_g rfl (fv (hK 10 (by decide))), rho_out rfl rfl⟩) ?_
      refine w_val [(63, _), (64, _)] _ (fun vs w hK => ⟨wants_g rfl (fv (hK 10 (by decide))), rho_in rfl (fv (hK 15 (by decide))), rho_in rfl (fv (hK 16 (by decide))), trivial⟩) rfl (fun wq hI => by simp only [execOp, Option.map_some, Option.map_none, lk_tmp, lk_const, lkT_cons, ↓reduceIte, Nat.reduceEqDiff]; go_simp; (first | done | rfl)) ?_
      refine w_val [(65, _)] (_) (fun vs w hK => ⟨wants_g rfl (fv (hK 10 (by decide))), rho_in rfl (fv (hK 17 (by decide))), trivial⟩) rfl (fun wq hI => by exact run_conv_op rfl rfl (conv_rds (dst := 9) tb Try.underlying5 Try.underlying9 (HCut.out wq (below_then HW1.out HW1.out.size hI)))) ?_
      refine w_val [(62, _), (66, _)] _ (fun vs w hK => ⟨wants_g rfl (fv (hK 10 (by decide))), rho_in rfl (fv (hK 14 (by decide))), rho_in rfl (fv (hK 18 (by decide))), trivial⟩) rfl (fun wq hI => run_neq_same rfl rfl rfl rfl) ?_
      refine w_pick (b := false) rfl (fun vs w hK => ⟨wants_none rfl, (rho_in rfl (fv (hK 10 (by decide)))), (rho_in rfl (fv (hK 19 (by decide))))⟩) ?_
      refine w_move (.inl rfl) (fun vs w hK => ⟨wants_none rfl, rho_in rfl (fv (hK 20 (by decide)))⟩) ?_
      refine w_move (.inl rfl) (fun vs w hK => ⟨wants_g rfl (fv (hK 21 (by decide))), rho_out rfl rfl⟩) ?_
      refine w_move (.inl rfl) (fun vs w hK => ⟨wants_g rfl (fv (hK 21 (by decide))), rho_out rfl rfl⟩) ?_
      refine w_callF (FW.new .u8 5 w1 ([] ++ t)) [(70, _), (71, _)] _ rfl (fun vs w hK => ⟨wants_g rfl (fv (hK 21 (by decide))), rho_in rfl (fv (hK 22 (by decide))), rho_in rfl (fv (hK 23 (by decide))), trivial⟩) rfl rfl Try.func36 (by kernel_rfl) rfl (fun wq hI => ((CPB.out (.slice none 0 0) [] w1 wq (gr_nil _ _ _) hI (by simp)).mono fun e w' h => by obtain ⟨v, he, hA⟩ := h; rw [EB.out] at hA; exact ⟨v, he, ⟨hA.fr.grown.os, hA.fr.grown.tape, hA.fr.grown.output, hA.fr.grown.size, fun i hi => hA.fr.grown.block i hi (by simp [Value.ownBlock])⟩, new_app hA⟩)) (by first | (simp only [List.map_toArray, List.map_cons, List.map_nil]; done) | (simp only [List.map_toArray, List.map_cons, List.map_nil]; rfl)) ?_
      refine w_any (FW.val (.string (strOfNums t))) (.inl rfl) (fun vs wq hI hK => ?_) ?_
      · have hA : New .u8 5 w1 ([] ++ t) (vs 24) wq := hK 24 (by decide)
        have hcv := conv_gr (dst := 9) tb Try.underlying5 Try.underlying9 hA.own
        rw [List.nil_append] at hcv
        exact ob_run [(72, _)] (wants_g rfl (fv (hK 21 (by decide)))) ⟨rho_in rfl rfl, trivial⟩ rfl (run_conv_op rfl rfl hcv) ⟨Below.refl _ _, rfl⟩
      refine w_move (.inl rfl) (fun vs w hK => ⟨wants_g rfl (fv (hK 21 (by decide))), rho_out rfl rfl⟩) ?_
      refine w_move (.inl rfl) (fun vs w hK => ⟨wants_g rfl (fv (hK 21 (by decide))), rho_out rfl rfl⟩) ?_
      refine w_val [(74, _), (75, _)] _ (fun vs w hK => ⟨wants_g rfl (fv (hK 21 (by decide))), rho_in rfl (fv (hK 26 (by decide))), rho_in rfl (fv (hK 27 (by decide))), trivial⟩) rfl (fun wq hI => by simp only [execOp, Option.map_some, Option.map_none, lk_tmp, lk_const, lkT_cons, ↓reduceIte, Nat.reduceEqDiff]; go_simp; (first | done | rfl)) ?_
      refine w_val [(76, _)] (_) (fun vs w hK => ⟨wants_g rfl (fv (hK 21 (by decide))), rho_in rfl (fv (hK 28 (by decide))), trivial⟩) rfl (fun wq hI => by exact run_conv_op rfl rfl (conv_rds (dst := 9) tb Try.underlying5 Try.underlying9 (HCut.out wq (below_then HW1.out HW1.out.size hI)))) ?_
      refine w_val [(73, _), (77, _)] _ (fun vs w hK => ⟨wants_g rfl (fv (hK 21 (by decide))), rho_in rfl (fv (hK 25 (by decide))), rho_in rfl (fv (hK 29 (by decide))), trivial⟩) rfl (fun wq hI => run_neq_same rfl rfl rfl rfl) ?_
      refine w_pick (b := false) rfl (fun vs w hK => ⟨wants_none rfl, (rho_in rfl (fv (hK 21 (by decide)))), (rho_in rfl (fv (hK 30 (by decide))))⟩) ?_
      refine w_end rfl rfl rfl (fun vs wq hI hF => ?_)
      simp only [List.reverse_cons, List.reverse_nil, List.nil_append, List.cons_append, finL_val, finL_of, finL_any, finL_app, finL_new, finL_gr, finL_row, finL_box, finL_nil, Act.put, List.setIfInBounds_toArray, List.set_cons_zero, List.set_cons_succ, Nat.reduceAdd]
      have HW2 := Lib.hid (below_then HW1.out HW1.out.size hI)
      clear hI hF HCut EL EB CPL CPB CL CB HG HBT HTT hT hcut t1 t2 hmin hkn
      have hmax2 : ∀ W : World, (Builtin.max_ #[3, 3] 3 #[.int .i64 sz, .int .i64 0]).run Try.prog W = .ok (.int .i64 ((sz.toNat : Nat) : Int)) W := fun W => by rw [run_max2]; congr 2; unfold mx; split <;> omega
      have hmin2 : ∀ W : World, (Builtin.min_ #[3, 3] 3 #[.int .i64 ((sz.toNat : Nat) : Int), .int .i64 8]).run Try.prog W = .ok (.int .i64 ((min sz.toNat 8 : Nat) : Int)) W := fun W => by rw [run_min2, show (8 : Int) = ((8 : Nat) : Int) from rfl, mn_nat]
      have hs8 : min sz.toNat 8 ≤ 8 := by omega
      have hmk := conv_marked wq #[.int .u8 97] 1 1
      have C1 := Lib.hid (putLittle_any V sz HV.out _ [97] wq _ (marked wq wq.heap.size [97] 1 rfl (Nat.le_refl _) (by simp)) (below_alloc (Below.refl _ _) _) (by simp))
      have CB2 := Lib.hid (fun w9 => putBig_any V sz HV.out _ [97] w9 _ (marked w9 w9.heap.size [97] 1 rfl (Nat.le_refl _) (by simp)) (below_alloc (Below.refl _ _) _) (by simp))
      generalize hwt : min sz.toNat 8 = wt at hmin2 hs8 C1 CB2
      clear hwt
      generalize sz.toNat = z1 at hmax2 hmin2
      go_wp2_with fail
      refine C1.out.mono ?_
      rintro e w3 ⟨v3, rfl, hA3⟩
      have HA3 := Lib.hid hA3.own
      have HW3 := Lib.hid hA3.bel
      clear hA3 C1 hmk
      have hmk := conv_marked w3 #[.int .u8 97] 1 1
      go_wp2_with fail
      refine (CB2.out w3).mono ?_
      rintro e w4 ⟨v4, rfl, hA4⟩
      have HA4 := Lib.hid hA4.own
      have HA3' := Lib.hid (gr_below HA3.out hA4.bel)
      have HW4 := Lib.hid (below_then (below_then HW2.out HW2.out.size HW3.out) (by have := HW2.out.size; have := HW3.out.size; omega) hA4.bel)
      clear hA4 CB2 hmk HA3
      obtain ⟨A3, n3, c3, rfl, h3c, HL3, h3m, hr3⟩ := gr_open HA3'.out
      obtain ⟨A4, n4, c4, rfl, h4c, HL4, h4m, hr4⟩ := gr_open HA4.out
      have hn3 : n3 = 1 + wt := by rw [← HL3.out]; simp [le_length]; omega
      have hn4 : n4 = 1 + wt := by rw [← HL4.out]; simp [be_length]; omega
      subst hn3 hn4
      obtain ⟨ad3, e1, hc3⟩ := rds_at 0 hr3 0 (by omega)
      subst e1
      obtain ⟨ad4, e1, hc4⟩ := rds_at 0 hr4 0 (by omega)
      subst e1
      rw [show (([97] : List Int) ++ le V wt).getD 0 0 = 97 from rfl, Addr.add_zero'] at hc3
      rw [show (([97] : List Int) ++ be V wt).getD 0 0 = 97 from rfl, Addr.add_zero'] at hc4
      have HR3 := Lib.hid hr3
      have HR4 := Lib.hid hr4
      have hlen : ((1 + wt : Nat) : Int) = 1 + (wt : Int) := by omega
      have hpos : (0 : Int) < 1 + (wt : Int) := by omega
      clear hr3 hr4 HL3 HL4 HA3' HA4
      simp only [hlen]
      clear hlen
      go_wp2_with fail
      go_loop [14, 15] (fun r i => ∃ i' : Nat, i' ≤ wt ∧ i = .int .i64 i' ∧ r = .int .u64 ((V / 256 ^ i' : Nat) : Int)) (fun _ i => wt - (intOf i).toNat)
      case atStart => exact ⟨0, Nat.zero_le _, rfl, by simp⟩
      case round =>
        obtain ⟨i', hi', rfl, rfl⟩ := hrel
        by_cases hlt : i' < wt
        · have t2 : decide ((i' : Int) < (wt : Int)) = true := decide_eq_true (by omega)
          obtain ⟨q3, e1, hq3⟩ := rds_at 0 HR3.out (1 + i') (by omega)
          injection e1 with e1
          subst e1
          obtain ⟨q4, e1, hq4⟩ := rds_at 0 HR4.out (wt - i') (by omega)
          injection e1 with e1
          subst e1
          rw [le_at V wt i' hlt] at hq3
          rw [be_at V wt i' hlt] at hq4
          have hqv : V / 256 ^ i' < 18446744073709551616 := Nat.lt_of_le_of_lt (Nat.div_le_self _ _) HV.out
          have hd := div_pow V i'
          generalize V / 256 ^ i' = q at hq3 hq4 hqv hd
          have hm : ((q % 256 : Nat) : Int) = (q : Int) % 256 := by omega
          rw [hm] at hq3 hq4
          have hd2 : ((V / 256 ^ (i' + 1) : Nat) : Int) = (q : Int) / 256 := by rw [hd]; exact Int.natCast_ediv q 256
          have HD := Lib.hid hd2
          have hw1 : (q : Int) % 256 % 256 = (q : Int) % 256 := by omega
          have hw2 : IntKind.u64.wrap ((q : Int) / 256) = (q : Int) / 256 := by simp [IntKind.wrap, IntKind.signed, IntKind.bits]; omega
          have i0 : (0 : Int) ≤ 1 + (i' : Int) := by omega
          have i1 : 1 + (i' : Int) < 1 + (wt : Int) := by omega
          have i2 : (0 : Int) ≤ (wt : Int) - (i' : Int) := by omega
          have i3 : (wt : Int) - (i' : Int) < 1 + (wt : Int) := by omega
          have hti : (1 + (i' : Int)).toNat = 1 + i' := by omega
          have htj : ((wt : Int) - (i' : Int)).toNat = wt - i' := by omega
          clear hd hd2 hm
          go_wp2_with fail
          exact ⟨⟨i' + 1, by omega, by go_num, by rw [HD.out]⟩, by simp [intOf]; omega⟩
        · obtain rfl : i' = wt := by omega
          have t2 : decide ((i' : Int) < (i' : Int)) = false := by simp
          go_wp2_with fail
          go_ret
          exact ⟨rfl, HW4.out⟩
end Go.Proofs.Ytglkagicmolbeaa.Num

