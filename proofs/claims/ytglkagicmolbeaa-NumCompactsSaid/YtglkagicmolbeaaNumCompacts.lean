/- The walk of the law NumCompacts. -/
import Derived.Test.YtglkagicmolbeaaNumAid
namespace Go.Proofs.Ytglkagicmolbeaa.Num
set_option linter.unusedVariables false
set_option linter.unusedSimpArgs false
open Go.Proofs.Ytglkagicmolbeaa.Kit Go.RowKit Go.Proofs.YtglkagicmolbeaaW.PrintWords Go.Proofs.YtglkagicmolbeaaW.PrintLast Go.Proofs.YtglkagicmolbeaaW.PrintMore NumPure
structure CompRel (w wr : World) (b : Value) (V k : Nat) (g : Int) (m : Value) : Prop where
  app : OwnB wr w.heap.size b (g :: le V k)
  bel : Below w.heap.size w wr
  rest : m = .int .u64 ((V / 256 ^ k : Nat) : Int)
set_option maxRecDepth 20000 in
set_option maxHeartbeats 6400000 in
theorem compacts_any (N : Int) (A : Option Addr) (n c : Nat) (l : List Int) (w : World) (hN : (Lit.int .u64 N).wf = true) (hr : Rds .u8 w A n l) (hl : l.length = n) (hm : n * 1 ≤ 140737488351232) (hw : ∀ x ∈ l, (Lit.int .u8 x).wf = true) (hc : n ≤ c) :
    Calls Try.prog 8 #[.int .u64 N, .slice A n c] w fun e w' => e = .returned (.bool true) ∧ Below w.heap.size w w' := by
  have hb' := byte_wf hw
  clear hw
  have HL := Lib.hid hl
  clear hl
  obtain ⟨hN0, hN1⟩ := wf_u64 hN
  obtain ⟨V, rfl⟩ : ∃ V : Nat, N = (V : Int) := ⟨N.toNat, by omega⟩
  have HV := Lib.hid (show V < 18446744073709551616 by omega)
  clear hN hN0 hN1
  obtain ⟨X, hX⟩ : ∃ X : Int, X = (V : Int) % 256 := ⟨_, rfl⟩
  have hrem : (V : Int).tmod 256 = X := by rw [hX]; exact Int.tmod_eq_emod_of_nonneg (by omega)
  have hw8 : IntKind.u8.wrap X = X := by rw [hX]; simp [IntKind.wrap, IntKind.bits, IntKind.signed]
  have HX := Lib.hid hX
  clear hX
  have C300 := Lib.hid (compact_any 300 (by omega) (.slice none 0 0) [] w w (gr_nil _ _ _) (Below.refl _ _) (by simp))
  have hs300 : ((strOfNums [253, 44, 1]).toList == ([253, 44, 1] : List UInt8)) = true := by rw [str_list]; rfl
  by_cases g : n ≤ 300
  · go_enter Try.func8, Try.ntmps8
    go_wp2_with fail
    refine C300.out.mono ?_
    rintro e w1 ⟨v1, rfl, hA1⟩
    have ho1 := hA1.own
    rw [List.nil_append, compact300] at ho1
    have hcv := conv_gr (dst := 9) tb Try.underlying5 Try.underlying9 ho1
    have HB1 := Lib.hid hA1.bel
    clear hA1 ho1
    go_upto_region 3 with fail
    clear hs300 hcv
    rcases (by omega : V < 253 ∨ (253 ≤ V ∧ V < 65536) ∨ (65536 ≤ V ∧ V < 4294967296) ∨ 4294967296 ≤ V) with h | h | h | h
    · have u1 : (253 : Int) ≤ (V : Int) ↔ False := by rw [iff_false]; omega
      have u2 : (65536 : Int) ≤ (V : Int) ↔ False := by rw [iff_false]; omega
      have u3 : (4294967296 : Int) ≤ (V : Int) ↔ False := by rw [iff_false]; omega
      have HC := Lib.hid (show compact V = X :: le V 0 from by unfold compact; rw [if_pos h, HX.out, show (V : Int) % 256 = (V : Int) by omega]; rfl)
      have HH := Lib.hid h
      clear h
      go_wp2_with fail
      have ho0 : OwnB (w1.alloc (.cells #[.int .u8 X] 5)) w.heap.size (.slice (some ⟨w1.heap.size, 0, none⟩) 1 1) [X] := own_lit_ .u8 5 w1 w.heap.size [X] 1 rfl HB1.out.size (by simp)
      have hR0 : CompRel w (w1.alloc (.cells #[.int .u8 X] 5)) (.slice (some ⟨w1.heap.size, 0, none⟩) 1 1) V 0 X (.int .u64 (V : Int)) := ⟨ho0, below_alloc HB1.out _, by simp⟩
      clear ho0 u1 u2 u3
      go_loopw [7, 8, 9] (fun b m i wr => ∃ k : Nat, k ≤ 0 ∧ i = .int .i64 k ∧ CompRel w wr b V k X m) (fun _ _ i _ => 0 - (intOf i).toNat)
      case atStart => exact ⟨0, Nat.zero_le _, rfl, hR0⟩
      case round =>
        obtain ⟨k, hk, rfl, hO, hB, rfl⟩ := hrel
        clear hR0
        have HB := Lib.hid hB
        have HO := Lib.hid hO
        clear hB hO
        by_cases hlt : k < 0
        · omega
        · have t0 : decide ((k : Int) < 0) = false := decide_eq_false (by omega)
          obtain rfl : k = 0 := by omega
          have hO := HO.out
          rw [← HC.out] at hO
          have HO3 := Lib.hid hO
          clear HO
          have hmk := conv_marked wr #[.int .u8 121, .int .u8 122] 2 2
          go_wp2_with fail
          clear hmk
          have C4 := Lib.hid (compact_any V HV.out _ [121, 122] wr _ (marked wr wr.heap.size [121, 122] 2 rfl (Nat.le_refl _) (by simp)) (below_alloc (Below.refl _ _) _) (by simp))
          refine C4.out.mono ?_
          rintro e w4 ⟨v4, rfl, hA4⟩
          have hcv4 := conv_gr (dst := 9) tb Try.underlying5 Try.underlying9 hA4.own
          have HO4 := Lib.hid (own_below HO3.out hA4.bel)
          have HB4 := Lib.hid (below_then HB.out HB.out.size hA4.bel)
          have hcv5 := conv_own (dst := 9) tb Try.underlying5 Try.underlying9 HO4.out
          obtain ⟨A5, n5, c5, rfl, _, HL5, hm5, hr5⟩ := own_open HO4.out
          have HR5 := Lib.hid hr5
          have hl9 := compact_len V
          have h9 : n5 ≤ 9 := by rw [← HL5.out]; exact hl9
          clear hA4 hr5 hl9
          have hsz : (strOfNums (compact V)).size = n5 := by rw [strOfNums_size]; exact HL5.out
          have hcat : ¬ 9223372036854775807 < 2 + n5 := by omega
          have HS := Lib.hid (show strOfNums (121 :: 122 :: compact V) = (⟨#[121, 122]⟩ : ByteArray) ++ strOfNums (compact V) from str_append [121, 122] (compact V))
          generalize hS2 : (⟨#[121, 122]⟩ : ByteArray) ++ strOfNums (compact V) = S2 at HS
          have hq1 : (strOfNums (121 :: 122 :: compact V)).toList = S2.toList := by rw [HS.out]
          have hO6 : OwnB (w4.alloc (.cells #[] 5)) w4.heap.size (.slice (some ⟨w4.heap.size, 0, none⟩) 0 0) [] := own_lit_ .u8 5 w4 w4.heap.size [] 0 rfl (Nat.le_refl _) (by simp)
          have HR6 := Lib.hid (rds_below HR5.out (below_alloc (Below.refl w4.heap.size w4) (.cells #[] 5)))
          have HO6 := Lib.hid hO6
          have HRL := Lib.hid (rds_below hr HB4.out)
          have hlen2 : (compact V).length = n5 := HL5.out
          have HNE := Lib.hid hlen2
          clear hO6 hlen2
          go_wp2_with (first
            | (at_builtin; refine app_row 0 tb rfl (.tmp 56) (.tmp 57) rfl rfl rfl HO6.out HR6.out (below_alloc (Below.refl _ _) _) (below_alloc (Below.refl w4.heap.size w4) (.cells #[] 5)).size ?cL ?_; (case cL => simp; omega); intro v6 w6 ho6 hb6 hs6 hf6; have HO7 := Lib.hid ho6; have HB7 := Lib.hid hb6; clear ho6 hb6 hs6 hf6)
            | (at_builtin; refine app_row 0 tb rfl (.tmp 58) (.tmp 59) rfl rfl rfl HO7.out (rds_below HRL.out HB7.out) HB7.out HB7.out.size ?cL ?_; (case cL => rw [List.nil_append, HNE.out]; omega); intro v8 w8 ho8 hb8 hs8 hf8; have HO8 := Lib.hid ho8; have HB8 := Lib.hid hb8; clear ho8 hb8 hs8 hf8))
          obtain ⟨A9, n9, c9, rfl, hc9, HL9, hm9, hr9⟩ := own_open HO8.out
          have hb9 : Byte ([] ++ compact V ++ l) := by
            rw [List.nil_append]
            exact Byte.append compact_byte hb'
          have C9 := Lib.hid (expand_any A9 n9 c9 _ w8 hr9 HL9.out hm9 hc9 hb9)
          have hg := expand_compact HV.out l
          rw [← List.nil_append (compact V)] at hg
          have HG := Lib.hid hg
          clear hg hr9 hb9
          refine C9.out.mono ?_
          rintro e w' hE
          rw [HG.out] at hE
          obtain ⟨rfl, hbe⟩ := hE
          unfold three
          have hlen3 : (compact V).length = n5 := HNE.out
          simp only [hlen3, List.nil_append]
          have HBE := Lib.hid hbe
          clear hbe
          go_wp2_with fail
          go_ret
          exact ⟨by simp, below_then HB4.out HB4.out.size (below_then HB8.out HB8.out.size HBE.out)⟩
    · have u1 : (253 : Int) ≤ (V : Int) ↔ True := by rw [iff_true]; omega
      have u2 : (65536 : Int) ≤ (V : Int) ↔ False := by rw [iff_false]; omega
      have u3 : (4294967296 : Int) ≤ (V : Int) ↔ False := by rw [iff_false]; omega
      have HC := Lib.hid (show compact V = 253 :: le V 2 from by unfold compact; rw [if_neg (by omega), if_pos (by omega)])
      have HH := Lib.hid h
      clear h
      go_wp2_with fail
      have ho0 : OwnB (w1.alloc (.cells #[.int .u8 253] 5)) w.heap.size (.slice (some ⟨w1.heap.size, 0, none⟩) 1 1) [253] := own_lit_ .u8 5 w1 w.heap.size [253] 1 rfl HB1.out.size (by simp)
      have hR0 : CompRel w (w1.alloc (.cells #[.int .u8 253] 5)) (.slice (some ⟨w1.heap.size, 0, none⟩) 1 1) V 0 253 (.int .u64 (V : Int)) := ⟨ho0, below_alloc HB1.out _, by simp⟩
      clear ho0 u1 u2 u3
      go_loopw [7, 8, 9] (fun b m i wr => ∃ k : Nat, k ≤ 2 ∧ i = .int .i64 k ∧ CompRel w wr b V k 253 m) (fun _ _ i _ => 2 - (intOf i).toNat)
      case atStart => exact ⟨0, Nat.zero_le _, rfl, hR0⟩
      case round =>
        obtain ⟨k, hk, rfl, hO, hB, rfl⟩ := hrel
        clear hR0
        have HB := Lib.hid hB
        have HO := Lib.hid hO
        clear hB hO
        by_cases hlt : k < 2
        · have t0 : decide ((k : Int) < 2) = true := decide_eq_true (by omega)
          have hq : V / 256 ^ k < 18446744073709551616 := Nat.lt_of_le_of_lt (Nat.div_le_self _ _) HV.out
          have hsn := le_succ V k
          have hd : V / 256 ^ (k + 1) = V / 256 ^ k / 256 := div_pow V k
          generalize V / 256 ^ k = q at hq hsn hd
          obtain ⟨Y, hY⟩ : ∃ Y : Int, Y = (q : Int) % 256 := ⟨_, rfl⟩
          have hrem2 : (q : Int).tmod 256 = Y := by rw [hY]; exact Int.tmod_eq_emod_of_nonneg (by omega)
          have hw82 : IntKind.u8.wrap Y = Y := by rw [hY]; simp [IntKind.wrap, IntKind.bits, IntKind.signed]
          have hm2 : ((q % 256 : Nat) : Int) = Y := by rw [hY]; omega
          rw [hm2] at hsn
          have hdv : ((q / 256 : Nat) : Int) = (q : Int) / 256 := Int.natCast_ediv q 256
          have hwq : IntKind.u64.wrap ((q : Int) / 256) = (q : Int) / 256 := by rw [← hdv]; exact wrap_nat _ (Nat.lt_of_le_of_lt (Nat.div_le_self _ _) hq)
          have HSN := Lib.hid hsn
          have HD := Lib.hid hd
          have HDV := Lib.hid hdv
          have HQ := Lib.hid hq
          clear hq hsn hd hdv hm2 hY
          go_wp2_with (at_builtin; refine app_one tb rfl (.tmp 37) (.tmp 41) rfl rfl rfl HO.out HB.out HB.out.size ?cL ?_; (case cL => rw [List.length_cons, le_length]; omega); intro vx wx ho hb1 hs1 hf; rw [List.cons_append, ← HSN.out] at ho; have HO3 := Lib.hid ho; have HB3 := Lib.hid hb1; clear ho hb1 hs1 hf)
          go_roundw
          case rel => exact ⟨k + 1, by omega, by go_num, HO3.out, HB3.out, by rw [HD.out, HDV.out]⟩
          case measure => simp [intOf]; omega
        · have t0 : decide ((k : Int) < 2) = false := decide_eq_false (by omega)
          obtain rfl : k = 2 := by omega
          have hO := HO.out
          rw [← HC.out] at hO
          have HO3 := Lib.hid hO
          clear HO
          have hmk := conv_marked wr #[.int .u8 121, .int .u8 122] 2 2
          go_wp2_with fail
          clear hmk
          have C4 := Lib.hid (compact_any V HV.out _ [121, 122] wr _ (marked wr wr.heap.size [121, 122] 2 rfl (Nat.le_refl _) (by simp)) (below_alloc (Below.refl _ _) _) (by simp))
          refine C4.out.mono ?_
          rintro e w4 ⟨v4, rfl, hA4⟩
          have hcv4 := conv_gr (dst := 9) tb Try.underlying5 Try.underlying9 hA4.own
          have HO4 := Lib.hid (own_below HO3.out hA4.bel)
          have HB4 := Lib.hid (below_then HB.out HB.out.size hA4.bel)
          have hcv5 := conv_own (dst := 9) tb Try.underlying5 Try.underlying9 HO4.out
          obtain ⟨A5, n5, c5, rfl, _, HL5, hm5, hr5⟩ := own_open HO4.out
          have HR5 := Lib.hid hr5
          have hl9 := compact_len V
          have h9 : n5 ≤ 9 := by rw [← HL5.out]; exact hl9
          clear hA4 hr5 hl9
          have hsz : (strOfNums (compact V)).size = n5 := by rw [strOfNums_size]; exact HL5.out
          have hcat : ¬ 9223372036854775807 < 2 + n5 := by omega
          have HS := Lib.hid (show strOfNums (121 :: 122 :: compact V) = (⟨#[121, 122]⟩ : ByteArray) ++ strOfNums (compact V) from str_append [121, 122] (compact V))
          generalize hS2 : (⟨#[121, 122]⟩ : ByteArray) ++ strOfNums (compact V) = S2 at HS
          have hq1 : (strOfNums (121 :: 122 :: compact V)).toList = S2.toList := by rw [HS.out]
          have hO6 : OwnB (w4.alloc (.cells #[] 5)) w4.heap.size (.slice (some ⟨w4.heap.size, 0, none⟩) 0 0) [] := own_lit_ .u8 5 w4 w4.heap.size [] 0 rfl (Nat.le_refl _) (by simp)
          have HR6 := Lib.hid (rds_below HR5.out (below_alloc (Below.refl w4.heap.size w4) (.cells #[] 5)))
          have HO6 := Lib.hid hO6
          have HRL := Lib.hid (rds_below hr HB4.out)
          have hlen2 : (compact V).length = n5 := HL5.out
          have HNE := Lib.hid hlen2
          clear hO6 hlen2
          go_wp2_with (first
            | (at_builtin; refine app_row 0 tb rfl (.tmp 56) (.tmp 57) rfl rfl rfl HO6.out HR6.out (below_alloc (Below.refl _ _) _) (below_alloc (Below.refl w4.heap.size w4) (.cells #[] 5)).size ?cL ?_; (case cL => simp; omega); intro v6 w6 ho6 hb6 hs6 hf6; have HO7 := Lib.hid ho6; have HB7 := Lib.hid hb6; clear ho6 hb6 hs6 hf6)
            | (at_builtin; refine app_row 0 tb rfl (.tmp 58) (.tmp 59) rfl rfl rfl HO7.out (rds_below HRL.out HB7.out) HB7.out HB7.out.size ?cL ?_; (case cL => rw [List.nil_append, HNE.out]; omega); intro v8 w8 ho8 hb8 hs8 hf8; have HO8 := Lib.hid ho8; have HB8 := Lib.hid hb8; clear ho8 hb8 hs8 hf8))
          obtain ⟨A9, n9, c9, rfl, hc9, HL9, hm9, hr9⟩ := own_open HO8.out
          have hb9 : Byte ([] ++ compact V ++ l) := by
            rw [List.nil_append]
            exact Byte.append compact_byte hb'
          have C9 := Lib.hid (expand_any A9 n9 c9 _ w8 hr9 HL9.out hm9 hc9 hb9)
          have hg := expand_compact HV.out l
          rw [← List.nil_append (compact V)] at hg
          have HG := Lib.hid hg
          clear hg hr9 hb9
          refine C9.out.mono ?_
          rintro e w' hE
          rw [HG.out] at hE
          obtain ⟨rfl, hbe⟩ := hE
          unfold three
          have hlen3 : (compact V).length = n5 := HNE.out
          simp only [hlen3, List.nil_append]
          have HBE := Lib.hid hbe
          clear hbe
          go_wp2_with fail
          go_ret
          exact ⟨by simp, below_then HB4.out HB4.out.size (below_then HB8.out HB8.out.size HBE.out)⟩
    · have u1 : (253 : Int) ≤ (V : Int) ↔ True := by rw [iff_true]; omega
      have u2 : (65536 : Int) ≤ (V : Int) ↔ True := by rw [iff_true]; omega
      have u3 : (4294967296 : Int) ≤ (V : Int) ↔ False := by rw [iff_false]; omega
      have HC := Lib.hid (show compact V = 254 :: le V 4 from by unfold compact; rw [if_neg (by omega), if_neg (by omega), if_pos (by omega)])
      have HH := Lib.hid h
      clear h
      go_wp2_with fail
      have ho0 : OwnB (w1.alloc (.cells #[.int .u8 254] 5)) w.heap.size (.slice (some ⟨w1.heap.size, 0, none⟩) 1 1) [254] := own_lit_ .u8 5 w1 w.heap.size [254] 1 rfl HB1.out.size (by simp)
      have hR0 : CompRel w (w1.alloc (.cells #[.int .u8 254] 5)) (.slice (some ⟨w1.heap.size, 0, none⟩) 1 1) V 0 254 (.int .u64 (V : Int)) := ⟨ho0, below_alloc HB1.out _, by simp⟩
      clear ho0 u1 u2 u3
      go_loopw [7, 8, 9] (fun b m i wr => ∃ k : Nat, k ≤ 4 ∧ i = .int .i64 k ∧ CompRel w wr b V k 254 m) (fun _ _ i _ => 4 - (intOf i).toNat)
      case atStart => exact ⟨0, Nat.zero_le _, rfl, hR0⟩
      case round =>
        obtain ⟨k, hk, rfl, hO, hB, rfl⟩ := hrel
        clear hR0
        have HB := Lib.hid hB
        have HO := Lib.hid hO
        clear hB hO
        by_cases hlt : k < 4
        · have t0 : decide ((k : Int) < 4) = true := decide_eq_true (by omega)
          have hq : V / 256 ^ k < 18446744073709551616 := Nat.lt_of_le_of_lt (Nat.div_le_self _ _) HV.out
          have hsn := le_succ V k
          have hd : V / 256 ^ (k + 1) = V / 256 ^ k / 256 := div_pow V k
          generalize V / 256 ^ k = q at hq hsn hd
          obtain ⟨Y, hY⟩ : ∃ Y : Int, Y = (q : Int) % 256 := ⟨_, rfl⟩
          have hrem2 : (q : Int).tmod 256 = Y := by rw [hY]; exact Int.tmod_eq_emod_of_nonneg (by omega)
          have hw82 : IntKind.u8.wrap Y = Y := by rw [hY]; simp [IntKind.wrap, IntKind.bits, IntKind.signed]
          have hm2 : ((q % 256 : Nat) : Int) = Y := by rw [hY]; omega
          rw [hm2] at hsn
          have hdv : ((q / 256 : Nat) : Int) = (q : Int) / 256 := Int.natCast_ediv q 256
          have hwq : IntKind.u64.wrap ((q : Int) / 256) = (q : Int) / 256 := by rw [← hdv]; exact wrap_nat _ (Nat.lt_of_le_of_lt (Nat.div_le_self _ _) hq)
          have HSN := Lib.hid hsn
          have HD := Lib.hid hd
          have HDV := Lib.hid hdv
          have HQ := Lib.hid hq
          clear hq hsn hd hdv hm2 hY
          go_wp2_with (at_builtin; refine app_one tb rfl (.tmp 37) (.tmp 41) rfl rfl rfl HO.out HB.out HB.out.size ?cL ?_; (case cL => rw [List.length_cons, le_length]; omega); intro vx wx ho hb1 hs1 hf; rw [List.cons_append, ← HSN.out] at ho; have HO3 := Lib.hid ho; have HB3 := Lib.hid hb1; clear ho hb1 hs1 hf)
          go_roundw
          case rel => exact ⟨k + 1, by omega, by go_num, HO3.out, HB3.out, by rw [HD.out, HDV.out]⟩
          case measure => simp [intOf]; omega
        · have t0 : decide ((k : Int) < 4) = false := decide_eq_false (by omega)
          obtain rfl : k = 4 := by omega
          have hO := HO.out
          rw [← HC.out] at hO
          have HO3 := Lib.hid hO
          clear HO
          have hmk := conv_marked wr #[.int .u8 121, .int .u8 122] 2 2
          go_wp2_with fail
          clear hmk
          have C4 := Lib.hid (compact_any V HV.out _ [121, 122] wr _ (marked wr wr.heap.size [121, 122] 2 rfl (Nat.le_refl _) (by simp)) (below_alloc (Below.refl _ _) _) (by simp))
          refine C4.out.mono ?_
          rintro e w4 ⟨v4, rfl, hA4⟩
          have hcv4 := conv_gr (dst := 9) tb Try.underlying5 Try.underlying9 hA4.own
          have HO4 := Lib.hid (own_below HO3.out hA4.bel)
          have HB4 := Lib.hid (below_then HB.out HB.out.size hA4.bel)
          have hcv5 := conv_own (dst := 9) tb Try.underlying5 Try.underlying9 HO4.out
          obtain ⟨A5, n5, c5, rfl, _, HL5, hm5, hr5⟩ := own_open HO4.out
          have HR5 := Lib.hid hr5
          have hl9 := compact_len V
          have h9 : n5 ≤ 9 := by rw [← HL5.out]; exact hl9
          clear hA4 hr5 hl9
          have hsz : (strOfNums (compact V)).size = n5 := by rw [strOfNums_size]; exact HL5.out
          have hcat : ¬ 9223372036854775807 < 2 + n5 := by omega
          have HS := Lib.hid (show strOfNums (121 :: 122 :: compact V) = (⟨#[121, 122]⟩ : ByteArray) ++ strOfNums (compact V) from str_append [121, 122] (compact V))
          generalize hS2 : (⟨#[121, 122]⟩ : ByteArray) ++ strOfNums (compact V) = S2 at HS
          have hq1 : (strOfNums (121 :: 122 :: compact V)).toList = S2.toList := by rw [HS.out]
          have hO6 : OwnB (w4.alloc (.cells #[] 5)) w4.heap.size (.slice (some ⟨w4.heap.size, 0, none⟩) 0 0) [] := own_lit_ .u8 5 w4 w4.heap.size [] 0 rfl (Nat.le_refl _) (by simp)
          have HR6 := Lib.hid (rds_below HR5.out (below_alloc (Below.refl w4.heap.size w4) (.cells #[] 5)))
          have HO6 := Lib.hid hO6
          have HRL := Lib.hid (rds_below hr HB4.out)
          have hlen2 : (compact V).length = n5 := HL5.out
          have HNE := Lib.hid hlen2
          clear hO6 hlen2
          go_wp2_with (first
            | (at_builtin; refine app_row 0 tb rfl (.tmp 56) (.tmp 57) rfl rfl rfl HO6.out HR6.out (below_alloc (Below.refl _ _) _) (below_alloc (Below.refl w4.heap.size w4) (.cells #[] 5)).size ?cL ?_; (case cL => simp; omega); intro v6 w6 ho6 hb6 hs6 hf6; have HO7 := Lib.hid ho6; have HB7 := Lib.hid hb6; clear ho6 hb6 hs6 hf6)
            | (at_builtin; refine app_row 0 tb rfl (.tmp 58) (.tmp 59) rfl rfl rfl HO7.out (rds_below HRL.out HB7.out) HB7.out HB7.out.size ?cL ?_; (case cL => rw [List.nil_append, HNE.out]; omega); intro v8 w8 ho8 hb8 hs8 hf8; have HO8 := Lib.hid ho8; have HB8 := Lib.hid hb8; clear ho8 hb8 hs8 hf8))
          obtain ⟨A9, n9, c9, rfl, hc9, HL9, hm9, hr9⟩ := own_open HO8.out
          have hb9 : Byte ([] ++ compact V ++ l) := by
            rw [List.nil_append]
            exact Byte.append compact_byte hb'
          have C9 := Lib.hid (expand_any A9 n9 c9 _ w8 hr9 HL9.out hm9 hc9 hb9)
          have hg := expand_compact HV.out l
          rw [← List.nil_append (compact V)] at hg
          have HG := Lib.hid hg
          clear hg hr9 hb9
          refine C9.out.mono ?_
          rintro e w' hE
          rw [HG.out] at hE
          obtain ⟨rfl, hbe⟩ := hE
          unfold three
          have hlen3 : (compact V).length = n5 := HNE.out
          simp only [hlen3, List.nil_append]
          have HBE := Lib.hid hbe
          clear hbe
          go_wp2_with fail
          go_ret
          exact ⟨by simp, below_then HB4.out HB4.out.size (below_then HB8.out HB8.out.size HBE.out)⟩
    · have u1 : (253 : Int) ≤ (V : Int) ↔ True := by rw [iff_true]; omega
      have u2 : (65536 : Int) ≤ (V : Int) ↔ True := by rw [iff_true]; omega
      have u3 : (4294967296 : Int) ≤ (V : Int) ↔ True := by rw [iff_true]; omega
      have HC := Lib.hid (show compact V = 255 :: le V 8 from by unfold compact; rw [if_neg (by omega), if_neg (by omega), if_neg (by omega)])
      have HH := Lib.hid h
      clear h
      go_wp2_with fail
      have ho0 : OwnB (w1.alloc (.cells #[.int .u8 255] 5)) w.heap.size (.slice (some ⟨w1.heap.size, 0, none⟩) 1 1) [255] := own_lit_ .u8 5 w1 w.heap.size [255] 1 rfl HB1.out.size (by simp)
      have hR0 : CompRel w (w1.alloc (.cells #[.int .u8 255] 5)) (.slice (some ⟨w1.heap.size, 0, none⟩) 1 1) V 0 255 (.int .u64 (V : Int)) := ⟨ho0, below_alloc HB1.out _, by simp⟩
      clear ho0 u1 u2 u3
      go_loopw [7, 8, 9] (fun b m i wr => ∃ k : Nat, k ≤ 8 ∧ i = .int .i64 k ∧ CompRel w wr b V k 255 m) (fun _ _ i _ => 8 - (intOf i).toNat)
      case atStart => exact ⟨0, Nat.zero_le _, rfl, hR0⟩
      case round =>
        obtain ⟨k, hk, rfl, hO, hB, rfl⟩ := hrel
        clear hR0
        have HB := Lib.hid hB
        have HO := Lib.hid hO
        clear hB hO
        by_cases hlt : k < 8
        · have t0 : decide ((k : Int) < 8) = true := decide_eq_true (by omega)
          have hq : V / 256 ^ k < 18446744073709551616 := Nat.lt_of_le_of_lt (Nat.div_le_self _ _) HV.out
          have hsn := le_succ V k
          have hd : V / 256 ^ (k + 1) = V / 256 ^ k / 256 := div_pow V k
          generalize V / 256 ^ k = q at hq hsn hd
          obtain ⟨Y, hY⟩ : ∃ Y : Int, Y = (q : Int) % 256 := ⟨_, rfl⟩
          have hrem2 : (q : Int).tmod 256 = Y := by rw [hY]; exact Int.tmod_eq_emod_of_nonneg (by omega)
          have hw82 : IntKind.u8.wrap Y = Y := by rw [hY]; simp [IntKind.wrap, IntKind.bits, IntKind.signed]
          have hm2 : ((q % 256 : Nat) : Int) = Y := by rw [hY]; omega
          rw [hm2] at hsn
          have hdv : ((q / 256 : Nat) : Int) = (q : Int) / 256 := Int.natCast_ediv q 256
          have hwq : IntKind.u64.wrap ((q : Int) / 256) = (q : Int) / 256 := by rw [← hdv]; exact wrap_nat _ (Nat.lt_of_le_of_lt (Nat.div_le_self _ _) hq)
          have HSN := Lib.hid hsn
          have HD := Lib.hid hd
          have HDV := Lib.hid hdv
          have HQ := Lib.hid hq
          clear hq hsn hd hdv hm2 hY
          go_wp2_with (at_builtin; refine app_one tb rfl (.tmp 37) (.tmp 41) rfl rfl rfl HO.out HB.out HB.out.size ?cL ?_; (case cL => rw [List.length_cons, le_length]; omega); intro vx wx ho hb1 hs1 hf; rw [List.cons_append, ← HSN.out] at ho; have HO3 := Lib.hid ho; have HB3 := Lib.hid hb1; clear ho hb1 hs1 hf)
          go_roundw
          case rel => exact ⟨k + 1, by omega, by go_num, HO3.out, HB3.out, by rw [HD.out, HDV.out]⟩
          case measure => simp [intOf]; omega
        · have t0 : decide ((k : Int) < 8) = false := decide_eq_false (by omega)
          obtain rfl : k = 8 := by omega
          have hO := HO.out
          rw [← HC.out] at hO
          have HO3 := Lib.hid hO
          clear HO
          have hmk := conv_marked wr #[.int .u8 121, .int .u8 122] 2 2
          go_wp2_with fail
          clear hmk
          have C4 := Lib.hid (compact_any V HV.out _ [121, 122] wr _ (marked wr wr.heap.size [121, 122] 2 rfl (Nat.le_refl _) (by simp)) (below_alloc (Below.refl _ _) _) (by simp))
          refine C4.out.mono ?_
          rintro e w4 ⟨v4, rfl, hA4⟩
          have hcv4 := conv_gr (dst := 9) tb Try.underlying5 Try.underlying9 hA4.own
          have HO4 := Lib.hid (own_below HO3.out hA4.bel)
          have HB4 := Lib.hid (below_then HB.out HB.out.size hA4.bel)
          have hcv5 := conv_own (dst := 9) tb Try.underlying5 Try.underlying9 HO4.out
          obtain ⟨A5, n5, c5, rfl, _, HL5, hm5, hr5⟩ := own_open HO4.out
          have HR5 := Lib.hid hr5
          have hl9 := compact_len V
          have h9 : n5 ≤ 9 := by rw [← HL5.out]; exact hl9
          clear hA4 hr5 hl9
          have hsz : (strOfNums (compact V)).size = n5 := by rw [strOfNums_size]; exact HL5.out
          have hcat : ¬ 9223372036854775807 < 2 + n5 := by omega
          have HS := Lib.hid (show strOfNums (121 :: 122 :: compact V) = (⟨#[121, 122]⟩ : ByteArray) ++ strOfNums (compact V) from str_append [121, 122] (compact V))
          generalize hS2 : (⟨#[121, 122]⟩ : ByteArray) ++ strOfNums (compact V) = S2 at HS
          have hq1 : (strOfNums (121 :: 122 :: compact V)).toList = S2.toList := by rw [HS.out]
          have hO6 : OwnB (w4.alloc (.cells #[] 5)) w4.heap.size (.slice (some ⟨w4.heap.size, 0, none⟩) 0 0) [] := own_lit_ .u8 5 w4 w4.heap.size [] 0 rfl (Nat.le_refl _) (by simp)
          have HR6 := Lib.hid (rds_below HR5.out (below_alloc (Below.refl w4.heap.size w4) (.cells #[] 5)))
          have HO6 := Lib.hid hO6
          have HRL := Lib.hid (rds_below hr HB4.out)
          have hlen2 : (compact V).length = n5 := HL5.out
          have HNE := Lib.hid hlen2
          clear hO6 hlen2
          go_wp2_with (first
            | (at_builtin; refine app_row 0 tb rfl (.tmp 56) (.tmp 57) rfl rfl rfl HO6.out HR6.out (below_alloc (Below.refl _ _) _) (below_alloc (Below.refl w4.heap.size w4) (.cells #[] 5)).size ?cL ?_; (case cL => simp; omega); intro v6 w6 ho6 hb6 hs6 hf6; have HO7 := Lib.hid ho6; have HB7 := Lib.hid hb6; clear ho6 hb6 hs6 hf6)
            | (at_builtin; refine app_row 0 tb rfl (.tmp 58) (.tmp 59) rfl rfl rfl HO7.out (rds_below HRL.out HB7.out) HB7.out HB7.out.size ?cL ?_; (case cL => rw [List.nil_append, HNE.out]; omega); intro v8 w8 ho8 hb8 hs8 hf8; have HO8 := Lib.hid ho8; have HB8 := Lib.hid hb8; clear ho8 hb8 hs8 hf8))
          obtain ⟨A9, n9, c9, rfl, hc9, HL9, hm9, hr9⟩ := own_open HO8.out
          have hb9 : Byte ([] ++ compact V ++ l) := by
            rw [List.nil_append]
            exact Byte.append compact_byte hb'
          have C9 := Lib.hid (expand_any A9 n9 c9 _ w8 hr9 HL9.out hm9 hc9 hb9)
          have hg := expand_compact HV.out l
          rw [← List.nil_append (compact V)] at hg
          have HG := Lib.hid hg
          clear hg hr9 hb9
          refine C9.out.mono ?_
          rintro e w' hE
          rw [HG.out] at hE
          obtain ⟨rfl, hbe⟩ := hE
          unfold three
          have hlen3 : (compact V).length = n5 := HNE.out
          simp only [hlen3, List.nil_append]
          have HBE := Lib.hid hbe
          clear hbe
          go_wp2_with fail
          go_ret
          exact ⟨by simp, below_then HB4.out HB4.out.size (below_then HB8.out HB8.out.size HBE.out)⟩
  · go_enter Try.func8, Try.ntmps8
    go_wp2_with fail
    refine C300.out.mono ?_
    rintro e w1 ⟨v1, rfl, hA1⟩
    have ho1 := hA1.own
    rw [List.nil_append, compact300] at ho1
    have hcv := conv_gr (dst := 9) tb Try.underlying5 Try.underlying9 ho1
    have HB1 := Lib.hid hA1.bel
    clear hA1 ho1
    go_wp2_with fail
    go_ret
    exact ⟨rfl, HB1.out⟩
end Go.Proofs.Ytglkagicmolbeaa.Num
