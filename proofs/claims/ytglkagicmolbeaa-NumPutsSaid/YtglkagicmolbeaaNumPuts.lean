/- The walk of the law NumPuts. -/
import Derived.Test.YtglkagicmolbeaaNumAid
namespace Go.Proofs.Ytglkagicmolbeaa.Num
set_option linter.unusedVariables false
set_option linter.unusedSimpArgs false
open Go.Proofs.Ytglkagicmolbeaa.Kit Go.RowKit Go.Proofs.YtglkagicmolbeaaW.PrintWords Go.Proofs.YtglkagicmolbeaaW.PrintLast Go.Proofs.YtglkagicmolbeaaW.PrintMore NumPure
structure PutsRel (w wr : World) (b : Value) (V m : Nat) : Prop where
  app : ∃ done : List Int, OwnB wr w.heap.size b done ∧ done ++ put7 m = put7 V
  bel : Below w.heap.size w wr
  lt : m < 18446744073709551616
set_option maxRecDepth 20000 in
set_option maxHeartbeats 3200000 in
theorem puts_any (N : Int) (A : Option Addr) (n c : Nat) (l : List Int) (w : World) (hN : (Lit.int .u64 N).wf = true) (hr : Rds .u8 w A n l) (hl : l.length = n) (hm : n * 1 ≤ 140737488351232) (hw : ∀ x ∈ l, (Lit.int .u8 x).wf = true) (hc : n ≤ c) :
    Calls Try.prog 4 #[.int .u64 N, .slice A n c] w fun e w' => e = .returned (.bool true) ∧ Below w.heap.size w w' := by
  have hb' := byte_wf hw
  clear hw
  have HL := Lib.hid hl
  clear hl
  obtain ⟨hN0, hN1⟩ := wf_u64 hN
  obtain ⟨V, rfl⟩ : ∃ V : Nat, N = (V : Int) := ⟨N.toNat, by omega⟩
  have hV : V < 18446744073709551616 := by omega
  clear hN hN0 hN1
  have HV := Lib.hid hV
  clear hV
  have C300 := Lib.hid (put_any 300 (by omega) (.slice none 0 0) [] w w (gr_nil _ _ _) (Below.refl _ _) (by simp))
  by_cases g : n ≤ 300
  · go_enter Try.func4, Try.ntmps4
    go_wp2_with fail
    refine C300.out.mono ?_
    rintro e w1 ⟨v1, rfl, hA1⟩
    have ho1 := hA1.own
    rw [List.nil_append, put300] at ho1
    have hcv := conv_gr (dst := 9) tb Try.underlying5 Try.underlying9 ho1
    have HB1 := Lib.hid hA1.bel
    clear hA1 ho1
    have hs300 : ((strOfNums [172, 2]).toList == ([172, 2] : List UInt8)) = true := by rw [str_list]; rfl
    go_wp2_with fail
    have ho0 : Own .u8 5 (w1.alloc (.cells #[] 5)) w.heap.size (.slice (some ⟨w1.heap.size, 0, none⟩) 0 0) [] := own_lit_ .u8 5 w1 w.heap.size [] 0 rfl HB1.out.size (by simp)
    have hR0 : PutsRel w (w1.alloc (.cells #[] 5)) (.slice (some ⟨w1.heap.size, 0, none⟩) 0 0) V V := ⟨⟨[], ho0, rfl⟩, below_alloc HB1.out _, HV.out⟩
    clear ho0 hcv hs300
    go_loopw [5, 6] (fun b m wr => ∃ q : Nat, m = .int .u64 (q : Int) ∧ PutsRel w wr b V q) (fun _ m _ => (intOf m).toNat)
    case atStart => exact ⟨V, rfl, hR0⟩
    case round =>
      obtain ⟨q, rfl, ⟨done, hO, hd⟩, hB, hq⟩ := hrel
      clear hR0
      have hlen : done.length + (put7 q).length ≤ 10 := by rw [← List.length_append, hd]; exact put7_len10 HV.out
      have hp := put7_pos q
      have HQ := Lib.hid hq
      have HB := Lib.hid hB
      have HO := Lib.hid hO
      clear hq hB hO
      have hm1 : (q : Int) % 128 % 256 = (q : Int) % 128 := by omega
      have hm2 : ((q : Int) % 128 + 128) % 256 = (q : Int) % 128 + 128 := by omega
      have hdv : ((q / 128 : Nat) : Int) = (q : Int) / 128 := Int.natCast_ediv q 128
      have HV2 := Lib.hid hdv
      have hwq : IntKind.u64.wrap ((q : Int) / 128) = (q : Int) / 128 := by rw [← hdv]; exact wrap_nat _ (Nat.lt_of_le_of_lt (Nat.div_le_self _ _) HQ.out)
      clear hdv
      by_cases hb : q < 128
      · have t0 : ((q : Int) / 128 == 0) = true := by simp; omega
        have hm3 : (q : Int) % 128 = (q : Int) := by omega
        rw [put7_small hb, ← hm3] at hd
        have HD := Lib.hid hd
        clear hd hm3
        clear hwq
        have hwq : IntKind.u64.wrap ((q : Int) / 128) = 0 := by rw [show (q : Int) / 128 = 0 by omega]; rfl
        go_wp2_with (at_builtin; refine app_one tb rfl (.tmp 27) (.tmp 29) rfl rfl rfl HO.out HB.out HB.out.size ?cL ?_; (case cL => omega); intro vw w3 ho hb1 hs1 hf; rw [HD.out] at ho; have HO3 := Lib.hid ho; have HB3 := Lib.hid hb1; clear ho hb1 hs1 hf; have hmk := conv_marked w3 #[.int .u8 120] 1 1)
        clear hmk HD HO HB
        have C4 := Lib.hid (put_any V HV.out _ [120] w3 _ (marked w3 w3.heap.size [120] 1 rfl (Nat.le_refl _) (by simp)) (below_alloc (Below.refl _ _) _) (by simp))
        refine C4.out.mono ?_
        rintro e w4 ⟨v4, rfl, hA4⟩
        have hcv4 := conv_gr (dst := 9) tb Try.underlying5 Try.underlying9 hA4.own
        have HO4 := Lib.hid (own_below HO3.out hA4.bel)
        have HB4 := Lib.hid (below_then HB3.out HB3.out.size hA4.bel)
        have hcv5 := conv_own (dst := 9) tb Try.underlying5 Try.underlying9 HO4.out
        obtain ⟨A5, n5, c5, rfl, _, HL5, hm5, hr5⟩ := own_open HO4.out
        have HR5 := Lib.hid hr5
        have CS := Lib.hid (size_any V HV.out w4)
        have hl10 := put7_len10 HV.out
        have h10 : n5 ≤ 10 := by rw [← HL5.out]; exact hl10
        clear hA4 hr5 hl10
        have hsz : (strOfNums (put7 V)).size = n5 := by rw [strOfNums_size]; exact HL5.out
        have hcat : ¬ 9223372036854775807 < 1 + n5 := by omega
        have HS := Lib.hid (show strOfNums (120 :: put7 V) = (⟨#[120]⟩ : ByteArray) ++ strOfNums (put7 V) from str_append [120] (put7 V))
        generalize hS2 : (⟨#[120]⟩ : ByteArray) ++ strOfNums (put7 V) = S2 at HS
        have hq1 : (strOfNums (120 :: put7 V)).toList = S2.toList := by rw [HS.out]
        have hq2 : (((put7 V).length : Int) != (n5 : Int)) = false := by rw [HL5.out]; simp
        go_wp2_with fail
        refine CS.out.mono ?_
        rintro e w' ⟨rfl, rfl⟩
        have hO6 : OwnB (w4.alloc (.cells #[] 5)) w4.heap.size (.slice (some ⟨w4.heap.size, 0, none⟩) 0 0) [] := own_lit_ .u8 5 w4 w4.heap.size [] 0 rfl (Nat.le_refl _) (by simp)
        have HR6 := Lib.hid (rds_below HR5.out (below_alloc (Below.refl w4.heap.size w4) (.cells #[] 5)))
        have HO6 := Lib.hid hO6
        have HRL := Lib.hid (rds_below hr HB4.out)
        have hlen2 : (put7 V).length = n5 := HL5.out
        have HNE := Lib.hid hlen2
        clear hO6 hlen2
        go_wp2_with (first
          | (at_builtin; refine app_row 0 tb rfl (.tmp 54) (.tmp 55) rfl rfl rfl HO6.out HR6.out (below_alloc (Below.refl _ _) _) (below_alloc (Below.refl w4.heap.size w4) (.cells #[] 5)).size ?cL ?_; (case cL => simp; omega); intro v6 w6 ho6 hb6 hs6 hf6; have HO7 := Lib.hid ho6; have HB7 := Lib.hid hb6; clear ho6 hb6 hs6 hf6)
          | (at_builtin; refine app_row 0 tb rfl (.tmp 56) (.tmp 57) rfl rfl rfl HO7.out (rds_below HRL.out HB7.out) HB7.out HB7.out.size ?cL ?_; (case cL => rw [List.nil_append, HNE.out]; omega); intro v8 w8 ho8 hb8 hs8 hf8; have HO8 := Lib.hid ho8; have HB8 := Lib.hid hb8; clear ho8 hb8 hs8 hf8))
        obtain ⟨A9, n9, c9, rfl, _, HL9, hm9, hr9⟩ := own_open HO8.out
        have hb9 : Byte ([] ++ put7 V ++ l) := by
          rw [List.nil_append]
          exact Byte.append (put7_byte V) hb'
        have C9 := Lib.hid (get_any A9 n9 c9 _ w8 hr9 HL9.out hm9 hb9)
        have hg := get_put7 HV.out l
        rw [← List.nil_append (put7 V)] at hg
        have HG := Lib.hid hg
        clear hg hr9 hb9
        refine C9.out.mono ?_
        rintro e w' ⟨rfl, rfl⟩
        rw [HG.out]
        unfold three
        have hlen3 : (put7 V).length = n5 := HNE.out
        simp only [hlen3, List.nil_append]
        go_wp2_with fail
        go_ret
        exact ⟨by simp, below_then HB4.out HB4.out.size HB8.out⟩
      · have t0 : ((q : Int) / 128 == 0) = false := by simp; omega
        rw [put7_big hb] at hd
        rw [show done ++ ((q % 128 + 128 : Nat) : Int) :: put7 (q / 128) = (done ++ [((q % 128 + 128 : Nat) : Int)]) ++ put7 (q / 128) by simp] at hd
        have hg : ((q % 128 + 128 : Nat) : Int) = (q : Int) % 128 + 128 := by omega
        rw [hg] at hd
        have HD := Lib.hid hd
        clear hd hg
        go_wp2_with (at_builtin; (refine app_one tb rfl (.tmp 31) (.tmp 34) rfl rfl rfl HO.out HB.out HB.out.size ?cL ?_; (case cL => omega); intro v1 w1 ho hb1 hs1 hf;  have hR1 : PutsRel w w1 v1 V (q / 128) := ⟨⟨_, ho, HD.out⟩, hb1, Nat.lt_of_le_of_lt (Nat.div_le_self _ _) HQ.out⟩; clear ho hb1 hs1 hf))
        go_roundw
        case rel => exact ⟨q / 128, by rw [HV2.out], hR1⟩
        case measure => simp [intOf]; omega
  · go_enter Try.func4, Try.ntmps4
    go_wp2_with fail
    refine C300.out.mono ?_
    rintro e w1 ⟨v1, rfl, hA1⟩
    have ho1 := hA1.own
    rw [List.nil_append, put300] at ho1
    have hcv := conv_gr (dst := 9) tb Try.underlying5 Try.underlying9 ho1
    have HB1 := Lib.hid hA1.bel
    clear hA1 ho1
    have hs300 : ((strOfNums [172, 2]).toList == ([172, 2] : List UInt8)) = true := by rw [str_list]; rfl
    go_wp2_with fail
    go_ret
    exact ⟨rfl, HB1.out⟩
end Go.Proofs.Ytglkagicmolbeaa.Num
