/- The law's own record, by the page. -/
import Derived.Test.YtakjmhcdmchgdaaDoorRecC
import Derived.Test.YtakjmhcdmchgdaaDoorCrcRefSum
namespace Go.Proofs.YtakjmhcdmchgdaaDoor.Rec
set_option linter.unusedVariables false
set_option linter.unusedSimpArgs false
open Go.Proofs.YtakjmhcdmchgdaaDoor.Kit Go.Proofs.YtakjmhcdmchgdaaDoor.Num Go.RowKit Go.Proofs.YtakjmhcdmchgdaaDoorW.PrintWords Go.Proofs.YtakjmhcdmchgdaaDoorW.PrintLast Go.Proofs.YtakjmhcdmchgdaaDoorW.PrintMore NumPure
open Crc (Halves sum mask sum_any mask_any mask_lt sum_lt refsum_any refmask_any)
/-- A row that was made in this call. -/
structure Mine (w : World) (xs : List Int) (v : Value) (w' : World) : Prop where
  own : GrB w' w.heap.size v xs
  bel : Below w.heap.size w w'
set_option maxHeartbeats 800000 in
theorem lawlittle_any (n : Nat) (hn : n < 4294967296) (w : World) : Calls Tryd.prog 26 #[.int .u32 (n : Nat)] w fun e w' => ∃ v, e = .returned v ∧ Mine w (le n 4) v w' := by
  have h0 : Mine w (le n 0) (.slice (some ⟨w.heap.size, 0, none⟩) 0 0) (w.alloc (.cells #[] 5)) := ⟨.inl (own_lit_ .u8 5 w w.heap.size [] 0 rfl (Nat.le_refl _) (by simp)), below_alloc (Below.refl _ _) _⟩
  go_enter Tryd.func26, Tryd.ntmps26
  go_wp2_with fail
  go_loopw [0, 3, 4] (fun m b i wr => ∃ k : Nat, k ≤ 4 ∧ i = .int .i64 k ∧ m = .int .u32 ((n / 256 ^ k : Nat) : Int) ∧ Mine w (le n k) b wr) (fun _ _ i _ => 4 - (intOf i).toNat)
  case atStart => exact ⟨0, by omega, rfl, by simp, h0⟩
  case round =>
    obtain ⟨k, hk, rfl, rfl, hR⟩ := hrel
    clear h0
    have hq : n / 256 ^ k < 4294967296 := Nat.lt_of_le_of_lt (Nat.div_le_self _ _) hn
    have hsn := le_succ n k
    have hd := div_pow n k
    generalize n / 256 ^ k = q at hq hsn hd
    have hm : ((q % 256 : Nat) : Int) = (q : Int) % 256 := by omega
    rw [hm] at hsn
    have hd2 : ((n / 256 ^ (k + 1) : Nat) : Int) = (q : Int) / 256 := by rw [hd]; exact Int.natCast_ediv q 256
    have hw1 : (q : Int) % 256 % 256 = (q : Int) % 256 := by omega
    have hw2 : IntKind.u32.wrap ((q : Int) / 256) = (q : Int) / 256 := by simp [IntKind.wrap, IntKind.signed, IntKind.bits]; omega
    have HS := Lib.hid hsn
    have HD := Lib.hid hd2
    have HR := Lib.hid hR
    clear hsn hd hd2 hm hR
    by_cases hlt : k < 4
    · have t0 : decide ((k : Int) < 4) = true := decide_eq_true (by omega)
      go_wp2_with (at_builtin; refine gapp_one tb rfl (.tmp 10) (.tmp 14) rfl rfl rfl HR.out.own HR.out.bel HR.out.bel.size ?cL ?_; (case cL => rw [le_length]; omega); intro v1 w1 ho hb hs1 hf; rw [← HS.out] at ho; have hR1 : Mine w (le n (k + 1)) v1 w1 := ⟨ho, hb⟩; clear ho hb hs1 hf)
      go_roundw
      case rel => exact ⟨k + 1, by omega, by go_num, by rw [HD.out], hR1⟩
      case measure => simp [intOf]; omega
    · obtain rfl : k = 4 := by omega
      have t0 : decide (((4 : Nat) : Int) < 4) = false := by simp
      go_wp2_with fail
      go_ret
      exact ⟨_, rfl, HR.out⟩
set_option maxRecDepth 20000 in
set_option maxHeartbeats 3200000 in
theorem of_any (A : Option Addr) (n c : Nat) (l : List Int) (w : World) (hr : Rds .u8 w A n l) (hb : Byte l) (hn : n ≤ 1048576) :
    Calls Tryd.prog 24 #[.slice A n c] w fun e w' => ∃ v, e = .returned v ∧ Mine w (rec_ l) v w' := by
  have hll := rds_len hr
  have HRD := Lib.hid hr
  have HBT := Lib.hid hb
  have HLL := Lib.hid hll
  have hw0 : IntKind.u32.wrap (n : Int) = (n : Int) := wrap_u32n n (by omega)
  have C1 := Lib.hid (lawlittle_any n (by omega) w)
  clear hr hb hll
  go_enter Tryd.func24, Tryd.ntmps24
  go_wp2_with fail
  refine C1.out.mono ?_
  rintro e w1 ⟨v1, rfl, hM⟩
  have HM := Lib.hid hM
  obtain ⟨A1, n1, c1, rfl, h1c, HL1, h1m, hr1⟩ := gr_open hM.own
  have hn1 : n1 = 4 := by rw [← HL1.out, le_length]
  subst hn1
  have hO : GrB (w1.alloc (.cells #[] 5)) w1.heap.size (.slice (some ⟨w1.heap.size, 0, none⟩) 0 0) [] := .inl (own_lit_ .u8 5 w1 w1.heap.size [] 0 rfl (Nat.le_refl _) (by simp))
  have hB : Below w1.heap.size w1 (w1.alloc (.cells #[] 5)) := below_alloc (Below.refl _ _) _
  have HO := Lib.hid hO
  have HB := Lib.hid hB
  have HR1 := Lib.hid hr1
  clear hO hB C1 hw0 hM hr1 HL1
  go_wp2_with (at_builtin; refine gapp_row tb rfl (.tmp 9) (.tmp 10) rfl rfl rfl HO.out (rds_below HR1.out HB.out) HB.out HB.out.size ?cL ?_; (case cL => simp); intro v2 w2 ho hb hs1 hf; have HO2 : Hid (GrB w2 w.heap.size v2 ([] ++ le n 4)) := Lib.hid (gr_lower ho HM.out.bel.size); have HB2 : Hid (Below w.heap.size w w2) := Lib.hid (below_then HM.out.bel HM.out.bel.size hb); have HR2 : Hid (Rds .u8 w2 A1 4 (le n 4)) := Lib.hid (rds_below HR1.out hb); clear ho hb hs1 hf)
  clear HO HB HR1
  have CS := Lib.hid (refsum_any A1 4 c1 _ w2 HR2.out (le_length _ _) (by omega) (byte_is (le_is n 4)))
  have hs1 : sum (le n 4) < 4294967296 := sum_lt (byte_is (le_is n 4))
  have CM := Lib.hid (fun w => refmask_any _ hs1 w)
  have CL := Lib.hid (fun w => lawlittle_any _ (mask_lt (sum (le n 4))) w)
  clear hs1
  generalize hq1 : sum (le n 4) = s1 at CS CM CL
  generalize hq2 : mask s1 = m1 at CM CL
  have HQ1 := Lib.hid hq1
  have HQ2 := Lib.hid hq2
  clear hq1 hq2
  refine CS.out.mono ?_
  rintro e w3 ⟨rfl, hb3⟩
  have HB3 := Lib.hid hb3
  clear hb3 CS
  go_wp2_with fail
  refine (CM.out _).mono ?_
  rintro e w4 ⟨rfl, hb4⟩
  have HB4 := Lib.hid (below_then HB3.out HB3.out.size hb4)
  clear hb4 CM HB3
  go_wp2_with fail
  refine (CL.out _).mono ?_
  rintro e w5 ⟨v5, rfl, hM⟩
  obtain ⟨A5, n5, c5, rfl, h5c, HL5, h5m, hr5⟩ := gr_open hM.own
  have hn5 : n5 = 4 := by rw [← HL5.out, le_length]
  subst hn5
  have hb5 := below_then HB4.out HB4.out.size hM.bel
  have HO5 := Lib.hid (gr_below HO2.out hb5)
  have HB5 := Lib.hid (below_then HB2.out HB2.out.size hb5)
  have HR5 := Lib.hid hr5
  clear hM hb5 hr5 CL HL5 HB4 HO2
  go_wp2_with (at_builtin; refine gapp_row tb rfl (.tmp 12) (.tmp 16) rfl rfl rfl HO5.out HR5.out HB5.out HB5.out.size ?cL ?_; (case cL => simp [le_length]); intro v6 w6 ho hb hs1 hf; have HO6 : Hid (GrB w6 w.heap.size v6 ([] ++ le n 4 ++ le m1 4)) := Lib.hid ho; have HB6 : Hid (Below w.heap.size w w6) := Lib.hid hb; clear ho hb hs1 hf)
  have CS := Lib.hid (refsum_any A n c _ w6 (rds_below HRD.out HB6.out) HLL.out (by omega) (byte_is HBT.out))
  have hs1 : sum l < 4294967296 := sum_lt (byte_is HBT.out)
  have CM := Lib.hid (fun w => refmask_any _ hs1 w)
  have CL := Lib.hid (fun w => lawlittle_any _ (mask_lt (sum l)) w)
  clear hs1 HO5 HB5 HR5
  generalize hq1 : sum l = s2 at CS CM CL
  generalize hq2 : mask s2 = m2 at CM CL
  have HQ3 := Lib.hid hq1
  have HQ4 := Lib.hid hq2
  clear hq1 hq2
  refine CS.out.mono ?_
  rintro e w7 ⟨rfl, hb7⟩
  have HB7 := Lib.hid hb7
  clear hb7 CS
  go_wp2_with fail
  refine (CM.out _).mono ?_
  rintro e w8 ⟨rfl, hb8⟩
  have HB8 := Lib.hid (below_then HB7.out HB7.out.size hb8)
  clear hb8 CM HB7
  go_wp2_with fail
  refine (CL.out _).mono ?_
  rintro e w9 ⟨v9, rfl, hM⟩
  obtain ⟨A9, n9, c9, rfl, h9c, HL9, h9m, hr9⟩ := gr_open hM.own
  have hn9 : n9 = 4 := by rw [← HL9.out, le_length]
  subst hn9
  have hb9 := below_then HB8.out HB8.out.size hM.bel
  have HO9 := Lib.hid (gr_below HO6.out hb9)
  have HB9 := Lib.hid (below_then HB6.out HB6.out.size hb9)
  have HR9 := Lib.hid hr9
  clear hM hb9 hr9 CL HL9 HB8 HO6
  go_wp2_with (first
    | (at_builtin; refine gapp_row tb rfl (.tmp 18) (.tmp 22) rfl rfl rfl HO9.out HR9.out HB9.out HB9.out.size ?cL ?_; (case cL => simp [le_length]); intro v10 w10 ho hb hs1 hf; have HO10 : Hid (GrB w10 w.heap.size v10 ([] ++ le n 4 ++ le m1 4 ++ le m2 4)) := Lib.hid ho; have HB10 : Hid (Below w.heap.size w w10) := Lib.hid hb; clear ho hb hs1 hf)
    | (at_builtin; refine gapp_row tb rfl (.tmp 24) (.tmp 25) rfl rfl rfl HO10.out (rds_below HRD.out HB10.out) HB10.out HB10.out.size ?cL ?_; (case cL => simp [le_length]; omega); intro v11 w11 ho hb hs1 hf; have HO11 : Hid (GrB w11 w.heap.size v11 ([] ++ le n 4 ++ le m1 4 ++ le m2 4 ++ l)) := Lib.hid ho; have HB11 : Hid (Below w.heap.size w w11) := Lib.hid hb; clear ho hb hs1 hf))
  go_ret
  refine ⟨_, rfl, ?_, HB11.out⟩
  have h := HO11.out
  rw [← HQ4.out, ← HQ3.out, ← HQ2.out, ← HQ1.out, ← HLL.out, List.nil_append] at h
  exact h
end Go.Proofs.YtakjmhcdmchgdaaDoor.Rec
