/- Contracts of package record: Put. -/
import Derived.Test.YtakjmhcdmchgdaaDoorCrcMasks
import Derived.Test.YtakjmhcdmchgdaaDoorNumAid
import Derived.Test.YtakjmhcdmchgdaaDoorWalk
namespace Go.Proofs.YtakjmhcdmchgdaaDoor.Rec
set_option linter.unusedVariables false
set_option linter.unusedSimpArgs false
open Go.Proofs.YtakjmhcdmchgdaaDoor.Kit Go.Proofs.YtakjmhcdmchgdaaDoor.Num Go.RowKit Go.Proofs.YtakjmhcdmchgdaaDoorW.PrintWords Go.Proofs.YtakjmhcdmchgdaaDoorW.PrintLast Go.Proofs.YtakjmhcdmchgdaaDoorW.PrintMore NumPure
open Crc (Halves sum mask sum_any mask_any mask_lt sum_lt)
/-- A record's bytes. -/
def rec_ (l : List Int) : List Int := le l.length 4 ++ le (mask (sum (le l.length 4))) 4 ++ le (mask (sum l)) 4 ++ l
theorem rec_length (l : List Int) : (rec_ l).length = 12 + l.length := by simp [rec_, le_length]; omega
theorem byte_is {l : List Int} (h : Byte l) : Crc.isByte l := h
theorem le_is (n s : Nat) : Byte (le n s) := le_byte n s
theorem rec_byte {l : List Int} (h : Byte l) : Byte (rec_ l) := Byte.append (Byte.append (Byte.append (le_is _ _) (le_is _ _)) (le_is _ _)) h
theorem wrap_u64n (n : Nat) (h : n < 18446744073709551616) : IntKind.u64.wrap (n : Int) = (n : Int) := by
  simp [IntKind.wrap, IntKind.signed, IntKind.bits]; omega
theorem halves_of {w0 w : World} (h : Halves w0) (hb : Below w0.heap.size w0 w) : Halves w := Crc.Halves.below h hb
set_option maxRecDepth 20000 in
set_option maxHeartbeats 3200000 in
theorem recPut_any (A : Option Addr) (n c : Nat) (l : List Int) (v : Value) (xs : List Int) (w0 w : World) (hT : Halves w0) (HO : GrB w w0.heap.size v xs) (HB : Below w0.heap.size w0 w) (hr : Rds .u8 w0 A n l) (hb : Byte l) (hx : Byte xs) (hn : n ≤ 1048576) (hl : xs.length + 1048600 ≤ 140737488355328) :
    Calls Tryd.prog 23 #[v, .slice A n c] w fun e w' => ∃ v', e = .returned (.tuple #[v', .int .i64 0]) ∧ AppB w0 w w' v v' (xs ++ rec_ l) := by
  have hll := rds_len hr
  obtain ⟨Av, nv, cv, rfl, hvc, HLv, hvm, hrv⟩ := gr_open HO
  have HRD := Lib.hid hr
  have HBT := Lib.hid hb
  have HLL := Lib.hid hll
  have HT := Lib.hid hT
  have C1 := Lib.hid (putLittle_any n 4 (by omega) _ xs w0 w HO HB (by omega))
  rw [show min (Int.toNat 4) 8 = 4 from rfl] at C1
  have hw1 := wrap_u64n n (by omega)
  have t0 : decide ((1048576 : Int) < (n : Int)) = false := decide_eq_false (by omega)
  have HX := Lib.hid hx
  clear hr hb hll HO HB hrv hT hx
  go_enter Tryd.func23, Tryd.ntmps23
  go_wp2_with fail
  refine C1.out.mono ?_
  rintro e w1 ⟨v1, rfl, hA⟩
  have HA := Lib.hid hA
  have hO1 := hA.own
  clear hA C1 hw1
  obtain ⟨A1, n1, c1, rfl, h1c, HL1, h1m, hr1⟩ := gr_open hO1
  have hln : n1 = nv + 4 := by rw [← HL1.out, List.length_append, le_length, HLv.out]
  obtain ⟨A2, hcut, hC⟩ := cut_from (enc := Value.int .u8) (h1 := int_one .u8) 0 tb A1 n1 c1 nv 4 (by omega) h1c (nv : Int) rfl
  have hr2 := hC w1 _ hr1
  rw [show (xs ++ le n 4).drop nv = le n 4 from List.drop_left' HLv.out] at hr2
  have CS := Lib.hid (sum_any A2 4 (c1 - nv) _ w1 (halves_of HT.out HA.out.bel) hr2 (le_length _ _) (by omega) (byte_is (le_is n 4)))
  have hs1 : sum (le n 4) < 4294967296 := sum_lt (byte_is (le_is n 4))
  have CM := Lib.hid (fun w => mask_any _ hs1 w)
  have hm1 := mask_lt (sum (le n 4))
  have C2 := Lib.hid (putLittle_any (mask (sum (le n 4))) 4 (by omega) _ _ w0 w1 hO1 HA.out.bel (by rw [List.length_append, le_length]; omega))
  rw [show min (Int.toNat 4) 8 = 4 from rfl] at C2
  have hw2 := wrap_u64n (mask (sum (le n 4))) (by omega)
  have hlv : nv ≤ n1 := by omega
  clear hO1 hr1 hr2 hC hs1 hm1 hln
  generalize hq1 : sum (le n 4) = s1 at CS CM C2 hw2
  generalize hq2 : mask s1 = m1 at CM C2 hw2
  have HQ1 := Lib.hid hq1
  have HQ2 := Lib.hid hq2
  clear hq1 hq2
  go_wp2_with fail
  refine CS.out.mono ?_
  rintro e w' ⟨rfl, rfl⟩
  clear CS
  go_wp2_with fail
  refine (CM.out _).mono ?_
  rintro e w' ⟨rfl, rfl⟩
  clear CM
  go_wp2_with fail
  refine C2.out.mono ?_
  rintro e w2 ⟨v2, rfl, hA2⟩
  have HA2 := Lib.hid hA2
  clear hA2 C2 hw2 hcut
  have CS := Lib.hid (sum_any A n c _ w2 (halves_of HT.out HA2.out.bel) (rds_below HRD.out HA2.out.bel) HLL.out (by omega) (byte_is HBT.out))
  have hs1 : sum l < 4294967296 := sum_lt (byte_is HBT.out)
  have CM := Lib.hid (fun w => mask_any _ hs1 w)
  have hm1 := mask_lt (sum l)
  have C2 := Lib.hid (putLittle_any (mask (sum l)) 4 (by omega) _ _ w0 w2 HA2.out.own HA2.out.bel (by simp only [List.length_append, le_length]; omega))
  rw [show min (Int.toNat 4) 8 = 4 from rfl] at C2
  have hw2 := wrap_u64n (mask (sum l)) (by omega)
  clear hs1 hm1
  generalize hq1 : sum l = s2 at CS CM C2 hw2
  generalize hq2 : mask s2 = m2 at CM C2 hw2
  have HQ3 := Lib.hid hq1
  have HQ4 := Lib.hid hq2
  clear hq1 hq2
  go_wp2_with fail
  refine CS.out.mono ?_
  rintro e w' ⟨rfl, rfl⟩
  clear CS
  go_wp2_with fail
  refine (CM.out _).mono ?_
  rintro e w' ⟨rfl, rfl⟩
  clear CM
  go_wp2_with fail
  refine C2.out.mono ?_
  rintro e w3 ⟨v3, rfl, hA3⟩
  have HA3 := Lib.hid hA3
  clear hA3 C2 hw2
  go_wp2_with (at_builtin; refine gapp_row tb rfl (.tmp 32) (.tmp 33) rfl rfl rfl HA3.out.own (rds_below HRD.out HA3.out.bel) HA3.out.bel HA3.out.bel.size ?cL ?_; (case cL => simp only [List.length_append, le_length]; omega); intro v4 w4 ho hb1 hs1 hf; have HA4 : Hid (AppB w0 w w4 _ v4 _) := Lib.hid ⟨ho, hb1, ((HA.out.fr.trans HA2.out.fr).trans HA3.out.fr).trans hf⟩; clear ho hb1 hs1 hf)
  go_ret2
  refine ⟨_, rfl, ?_⟩
  have h := HA4.out
  rw [← HQ4.out, ← HQ3.out, ← HQ2.out, ← HQ1.out, ← HLL.out] at h
  unfold rec_
  simp only [List.append_assoc] at h ⊢
  exact h
end Go.Proofs.YtakjmhcdmchgdaaDoor.Rec
