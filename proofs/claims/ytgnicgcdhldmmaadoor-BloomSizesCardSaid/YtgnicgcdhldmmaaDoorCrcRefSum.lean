/- The contract of the reference's Sum. -/
import Derived.Test.YtgnicgcdhldmmaaDoorCrcBits
import Derived.Test.YtgnicgcdhldmmaaDoorCrcLinear
import Derived.StillTailTactics
namespace Go.Proofs.YtgnicgcdhldmmaaDoor.Crc
set_option linter.unusedVariables false
open Go.Proofs.YtgnicgcdhldmmaaDoor.Kit Go.RowKit Go.Proofs.YtgnicgcdhldmmaaDoorW.PrintWords Go.Proofs.YtgnicgcdhldmmaaDoorW.PrintLast Go.Proofs.YtgnicgcdhldmmaaDoorW.PrintMore

structure OneRel (w wr : World) (k : Nat) (x : Value) : Prop where
  ox : Own .i64 3 wr w.heap.size x (List.replicate k 1)
  bel : Below w.heap.size w wr
structure SumRel (w wr : World) (reg poly : Value) (R : Nat) : Prop where
  ox : Own .i64 3 wr w.heap.size reg (bitl R 32)
  op : Own .i64 3 wr w.heap.size poly (bitl CrcPure.P 32)
  ap : Apart poly reg
  bel : Below w.heap.size w wr
theorem own_new {k : IntKind} {e : TypeId} {w : World} {B : Nat} {v : Value} {xs : List Int} (h : Own k e w B v xs) : ∀ j, v.ownBlock = some j → B ≤ j := fun j hj => own_base (Kd.own_of_R h) j hj
structure MixRel (w wr : World) (next poly : Value) (Y k : Nat) : Prop where
  ox : Own .i64 3 wr w.heap.size next (mixed Y k)
  op : Own .i64 3 wr w.heap.size poly (bitl CrcPure.P 32)
  ap : Apart poly next
  bel : Below w.heap.size w wr
theorem own_le32 {k : IntKind} {e : TypeId} {w : World} {B n c : Nat} {A : Option Addr} {xs : List Int} (h : Own k e w B (.slice A n c) xs) : n ≤ c := (Kd.R_reads' h).2.1
theorem own_rds {k : IntKind} {e : TypeId} {w : World} {B n c : Nat} {A : Option Addr} {xs : List Int} (h : Own k e w B (.slice A n c) xs) : Rds k w A n xs := by
  obtain ⟨rfl, _, h2⟩ := Kd.R_reads' h
  exact h2
theorem own_base' {k : IntKind} {e : TypeId} {w : World} {B n c g : Nat} {xs : List Int} (h : Own k e w B (.slice (some ⟨g, 0, none⟩) n c) xs) : B ≤ g := own_base (Kd.own_of_R h) g rfl
theorem inv_zero : inv 0 = full := by rw [inv_eq, Nat.xor_zero]
theorem sts_lt32 (j : Nat) {X : Nat} (h : X < 4294967296) : CrcPure.sts j X < 4294967296 := CrcPure.sts_lt j (by omega)
theorem P_lt : CrcPure.P < 4294967296 := by decide
set_option maxRecDepth 100000 in
set_option maxHeartbeats 3200000 in
theorem refsum_any (A : Option Addr) (n c : Nat) (l : List Int) (w : World) (hr : Rds .u8 w A n l) (hl : l.length = n) (hn : n ≤ 9223372036854775807) (hb : isByte l) :
    Calls Tryd.prog 19 #[.slice A n c] w fun e w' => e = .returned (.int .u32 (sum l : Nat)) ∧ Below w.heap.size w w' := by
  have HL := Lib.hid hl
  clear hl
  go_enter Tryd.func19, Tryd.ntmps19
  go_wp2_with fail
  go_loopw [3, 4] (fun x i wr => ∃ k : Nat, k ≤ 32 ∧ i = .int .i64 k ∧ OneRel w wr k x) (fun _ i _ => 32 - (intOf i).toNat)
  case atStart => exact ⟨0, Nat.zero_le _, rfl, own_lit_ .i64 3 w w.heap.size [] 0 rfl (Nat.le_refl _) (by simp), below_alloc (Below.refl _ _) _⟩
  case round =>
    obtain ⟨k, hk, rfl, hR⟩ := hrel
    by_cases hlt : k < 32
    · go_wp2_with (at_builtin; refine app_one ti rfl (.tmp 20) (.tmp 21) rfl rfl rfl hR.ox hR.bel hR.bel.size ?cL ?_; (case cL => rw [List.length_replicate]; omega); intro v1 w1 ho hb1 hs hf; rw [← List.replicate_succ'] at ho; have hR1 := OneRel.mk ho hb1; clear ho hb1 hs hf)
      go_roundw
      case rel => exact ⟨k + 1, by omega, by go_num, hR1⟩
      case measure => simp [intOf]; omega
    · obtain rfl : k = 32 := by omega
      have ho := hR.ox
      rw [ones_bitl] at ho
      obtain ⟨g1, n1, c1, rfl, HL1, hp1, hm1, hc1, hg1, hg1'⟩ := own_form ho (by rw [bitl_length]; omega)
      have h32 : n1 = 32 := by rw [← HL1.out, bitl_length]
      subst h32
      have HO := Lib.hid ho
      have HBel := Lib.hid hR.bel
      clear ho hR
      go_wp2_with fail
      refine (bits_any CrcPure.P P_lt _).mono ?_
      rintro e w2 ⟨v, rfl, ho2, hb2⟩
      obtain ⟨g2, n2, c2, rfl, HL2, hp2, hm2, hc2, hg2, hg2'⟩ := own_form ho2 (by rw [bitl_length]; omega)
      have h32 : n2 = 32 := by rw [← HL2.out, bitl_length]
      subst h32
      have hR2 : SumRel w w2 (.slice (some ⟨g1, 0, none⟩) 32 c1) (.slice (some ⟨g2, 0, none⟩) 32 c2) full :=
        ⟨own_below HO.out hb2, own_lower ho2 HBel.out.size, (apart_new HO.out (own_new ho2)).symm, below_then HBel.out HBel.out.size hb2⟩
      clear ho2 hb2
      go_wp2_with fail
      have hfl := full_lt
      go_loopw [3, 26] (fun x i wr => ∃ k g cap : Nat, k ≤ n ∧ i = .int .i64 k ∧ x = .slice (some ⟨g, 0, none⟩) 32 cap ∧ SumRel w wr (.slice (some ⟨g, 0, none⟩) 32 cap) (.slice (some ⟨g2, 0, none⟩) 32 c2) (CrcPure.bytes full (byt (l.take k)))) (fun _ i _ => n - (intOf i).toNat)
      case atStart => exact ⟨0, g1, c1, Nat.zero_le _, rfl, rfl, hR2⟩
      case round =>
        obtain ⟨k, g, cap, hk, rfl, rfl, hS⟩ := hrel
        have hgw := own_base' hS.ox
        have hR := CrcPure.bytes_lt' hfl (byt (l.take k)) (byt_lt (isByte_take hb k))
        by_cases hlt : k < n
        · obtain ⟨ad, hA, hc⟩ := rds_at 0 (rds_below hr hS.bel) k hlt
          subst hA
          obtain ⟨cN, hcN, hcl⟩ := getD_byte hb k
          have hsn := CrcPure.bytes_snoc full (byt (l.take k)) cN
          rw [← byt_take l k (by rw [HL.out]; omega) cN (by unfold rd; rw [Int.toNat_natCast]; exact hcN)] at hsn
          rw [hcN] at hc
          generalize CrcPure.bytes full (byt (l.take k)) = R at hR hsn hS
          have HSN := Lib.hid hsn
          clear hsn hcN
          obtain ⟨wo, rfl⟩ : ∃ wo : World, wo = wr := ⟨_, rfl⟩
          go_wp2_with fail
          go_loopw [7, 8] (fun x i wr => ∃ j : Nat, j ≤ 8 ∧ i = .int .i64 j ∧ x = .int .u8 ((cN / 2 ^ j : Nat) : Int) ∧ SumRel w wr (.slice (some ⟨g, 0, none⟩) 32 cap) (.slice (some ⟨g2, 0, none⟩) 32 c2) (R ^^^ (cN % 2 ^ j))) (fun _ i _ => 8 - (intOf i).toNat)
          case atStart => exact ⟨0, by omega, rfl, by simp, by rw [lay_zero]; exact hS⟩
          case round =>
            obtain ⟨j, hj, rfl, rfl, hS1⟩ := hrel
            by_cases hj8 : j < 8
            · obtain ⟨hc1, hf1⟩ := own_cell 0 hS1.ox j (by omega)
              have hlb := lay_bit R cN j (by omega) _ rfl _ rfl
              rw [bitl_at _ j (by omega)] at hc1
              have hbb : (R ^^^ (cN % 2 ^ j)) / 2 ^ j % 2 < 2 := Nat.mod_lt _ (by omega)
              have hq : cN / 2 ^ j < 256 := Nat.lt_of_le_of_lt (Nat.div_le_self _ _) hcl
              have hqd : cN / 2 ^ (j + 1) = cN / 2 ^ j / 2 := by rw [Nat.pow_succ, Nat.div_div_eq_div_mul]
              generalize (R ^^^ (cN % 2 ^ j)) / 2 ^ j % 2 = b at hc1 hlb hbb
              generalize cN / 2 ^ j = q at hlb hq hqd ⊢
              have HLB := Lib.hid hlb
              have HQD := Lib.hid hqd
              clear hlb hqd
              have i0 : (0 : Int) ≤ (j : Int) := Int.natCast_nonneg _
              have i1 : (j : Int) < 32 := by omega
              go_wp2_with fail
              have hox := own_set hS1.ox j (((b : Int) + (q : Int)) % 2)
              rw [HLB.out] at hox
              have hS2 : SumRel w _ _ _ (R ^^^ (cN % 2 ^ (j + 1))) := ⟨hox, set_keep hS1.op hS1.ap, hS1.ap, hS1.bel.setCell hgw _⟩
              have HS2 := Lib.hid hS2
              clear hox hS2
              go_roundw
              case rel => exact ⟨j + 1, by omega, by go_num, by rw [HQD.out]; go_num, HS2.out⟩
              case measure => simp [intOf]; omega
            · obtain rfl : j = 8 := by omega
              rw [lay_all R cN hcl] at hS1
              have hX : R ^^^ cN < 4294967296 := CrcPure.xor32 hR (by omega)
              unfold CrcPure.byte at HSN
              generalize R ^^^ cN = X at hS1 hX HSN
              obtain ⟨wp, rfl⟩ : ∃ wp : World, wp = wr := ⟨_, rfl⟩
              go_wp2_with fail
              go_loopw [3, 9] (fun x i wr => ∃ j g cap : Nat, j ≤ 8 ∧ i = .int .i64 j ∧ x = .slice (some ⟨g, 0, none⟩) 32 cap ∧ SumRel w wr (.slice (some ⟨g, 0, none⟩) 32 cap) (.slice (some ⟨g2, 0, none⟩) 32 c2) (CrcPure.sts j X)) (fun _ i _ => 8 - (intOf i).toNat)
              case atStart => exact ⟨0, g, cap, by omega, rfl, rfl, hS1⟩
              case round =>
                obtain ⟨j, g, cap, hj, rfl, rfl, hS3⟩ := hrel
                by_cases hj8 : j < 8
                · obtain ⟨hc0, _⟩ := own_cell 0 hS3.ox 0 (by omega)
                  have hY := sts_lt32 j hX
                  have hst : CrcPure.sts (j + 1) X = CrcPure.st (CrcPure.sts j X) := CrcPure.sts_add j 1 X
                  rw [bitl_at _ 0 (by omega)] at hc0
                  generalize CrcPure.sts j X = Y at hS3 hY hst hc0
                  rw [Nat.pow_zero, Nat.div_one] at hc0
                  have hyb : Y % 2 < 2 := Nat.mod_lt _ (by omega)
                  have hms := fun k hk v hv => mixed_set Y k hk v hv
                  have hdn := down_bitl hY
                  rw [← mixed_zero] at hdn
                  generalize hb0 : Y % 2 = b0 at hc0 hyb hms
                  have HST := Lib.hid hst
                  have HMS := Lib.hid hms
                  have HDN := Lib.hid hdn
                  have HSS := Lib.hid hS3
                  obtain ⟨wq, rfl⟩ : ∃ wq : World, wq = wr := ⟨_, rfl⟩
                  obtain ⟨A5, hcut, hC5⟩ := cut_from (enc := Value.int .i64) (h1 := int_one .i64) 0 ti (some ⟨g, 0, none⟩) 32 cap 1 31 rfl (own_le32 hS3.ox) 1 rfl
                  have HD5 := Lib.hid (hC5 wq _ (own_rds hS3.ox))
                  have o0 := Lib.hid (own_lit_ .i64 3 wq wq.heap.size [] 0 rfl (Nat.le_refl _) (by simp))
                  have b1 := Lib.hid (below_alloc (Below.refl wq.heap.size wq) (.cells #[] 3))
                  clear hst hms hdn hS3 hb0 hC5
                  go_wp2_with (first
                    | (at_builtin; refine app_row 0 ti rfl (.tmp 54) (.tmp 56) rfl rfl rfl o0.out (rds_below HD5.out b1.out) b1.out b1.out.size ?cL ?_; (case cL => simp); intro v6 w6 ho6 hb6 hs6 _; have HO6 := Lib.hid ho6; have HB6 := Lib.hid hb6; clear ho6 hb6 hs6)
                    | (at_builtin; refine app_one ti rfl (.tmp 57) (.tmp 58) rfl rfl rfl HO6.out HB6.out HB6.out.size ?cL ?_; (case cL => simp [bitl_length]); intro v7 w7 ho7 hb7 hs7 _; rw [HDN.out] at ho7; obtain ⟨g7, n7, c7, e7, HL7, hp7, hm7, hc7, hg7, hg7'⟩ := own_form ho7 (by rw [mixed_length]; omega); have h32 : n7 = 32 := by rw [← HL7.out, mixed_length]
                       subst h32 e7; have hg7w := Nat.le_trans HSS.out.bel.size hg7; have HM7 : Hid (MixRel w w7 (.slice (some ⟨g7, 0, none⟩) 32 c7) (.slice (some ⟨g2, 0, none⟩) 32 c2) Y 0) := Lib.hid ⟨own_lower ho7 HSS.out.bel.size, own_below HSS.out.op hb7, apart_new HSS.out.op (own_new ho7), below_then HSS.out.bel HSS.out.bel.size hb7⟩
                       clear ho7 hb7 hs7))
                  go_loopw [62] (fun i wr => ∃ k : Nat, k ≤ 32 ∧ i = .int .i64 k ∧ MixRel w wr (.slice (some ⟨g7, 0, none⟩) 32 c7) (.slice (some ⟨g2, 0, none⟩) 32 c2) Y k) (fun i _ => 32 - (intOf i).toNat)
                  case atStart => exact ⟨0, by omega, rfl, HM7.out⟩
                  case round =>
                    obtain ⟨t, ht, rfl, hM⟩ := hrel
                    by_cases ht32 : t < 32
                    · obtain ⟨hn1, hnf⟩ := own_cell 0 hM.ox t ht32
                      obtain ⟨hn2, _⟩ := own_cell 0 hM.op t ht32
                      rw [mixed_at Y t t ht32, if_neg (by omega)] at hn1
                      rw [bitl_at _ t ht32] at hn2
                      have hset := HMS.out t ht32 _ rfl
                      have hb1 : Y / 2 / 2 ^ t % 2 < 2 := Nat.mod_lt _ (by omega)
                      have hb2 : CrcPure.P / 2 ^ t % 2 < 2 := Nat.mod_lt _ (by omega)
                      generalize Y / 2 / 2 ^ t % 2 = nb at hn1 hset hb1
                      generalize CrcPure.P / 2 ^ t % 2 = pb at hn2 hset hb2
                      have hp0 : 0 ≤ (b0 : Int) * (pb : Int) := Int.mul_nonneg (by omega) (by omega)
                      have hp1 : (b0 : Int) * (pb : Int) ≤ 1 := by
                        have := Int.mul_le_mul (a := (b0 : Int)) (b := (pb : Int)) (c := 1) (d := 1) (by omega) (by omega) (by omega) (by omega)
                        simpa using this
                      have HSET := Lib.hid hset
                      clear hset
                      have i0 : (0 : Int) ≤ (t : Int) := Int.natCast_nonneg _
                      have i1 : (t : Int) < 32 := by omega
                      go_wp2_with fail
                      go_still_tail 15, (by kernel_rfl)
                      change wpList _ _ _ _ _ wr.drew
                      have hM8 : MixRel w wr.drew _ _ Y t := ⟨Kd.R_drew hM.ox, Kd.R_drew hM.op, hM.ap, below_drew hM.bel⟩
                      have hn8 : wr.drew.cell? ⟨g7, t, none⟩ = some (.int .i64 nb) := hn1
                      have hf8 : wr.drew.frozen? ⟨g7, t, none⟩ = false := hnf
                      clear hn1 hn2 hnf hM
                      generalize wr.drew = w8 at hM8 hn8 hf8 ⊢
                      go_wp2_with fail
                      have hox := own_set hM8.ox t (((nb : Int) + (b0 : Int) * (pb : Int)) % 2)
                      rw [HSET.out] at hox
                      have hM9 : MixRel w _ _ _ Y (t + 1) := ⟨hox, set_keep hM8.op hM8.ap, hM8.ap, hM8.bel.setCell hg7w _⟩
                      have HM9 := Lib.hid hM9
                      clear hox hM9
                      go_roundw
                      case rel => exact ⟨t + 1, by omega, by go_num, HM9.out⟩
                      case measure => simp [intOf]; omega
                    · obtain rfl : t = 32 := by omega
                      have hN := hM.ox
                      rw [mixed_all, ← HST.out] at hN
                      have HS9 : Hid (SumRel w wr _ _ (CrcPure.sts (j + 1) X)) := Lib.hid ⟨hN, hM.op, hM.ap, hM.bel⟩
                      clear hN hM
                      go_wp2_with fail
                      go_roundw
                      case rel => first | exact ⟨j + 1, g7, c7, by omega, by go_num, rfl, HS9.out⟩ | ((repeat apply Exists.intro); exact ⟨⟨j + 1, g7, c7, by omega, by go_num, rfl, HS9.out⟩, rfl⟩)
                      case measure => simp [intOf]; omega
                · obtain rfl : j = 8 := by omega
                  rw [← HSN.out] at hS3
                  have HS9 := Lib.hid hS3
                  clear hS3
                  go_wp2_with fail
                  go_roundw
                  case rel => exact ⟨k + 1, g, cap, by omega, by go_num, rfl, HS9.out⟩
                  case measure => simp [intOf]; omega
        · obtain rfl : k = n := by omega
          rw [List.take_of_length_le (by rw [HL.out]; omega)] at hS hR
          have hlast : sum l = inv (CrcPure.bytes full (byt l)) := by unfold sum more; rw [inv_zero]
          have HLAST := Lib.hid hlast
          clear hlast
          have hib := fun i hi => inv_bit hR i hi
          have hlt32 := inv_lt hR
          generalize hMM : inv (CrcPure.bytes full (byt l)) = m at hib hlt32 HLAST
          generalize CrcPure.bytes full (byt l) = R at hS hR hib hMM
          have HIB := Lib.hid hib
          have HS := Lib.hid hS
          have HBE := Lib.hid hS.bel
          clear hib hMM hS
          go_wp2_with fail
          go_loop [13, 14] (fun r i => ∃ p : Int, -1 ≤ p ∧ p ≤ 31 ∧ i = .int .i64 p ∧ r = .int .u32 ((m / 2 ^ (p + 1).toNat : Nat) : Int)) (fun _ i => (intOf i + 1).toNat)
          case atStart => exact ⟨31, by omega, by omega, rfl, by rw [show m / 2 ^ ((31 : Int) + 1).toNat = 0 from Nat.div_eq_of_lt hlt32]; rfl⟩
          case round =>
            obtain ⟨p, hp1, hp2, rfl, rfl⟩ := hrel
            by_cases h0 : 0 ≤ p
            · obtain ⟨t, rfl⟩ := Int.eq_ofNat_of_zero_le h0
              obtain ⟨hc, _⟩ := own_cell 0 HS.out.ox t (by omega)
              rw [bitl_at R t (by omega)] at hc
              have hd : m / 2 ^ t = 2 * (m / 2 ^ (t + 1)) + m / 2 ^ t % 2 := by rw [Nat.pow_succ, ← Nat.div_div_eq_div_mul]; omega
              rw [HIB.out t (by omega)] at hd
              have hb9 : R / 2 ^ t % 2 < 2 := Nat.mod_lt _ (by omega)
              have hq : m / 2 ^ (t + 1) < 2147483648 := by
                rw [Nat.pow_succ, ← Nat.div_div_eq_div_mul]
                have := Nat.div_le_self m (2 ^ t)
                omega
              rw [show ((t : Int) + 1).toNat = t + 1 by omega]
              generalize R / 2 ^ t % 2 = b at hc hd hb9
              generalize m / 2 ^ (t + 1) = q at hd hq ⊢
              have hd2 : ((m / 2 ^ t : Nat) : Int) = 2 * (q : Int) + (1 - (b : Int)) := by omega
              have HD := Lib.hid hd2
              clear hd hd2
              go_wp2_with fail
              go_round
              case rel => exact ⟨(t : Int) - 1, by omega, by omega, rfl, by rw [show ((t : Int) - 1 + 1).toNat = t by omega, HD.out]⟩
              case measure => simp [intOf]
            · obtain rfl : p = -1 := by omega
              go_wp2_with fail
              go_ret
              exact ⟨ret_int (by rw [HLAST.out]), HBE.out⟩
end Go.Proofs.YtgnicgcdhldmmaaDoor.Crc
