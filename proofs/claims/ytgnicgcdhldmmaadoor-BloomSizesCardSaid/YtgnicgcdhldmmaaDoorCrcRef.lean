/- Contracts of the reference of the check: bits, Sum, Mask. -/
import Derived.Test.YtgnicgcdhldmmaaDoorCrcMores
namespace Go.Proofs.YtgnicgcdhldmmaaDoor.Crc
set_option linter.unusedVariables false
open Go.Proofs.YtgnicgcdhldmmaaDoor.Kit Go.RowKit Go.Proofs.YtgnicgcdhldmmaaDoorW.PrintWords Go.Proofs.YtgnicgcdhldmmaaDoorW.PrintLast Go.Proofs.YtgnicgcdhldmmaaDoorW.PrintMore

/-- the first k bits of n, the lowest first, as numbers -/
def bitl (n : Nat) (k : Nat) : List Int := (List.range k).map fun i => ((n / 2 ^ i % 2 : Nat) : Int)
theorem bitl_zero (n : Nat) : bitl n 0 = [] := rfl
theorem bitl_succ (n k : Nat) : bitl n (k + 1) = bitl n k ++ [((n / 2 ^ k % 2 : Nat) : Int)] := by simp [bitl, List.range_succ]
theorem bitl_length (n k : Nat) : (bitl n k).length = k := by simp [bitl]
theorem info3 : (Tryd.prog.info? 3).map (fun i => (i.zero, i.size, i.bytes)) = some (some (.int .i64 0), 1, 8) := by kernel_rfl
theorem ti : SlTy Tryd.prog 33 3 (.int .i64 0) 8 := ⟨Tryd.underlying33, info3, rfl, by decide⟩

structure BitRel (w wr : World) (n : Nat) (k : Nat) (x : Value) : Prop where
  ox : Own .i64 3 wr w.heap.size x (bitl n k)
  bel : Below w.heap.size w wr
set_option maxHeartbeats 800000 in
theorem bits_any (n : Nat) (hn : n < 4294967296) (w : World) :
    Calls Tryd.prog 29 #[.int .u32 (n : Nat)] w fun e w' => ∃ v, e = .returned v ∧ Own .i64 3 w' w.heap.size v (bitl n 32) ∧ Below w.heap.size w w' := by
  go_enter Tryd.func29, Tryd.ntmps29
  go_wp2_with fail
  go_loopw [0, 3, 4] (fun n0 x i wr => ∃ k : Nat, k ≤ 32 ∧ i = .int .i64 k ∧ n0 = .int .u32 ((n / 2 ^ k : Nat) : Int) ∧ BitRel w wr n k x) (fun _ _ i _ => 32 - (intOf i).toNat)
  case atStart => exact ⟨0, Nat.zero_le _, rfl, by simp, own_lit_ .i64 3 w w.heap.size [] 0 rfl (Nat.le_refl _) (by simp), below_alloc (Below.refl _ _) _⟩
  case round =>
    obtain ⟨k, hk, rfl, rfl, hR⟩ := hrel
    have hq : n / 2 ^ k < 4294967296 := Nat.lt_of_le_of_lt (Nat.div_le_self _ _) hn
    have hs := bitl_succ n k
    have hd : n / 2 ^ (k + 1) = n / 2 ^ k / 2 := by rw [Nat.pow_succ, Nat.div_div_eq_div_mul]
    generalize n / 2 ^ k = q at hq hs hd
    have hm : ((q % 2 : Nat) : Int) = (q : Int) % 2 := by omega
    rw [hm] at hs
    have hd2 : ((n / 2 ^ (k + 1) : Nat) : Int) = (q : Int) / 2 := by rw [hd]; omega
    have HS := Lib.hid hs
    have HD := Lib.hid hd2
    clear hs hd hm hd2
    by_cases hlt : k < 32
    · go_wp2_with (at_builtin; refine app_one ti rfl (.tmp 10) (.tmp 14) rfl rfl rfl hR.ox hR.bel hR.bel.size ?cL ?_; (case cL => rw [bitl_length]; omega); intro v1 w1 ho hb hs hf; rw [← HS.out] at ho; have hR1 := BitRel.mk ho hb; clear ho hb hs hf)
      go_roundw
      case rel => exact ⟨k + 1, by omega, by go_num, by rw [HD.out], hR1⟩
      case measure => simp [intOf]; omega
    · obtain rfl : k = 32 := by omega
      go_wp2_with fail
      go_ret
      exact ⟨_, rfl, hR.ox, hR.bel⟩

/-- the lowest 15 bits gone to the top -/
def rot (n : Nat) : Nat := 2 ^ 17 * (n % 32768) + n / 32768
theorem rot_lt {n : Nat} (h : n < 4294967296) : rot n < 4294967296 := by unfold rot; omega
theorem rot_bit {n : Nat} (h : n < 4294967296) (i : Nat) : rot n / 2 ^ i % 2 = if i < 17 then n / 2 ^ (15 + i) % 2 else n % 32768 / 2 ^ (i - 17) % 2 := by
  rw [← Nat.toNat_testBit, ← Nat.toNat_testBit, ← Nat.toNat_testBit]
  unfold rot
  rw [Nat.testBit_two_pow_mul_add _ (by omega)]
  split
  · rw [show n / 32768 = n / 2 ^ 15 from rfl, Nat.testBit_div_two_pow, Nat.add_comm]
  · rfl
theorem bitl_rot {n : Nat} (h : n < 4294967296) : ([] ++ (bitl n 32).drop 15) ++ (bitl n 32).take 15 = bitl (rot n) 32 := by
  rw [List.nil_append]
  apply List.ext_getElem
  · simp [bitl]
  · intro i h1 h2
    simp only [bitl, List.length_map, List.length_range] at h2
    rw [List.getElem_append]
    simp only [bitl, List.length_drop, List.length_map, List.length_range, List.getElem_drop, List.getElem_take, List.getElem_map, List.getElem_range]
    rw [rot_bit h i]
    split
    · rfl
    · rw [← Nat.toNat_testBit, ← Nat.toNat_testBit, show n % 32768 = n % 2 ^ 15 from rfl, Nat.testBit_mod_two_pow]
      rw [show decide (i - 17 < 15) = true by simp; omega]
      simp
theorem rot_mask {n : Nat} (h : n < 4294967296) : (((rot n : Nat) : Int) + 2726488792) % 4294967296 = (mask n : Nat) := by
  have e : n / 32768 ||| n * 131072 % 4294967296 = rot n := by
    rw [show n * 131072 % 4294967296 = 2 ^ 17 * (n % 32768) by omega, Nat.or_comm]
    exact (Nat.two_pow_add_eq_or_of_lt (by omega) _).symm
  unfold mask
  rw [e]
  omega
theorem bitl_at (m : Nat) (k : Nat) (hk : k < 32) : (bitl m 32).getD k 0 = ((m / 2 ^ k % 2 : Nat) : Int) := by
  rw [List.getD_eq_getElem?_getD, List.getElem?_eq_getElem (by rw [bitl_length]; exact hk)]
  simp [bitl]
set_option maxRecDepth 100000 in
set_option maxHeartbeats 1600000 in
theorem refmask_any (n : Nat) (hn : n < 4294967296) (w : World) :
    Calls Tryd.prog 20 #[.int .u32 (n : Nat)] w fun e w' => e = .returned (.int .u32 (mask n : Nat)) ∧ Below w.heap.size w w' := by
  go_enter Tryd.func20, Tryd.ntmps20
  go_wp2_with fail
  refine (bits_any n hn w).mono ?_
  rintro e w1 ⟨v, rfl, ho, hb⟩
  obtain ⟨A1, n1, c1, rfl, hc1, HL1, hm1, hC1⟩ := own_open ho
  have h32 : n1 = 32 := by rw [← HL1.out, bitl_length]
  subst h32
  obtain ⟨A2, hcut, hC2⟩ := cut_from (enc := Value.int .i64) (h1 := int_one .i64) 0 ti A1 32 c1 15 17 rfl hc1 15 rfl
  obtain ⟨hcut2, hC3⟩ := cut_to (enc := Value.int .i64) (h1 := int_one .i64) 0 ti A1 32 c1 15 (by omega) hc1 15 rfl
  have hD := hC2 w1 _ hC1
  have hE := hC3 w1 _ hC1
  have HB := Lib.hid hb
  clear hC2 hC3 ho hb hC1
  go_wp2_with fail
  have HO := Lib.hid (Kd.R_drew (own_lit_ .i64 3 w1 w1.heap.size [] 0 rfl (Nat.le_refl _) (by simp)))
  have HB2 := Lib.hid (below_drew (below_alloc (Below.refl w1.heap.size w1) (.cells #[] 3)))
  go_region_held3 (fun _ => True) (trivial)
    (first
      | (refine app_row_step 0 ti (by rfl) (.tmp 8) (.tmp 10) (by rfl) (by rfl) (by rfl) HO.out (rds_below hD HB2.out) HB2.out HB2.out.size ?cL ?_; (case cL => simp); intro v2 w2 ho2 hb2 hs2 hf2; have HO2 := Lib.hid ho2; have HB3 := Lib.hid hb2; clear ho2 hb2)
      | (refine app_row_step 0 ti (by rfl) (.tmp 11) (.tmp 13) (by rfl) (by rfl) (by rfl) HO2.out (rds_below hE HB3.out) HB3.out HB3.out.size ?cL ?_; (case cL => simp [bitl_length]); intro v3 w3 ho3 hb3 hs3 hf3; have HO3 := Lib.hid ho3; have HB4 := Lib.hid hb3; clear ho3 hb3))
  have ho3 := HO3.out
  rw [bitl_rot hn] at ho3
  have hm32 := rot_lt hn
  have HM := Lib.hid (rot_mask hn)
  generalize rot n = m at ho3 hm32 HM
  obtain ⟨A3, n3, c3, rfl, hc3, HL3, hm3, hC3⟩ := own_open ho3
  have h32 : n3 = 32 := by rw [← HL3.out, bitl_length]
  subst h32
  have HBE := Lib.hid (below_then HB.out HB.out.size HB4.out)
  have HC := Lib.hid hC3
  clear ho3 hC3 hf2 hf3 hs3 hs2 hD hE hcut hcut2
  go_wp2_with fail
  go_loop [4, 5] (fun r i => ∃ p : Int, -1 ≤ p ∧ p ≤ 31 ∧ i = .int .i64 p ∧ r = .int .u32 ((m / 2 ^ (p + 1).toNat : Nat) : Int)) (fun _ i => (intOf i + 1).toNat)
  case atStart => exact ⟨31, by omega, by omega, rfl, by rw [show m / 2 ^ ((31 : Int) + 1).toNat = 0 from Nat.div_eq_of_lt hm32]; rfl⟩
  case round =>
    obtain ⟨p, hp1, hp2, rfl, rfl⟩ := hrel
    by_cases h0 : 0 ≤ p
    · obtain ⟨k, rfl⟩ := Int.eq_ofNat_of_zero_le h0
      obtain ⟨ad, e1, hc⟩ := rds_at 0 HC.out k (by omega)
      subst e1
      rw [bitl_at m k (by omega)] at hc
      have hd : m / 2 ^ k = 2 * (m / 2 ^ (k + 1)) + m / 2 ^ k % 2 := by rw [Nat.pow_succ, ← Nat.div_div_eq_div_mul]; omega
      have hb : m / 2 ^ k % 2 < 2 := Nat.mod_lt _ (by omega)
      have hq : m / 2 ^ (k + 1) < 2147483648 := by
        rw [Nat.pow_succ, ← Nat.div_div_eq_div_mul]
        have := Nat.div_le_self m (2 ^ k)
        omega
      rw [show ((k : Int) + 1).toNat = k + 1 by omega]
      generalize m / 2 ^ k % 2 = b at hc hd hb
      generalize m / 2 ^ (k + 1) = q at hd hq ⊢
      have HD := Lib.hid hd
      clear hd
      go_wp2_with fail
      go_round
      case rel => exact ⟨(k : Int) - 1, by omega, by omega, rfl, by rw [show ((k : Int) - 1 + 1).toNat = k by omega, HD.out]; go_num⟩
      case measure => simp [intOf]
    · obtain rfl : p = -1 := by omega
      go_wp2_with fail
      go_ret
      exact ⟨ret_int (by rw [← HM.out]), HBE.out⟩
end Go.Proofs.YtgnicgcdhldmmaaDoor.Crc
