/- The reference's bits of a key (the law's bits). -/
import Derived.Test.YtgnicgcdhldmmaaDoorBlmG
import Derived.Test.YtgnicgcdhldmmaaDoorCrcRefSum
namespace Go.Proofs.YtgnicgcdhldmmaaDoor.Blm
set_option linter.unusedVariables false
set_option linter.unusedSimpArgs false
open Go.Proofs.YtgnicgcdhldmmaaDoor.Crc Go.Proofs.YtgnicgcdhldmmaaDoor.Kit Go.RowKit Go.Proofs.YtgnicgcdhldmmaaDoorW.PrintWords Go.Proofs.YtgnicgcdhldmmaaDoorW.PrintLast Go.Proofs.YtgnicgcdhldmmaaDoorW.PrintMore
/-- The places of a key, as numbers. -/
def plcs (l : List Int) (n k : Nat) : List Int := (List.range k).map fun i => ((plc l n i : Nat) : Int)
theorem plcs_zero (l : List Int) (n : Nat) : plcs l n 0 = [] := rfl
theorem plcs_succ (l : List Int) (n k : Nat) : plcs l n (k + 1) = plcs l n k ++ [((plc l n k : Nat) : Int)] := by simp [plcs, List.range_succ]
theorem plcs_length (l : List Int) (n k : Nat) : (plcs l n k).length = k := by simp [plcs]
theorem plcs_getD (l : List Int) (n k i : Nat) (h : i < k) : (plcs l n k).getD i 0 = ((plc l n i : Nat) : Int) := by
  rw [List.getD_eq_getElem?_getD, List.getElem?_eq_getElem (by rw [plcs_length]; exact h)]
  simp [plcs]
theorem or_one (m : Nat) : m ||| 1 = 2 * (m / 2) + 1 := by
  have h1 : (m ||| 1) / 2 = m / 2 := by rw [Nat.or_div_two]; simp
  have h2 : (m ||| 1) % 2 = 1 := by rw [Nat.or_mod_two_eq_one]; exact .inr rfl
  omega
theorem step_cases (l : List Int) : ((((mask (sum l) : Nat) : Int) % 2 = 0 ∧ ((mask (sum l) : Nat) : Int) + 1 = (stepOf l : Nat)) ∨ (((mask (sum l) : Nat) : Int) % 2 = 1 ∧ ((mask (sum l) : Nat) : Int) = (stepOf l : Nat))) := by
  have h := or_one (mask (sum l))
  unfold stepOf
  rw [h]
  omega
theorem wraps_eq (R n : Nat) (h : R * (8 * n) < 18446744073709551616) : wrap64 (IntKind.u64.wrap ((IntKind.u64.wrap ((R : Int) * (8 * (n : Int)))).tdiv 4294967296)) = ((R * (8 * n) / 4294967296 : Nat) : Int) := by
  have e : (R : Int) * (8 * (n : Int)) = ((R * (8 * n) : Nat) : Int) := by rw [Int.natCast_mul, Int.natCast_mul]; rfl
  rw [e]
  generalize R * (8 * n) = M at h
  rw [u64_nat M h, show (4294967296 : Int) = ((4294967296 : Nat) : Int) from rfl, ← Int.ofNat_tdiv, u64_nat _ (by omega)]
  unfold wrap64
  omega
set_option maxRecDepth 20000 in
set_option maxHeartbeats 3200000 in
theorem refbits_any (S : ByteArray) (hs : S.size ≤ 140737488355328) (n : Nat) (hn : n ≤ 100000) (w : World) :
    Calls Tryd.prog 13 #[.string S, .int .i64 n] w fun e w' => ∃ v, e = .returned v ∧ Gr .i64 3 w' w.heap.size v (plcs (numsOf S) (8 * n) 6) ∧ Below w.heap.size w w' := by
  have hby := numsOf_isByte S
  obtain ⟨v3, w3, hcv, hb3, ho3, _⟩ := conv_bytes (t := 25) Tryd.underlying9 Tryd.underlying25 Tryd.underlying5 w S (by simp only [maxLen]; omega) (Nat.le_refl w.heap.size)
  obtain ⟨A3, n3, c3, rfl, h3c, HL3, h3m, hr3⟩ := gr_open ho3
  have C1 := Lib.hid (refsum_any A3 n3 c3 _ w3 hr3 HL3.out (by omega) hby)
  have C2 := Lib.hid (fun w4 => refmask_any (sum (numsOf S)) (sum_lt hby) w4)
  have hsl := stepOf_lt (numsOf S)
  have hml := mask_lt (sum (numsOf S))
  have hz := reg_zero _ hby
  have HB3 := Lib.hid hb3
  clear ho3 hr3 hb3
  rcases step_cases (numsOf S) with ⟨he, hst⟩ | ⟨he, hst⟩
  all_goals
    have HST := Lib.hid hst
    go_enter Tryd.func13, Tryd.ntmps13
    go_wp2_with fail
    refine C1.out.mono ?_
    rintro e w4 ⟨rfl, hB4⟩
    have HB4 := Lib.hid (below_then HB3.out HB3.out.size hB4)
    clear hB4
    go_wp2_with fail
    refine (C2.out w4).mono ?_
    rintro e w5 ⟨rfl, hB5⟩
    have HB5 := Lib.hid (below_then HB4.out HB4.out.size hB5)
    clear hB5
    generalize mask (sum (numsOf S)) = mk at *
    (try have hmk : (mk : Int) + 1 < 4294967296 := by omega)
    clear hst
    go_upto_region 5 with fail
    rw [HST.out]
    (try clear hmk)
    clear he hml HST
    rw [show (((sum (numsOf S) : Nat) : Int)) = ((reg (numsOf S) 0 : Nat) : Int) by rw [hz]]
    have HO5 : Hid (Gr .i64 3 (w5.alloc (.cells #[] 3)) w5.heap.size (.slice (some ⟨w5.heap.size, 0, none⟩) 0 0) (plcs (numsOf S) (8 * n) 0)) := Lib.hid (.inl (own_lit_ .i64 3 w5 w5.heap.size [] 0 rfl (Nat.le_refl _) (by simp)))
    have HBA := Lib.hid (below_alloc (Below.refl w5.heap.size w5) (.cells #[] 3))
    go_wp2_with fail
    generalize w5.alloc (.cells #[] 3) = w6 at *
    go_loopw [5, 7, 8] (fun a out i wr => ∃ (k : Nat) (v : Value), k ≤ 6 ∧ v = out ∧ i = .int .i64 k ∧ a = .int .u32 (reg (numsOf S) k : Nat) ∧ Hid (Gr .i64 3 wr w5.heap.size v (plcs (numsOf S) (8 * n) k)) ∧ Hid (Below w5.heap.size w5 wr)) (fun _ _ i _ => 6 - (intOf i).toNat)
    case atStart => exact ⟨0, _, by omega, rfl, rfl, rfl, HO5, HBA⟩
    case round =>
      obtain ⟨k, v, hk, rfl, rfl, rfl, HO, HB⟩ := hrel
      by_cases hlt : k < 6
      · have hR := reg_lt (numsOf S) k
        have hsucc := reg_succ (numsOf S) k
        have hpl : plc (numsOf S) (8 * n) k = reg (numsOf S) k * (8 * n) / 4294967296 := rfl
        have hps := plcs_succ (numsOf S) (8 * n) k
        rw [hpl] at hps
        generalize reg (numsOf S) k = R at hR hsucc hps ⊢
        have hprod : R * (8 * n) < 18446744073709551616 := by
          have : R * (8 * n) ≤ 4294967295 * 4294967295 := Nat.mul_le_mul (by omega) (by omega)
          omega
        have hpv := wraps_eq R n hprod
        rw [← hpv] at hps
        have hlen := plcs_length (numsOf S) (8 * n) k
        have Hsu := Lib.hid hsucc
        have HPS := Lib.hid hps
        have HLEN := Lib.hid hlen
        clear hsucc hps hpl hlen hz hprod hpv
        go_wp2_with (at_builtin; refine gapp_one (enc := Value.int .i64) (h1 := int_one .i64) ti (p := wrap64 (IntKind.u64.wrap ((IntKind.u64.wrap ((R : Int) * (8 * (n : Int)))).tdiv 4294967296))) rfl (.tmp 24) (.tmp 33) rfl rfl rfl HO.out HB.out HB.out.size ?cL ?_; (case cL => rw [HLEN.out]; omega); intro v6 w7 ho hb6 hs1 hf; have HO6 : Hid (Gr .i64 3 w7 w5.heap.size v6 (plcs (numsOf S) (8 * n) (k + 1))) := Lib.hid (by rw [HPS.out]; exact ho); have HB6 : Hid (Below w5.heap.size w5 w7) := Lib.hid hb6; clear ho hb6 hs1 hf)
        go_roundw
        case rel => exact ⟨k + 1, _, by omega, rfl, by go_num, by rw [Hsu.out]; congr 1, HO6, HB6⟩
        case measure => simp [intOf]; omega
      · obtain rfl : k = 6 := by omega
        go_wp2_with fail
        go_ret
        exact ⟨_, rfl, gr_lower HO.out HB5.out.size, below_then HB5.out HB5.out.size HB.out⟩
end Go.Proofs.YtgnicgcdhldmmaaDoor.Blm

