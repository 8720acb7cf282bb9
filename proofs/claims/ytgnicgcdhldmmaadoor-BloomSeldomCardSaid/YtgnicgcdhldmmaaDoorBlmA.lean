/- The places of a key (bloom.places), whatever function is handed them. -/
import Derived.Test.YtgnicgcdhldmmaaDoorCrcMores
import Derived.Test.YtgnicgcdhldmmaaDoorSt
import Derived.StillTailTactics
namespace Go.Proofs.YtgnicgcdhldmmaaDoor.Blm
set_option linter.unusedVariables false
set_option linter.unusedSimpArgs false
open Go.Proofs.YtgnicgcdhldmmaaDoor.Crc Go.Proofs.YtgnicgcdhldmmaaDoor.Kit Go.RowKit Go.Proofs.YtgnicgcdhldmmaaDoorW.PrintWords Go.Proofs.YtgnicgcdhldmmaaDoorW.PrintLast Go.Proofs.YtgnicgcdhldmmaaDoorW.PrintMore
/-- The register of a key's i-th place. -/
def reg (l : List Int) (i : Nat) : Nat := (sum l + i * (mask (sum l) ||| 1)) % 4294967296
def plc (l : List Int) (n i : Nat) : Nat := reg l i * n / 4294967296
theorem reg_lt (l : List Int) (i : Nat) : reg l i < 4294967296 := Nat.mod_lt _ (by decide)
theorem plc_lt (l : List Int) (n i : Nat) (h : 0 < n) : plc l n i < n := by
  unfold plc
  have := reg_lt l i
  rw [Nat.div_lt_iff_lt_mul (by omega), Nat.mul_comm n]
  exact Nat.mul_lt_mul_of_pos_right this h
theorem numsOf_isByte (s : ByteArray) : Crc.isByte (numsOf s) := fun x hx => by
  have := numsOf_byte s x hx
  exact this
def stepOf (l : List Int) : Nat := mask (sum l) ||| 1
theorem stepOf_lt (l : List Int) : stepOf l < 4294967296 := by
  unfold stepOf
  exact Nat.or_lt_two_pow (n := 32) (by unfold mask; exact Nat.mod_lt _ (by decide)) (by decide)
theorem mask_lt (s : Nat) : mask s < 4294967296 := Nat.mod_lt _ (by decide)
theorem reg_zero (l : List Int) (h : Crc.isByte l) : reg l 0 = sum l := by
  unfold reg
  rw [Nat.zero_mul, Nat.add_zero, Nat.mod_eq_of_lt (sum_lt h)]
theorem reg_succ (l : List Int) (i : Nat) : reg l (i + 1) = (reg l i + stepOf l) % 4294967296 := by
  unfold reg stepOf
  rw [Nat.mod_add_mod, Nat.add_assoc, Nat.add_mul, Nat.one_mul]
theorem reg_16_0 : RegOk (opsOf Tryd.f16 0) [[], [0], [0, 1], [0, 1, 2]] [] [some 8, some 9, some 10, some 6] := regOk (by kernel_rfl)
set_option maxRecDepth 20000 in
set_option maxHeartbeats 1600000 in
theorem places_any (S : ByteArray) (hs : S.size ≤ 140737488355328) (n : Nat) (hn : n < 4294967296) (F : Nat) (fn : Func) (cp : Array Value) (hf : Tryd.prog.funcs[F]? = some fn) (hname : (fn.name == "runtime.NumGoroutine") = false) (hb : fn.body.isSome = true)
    (Inv : Nat → World → Prop) (Fin : World → Prop) (w : World) (hT : Halves w) (h0 : ∀ W, Below w.heap.size w W → Inv 0 W)
    (hstep : ∀ i W, i < 6 → Inv i W → Calls Tryd.prog F (#[.int .i64 (plc (numsOf S) n i : Nat)] ++ cp) W fun e W' => (e = .returned (.bool true) ∧ Inv (i + 1) W') ∨ (e = .returned (.bool false) ∧ Fin W')) :
    Calls Tryd.prog 16 #[.string S, .int .i64 n, .func (.func F) #[] cp] w fun e w' => e = .returned (.tuple #[]) ∧ (Inv 6 w' ∨ Fin w') := by
  have hby := numsOf_isByte S
  obtain ⟨v3, w3, hcv, hb3, ho3, _⟩ := conv_bytes (t := 25) Tryd.underlying9 Tryd.underlying25 Tryd.underlying5 w S (by simp only [maxLen]; omega) (Nat.le_refl w.heap.size)
  obtain ⟨A3, n3, c3, rfl, h3c, HL3, h3m, hr3⟩ := gr_open ho3
  have C1 := Lib.hid (sum_any A3 n3 c3 _ w3 (hT.below hb3) hr3 HL3.out (by omega) hby)
  have C2 := Lib.hid (mask_any (sum (numsOf S)) (sum_lt hby) w3)
  have hor := u32_or_nat (mask (sum (numsOf S))) 1 (mask_lt _) (by omega)
  have hst : mask (sum (numsOf S)) ||| 1 = stepOf (numsOf S) := rfl
  rw [hst] at hor
  have hsl := stepOf_lt (numsOf S)
  have hz := reg_zero _ hby
  have hI0 := Lib.hid (h0 w3 hb3)
  clear h0 ho3 hr3 hT hst hb3
  go_enter Tryd.func16, Tryd.ntmps16
  go_wp2_with fail
  refine C1.out.mono ?_
  rintro e w' ⟨rfl, rfl⟩
  go_wp2_with fail
  refine C2.out.mono ?_
  rintro e w' ⟨rfl, rfl⟩
  go_wp2_with fail
  rw [show ((1 : Nat) : Int) = 1 from rfl] at hor
  rw [hor]
  go_loopw [6, 14] (fun a i wr => ∃ k : Nat, k ≤ 6 ∧ i = .int .i64 k ∧ a = .int .u32 (reg (numsOf S) k : Nat) ∧ Hid (Inv k wr)) (fun _ i _ => 6 - (intOf i).toNat)
  case atStart => exact ⟨0, by omega, rfl, by rw [hz], hI0⟩
  case round =>
    obtain ⟨k, hk, rfl, rfl, HI⟩ := hrel
    have hR := reg_lt (numsOf S) k
    by_cases hlt : k < 6
    · have hpl : plc (numsOf S) n k = reg (numsOf S) k * n / 4294967296 := rfl
      have hS := hstep k wr hlt HI.out
      rw [hpl] at hS
      have hsucc := reg_succ (numsOf S) k
      generalize hRe : reg (numsOf S) k = R at hR hS hsucc ⊢
      have hprod : R * n < 18446744073709551616 := by
        have : R * n ≤ 4294967295 * 4294967295 := Nat.mul_le_mul (by omega) (by omega)
        omega
      have HS := Lib.hid hS
      have Hsu := Lib.hid hsucc
      clear hS hsucc hRe hpl hstep hz HI hI0 C1 C2
      go_wp2_with fail
      have hci : ((R * n / 4294967296 : Nat) : Int) = (R : Int) * (n : Int) / 4294967296 := by
        rw [Int.natCast_ediv, Int.natCast_mul]
        rfl
      rw [hci] at HS
      rw [enters_ hf hname hb]
      refine Calls.mono HS.out ?_
      rintro e w' (⟨rfl, hI⟩ | ⟨rfl, hI⟩)
      · have HI := Lib.hid hI
        clear hI
        go_wp2_with fail
        go_round
        case rel => exact ⟨k + 1, by omega, by go_num, by rw [Hsu.out]; congr 1, HI⟩
        case measure => simp [intOf]; omega
      · have HI := Lib.hid hI
        clear hI
        go_wp2_with fail
        (try simp only [Exit.inBlock, Exit.then]); refine bodyPost_ret (results_none rfl _ _ _) rfl ?_
        exact ⟨rfl, .inr HI.out⟩
    · obtain rfl : k = 6 := by omega
      go_wp2_with fail
      go_end0
      exact ⟨rfl, .inl HI.out⟩
end Go.Proofs.YtgnicgcdhldmmaaDoor.Blm

