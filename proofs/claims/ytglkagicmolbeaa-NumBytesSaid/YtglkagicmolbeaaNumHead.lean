/- The document's examples (head), and the orders of numbers as texts. -/
import Derived.Test.YtglkagicmolbeaaNumAid
namespace Go.Proofs.Ytglkagicmolbeaa.Num
set_option linter.unusedVariables false
set_option linter.unusedSimpArgs false
open Go.Proofs.Ytglkagicmolbeaa.Kit Go.RowKit Go.Proofs.YtglkagicmolbeaaW.PrintWords Go.Proofs.YtglkagicmolbeaaW.PrintLast Go.Proofs.YtglkagicmolbeaaW.PrintMore NumPure
set_option maxRecDepth 20000 in
set_option maxHeartbeats 1600000 in
theorem head_any (w : World) : Calls Try.prog 35 #[] w fun e w' => e = .returned (.bool true) ∧ Below w.heap.size w w' := by
  have C1 := Lib.hid (put_any 300 (by omega) (.slice none 0 0) [] w w (gr_nil _ _ _) (Below.refl _ _) (by simp))
  go_enter Try.func35, Try.ntmps35
  go_wp2_with fail
  refine C1.out.mono ?_
  rintro e w1 ⟨v1, rfl, hA1⟩
  have ho1 := hA1.own
  rw [List.nil_append, put300] at ho1
  have hcv1 := conv_gr (dst := 9) tb Try.underlying5 Try.underlying9 ho1
  have HB1 := Lib.hid hA1.bel
  clear hA1 ho1
  have hs1 : ((strOfNums [172, 2]).toList == ([172, 2] : List UInt8)) = true := by rw [str_list]; rfl
  have C2 := Lib.hid (compact_any 300 (by omega) (.slice none 0 0) [] w1 w1 (gr_nil _ _ _) (Below.refl _ _) (by simp))
  go_wp2_with fail
  refine C2.out.mono ?_
  rintro e w2 ⟨v2, rfl, hA2⟩
  have ho2 := hA2.own
  rw [List.nil_append, compact300] at ho2
  have hcv2 := conv_gr (dst := 9) tb Try.underlying5 Try.underlying9 ho2
  have HB2 := Lib.hid (below_then HB1.out HB1.out.size hA2.bel)
  clear hA2 ho2
  have hs2 : ((strOfNums [253, 44, 1]).toList == ([253, 44, 1] : List UInt8)) = true := by rw [str_list]; rfl
  have C3 := Lib.hid (putBig_any 300 3 (by omega) (.slice none 0 0) [] w2 w2 (gr_nil _ _ _) (Below.refl _ _) (by simp))
  go_wp2_with fail
  refine C3.out.mono ?_
  rintro e w3 ⟨v3, rfl, hA3⟩
  have ho3 := hA3.own
  rw [List.nil_append, show min (Int.toNat 3) 8 = 3 from rfl, be300] at ho3
  have hcv3 := conv_gr (dst := 9) tb Try.underlying5 Try.underlying9 ho3
  have HB3 := Lib.hid (below_then HB2.out HB2.out.size hA3.bel)
  clear hA3 ho3
  have hs3 : ((strOfNums [0, 1, 44]).toList == ([0, 1, 44] : List UInt8)) = true := by rw [str_list]; rfl
  go_wp2_with fail
  go_ret
  exact ⟨rfl, HB3.out⟩
theorem put7_mono : ∀ (b a : Nat), a ≤ b → (put7 a).length ≤ (put7 b).length := by
  intro b
  induction b using Nat.strongRecOn with
  | _ b ih =>
    intro a h
    by_cases hb : b < 128
    · rw [put7_small hb, put7_small (by omega)]
      simp
    · by_cases ha : a < 128
      · rw [put7_small ha]
        exact put7_pos b
      · rw [put7_big ha, put7_big hb, List.length_cons, List.length_cons]
        have := ih (b / 128) (by omega) (a / 128) (by omega)
        omega
theorem compact_mono (a b : Nat) (h : a ≤ b) : (compact a).length ≤ (compact b).length := by
  unfold compact
  repeat' split
  all_goals simp [le_length]
  all_goals omega
theorem u8_lt {x y : Nat} (hx : x < 256) (hy : y < 256) : (UInt8.ofNat x < UInt8.ofNat y) = (x < y) := by
  rw [UInt8.lt_iff_toNat_lt]
  simp
  omega
theorem less_be (a b : Nat) : ∀ s, Op.bytesLess ((be a s).map fun n => UInt8.ofNat n.toNat) ((be b s).map fun n => UInt8.ofNat n.toNat) = decide (a % 256 ^ s < b % 256 ^ s) := by
  intro s
  induction s with
  | zero => simp [be, le, Op.bytesLess, Nat.mod_one]
  | succ s ih =>
    rw [be_succ, be_succ, List.map_cons, List.map_cons, Op.bytesLess, ih]
    have hp : 0 < 256 ^ s := Nat.pow_pos (by omega)
    have key : ∀ n : Nat, n % 256 ^ (s + 1) = (n / 256 ^ s % 256) * 256 ^ s + n % 256 ^ s := fun n => by
      rw [Nat.pow_succ, Nat.mod_mul, Nat.mul_comm (256 ^ s)]
      omega
    rw [key a, key b]
    have ha : a % 256 ^ s < 256 ^ s := Nat.mod_lt _ hp
    have hb : b % 256 ^ s < 256 ^ s := Nat.mod_lt _ hp
    have hx : a / 256 ^ s % 256 < 256 := Nat.mod_lt _ (by omega)
    have hy : b / 256 ^ s % 256 < 256 := Nat.mod_lt _ (by omega)
    generalize a % 256 ^ s = ra at ha ⊢
    generalize b % 256 ^ s = rb at hb ⊢
    generalize a / 256 ^ s % 256 = x at hx ⊢
    generalize b / 256 ^ s % 256 = y at hy ⊢
    generalize 256 ^ s = M at hp ha hb
    simp only [Int.toNat_natCast]
    have he : (UInt8.ofNat x == UInt8.ofNat y) = decide (x = y) := by
      by_cases h : x = y
      · subst h; simp
      · have : UInt8.ofNat x ≠ UInt8.ofNat y := fun e => h (by
          have := congrArg UInt8.toNat e
          simp at this
          omega)
        simp [this, h]
    rw [he, show decide (UInt8.ofNat x < UInt8.ofNat y) = decide (x < y) by simp only [u8_lt hx hy]]
    rcases Nat.lt_trichotomy x y with h | h | h
    · have : x * M + ra < y * M + rb := by
        have : (x + 1) * M ≤ y * M := Nat.mul_le_mul_right _ h
        rw [Nat.add_mul] at this
        omega
      simp [h, this]
    · subst h
      simp
    · have : ¬ x * M + ra < y * M + rb := by
        have : (y + 1) * M ≤ x * M := Nat.mul_le_mul_right _ h
        rw [Nat.add_mul] at this
        omega
      have h2 : ¬ x < y := by omega
      have h3 : ¬ x = y := by omega
      simp [h2, h3, this]
theorem less_big {a b : Nat} (ha : a < 18446744073709551616) (hb : b < 18446744073709551616) : Op.bytesLess (strOfNums (be a 8)).toList (strOfNums (be b 8)).toList = decide (a < b) := by
  rw [str_list, str_list, less_be, Nat.mod_eq_of_lt (by omega), Nat.mod_eq_of_lt (by omega)]
theorem same_big {a b : Nat} (ha : a < 18446744073709551616) (hb : b < 18446744073709551616) : ((strOfNums (be a 8)).toList == (strOfNums (be b 8)).toList) = decide (a = b) := by
  by_cases h : a = b
  · subst h; simp
  · have : (strOfNums (be a 8)).toList ≠ (strOfNums (be b 8)).toList := fun e => h (by
      have h1 := str_inj (be_byte a 8) (be_byte b 8) e
      have h2 := beVal_be a 8 (by omega)
      rw [h1, beVal_be b 8 (by omega)] at h2
      exact h2.symm)
    simp [this, h]
end Go.Proofs.Ytglkagicmolbeaa.Num
