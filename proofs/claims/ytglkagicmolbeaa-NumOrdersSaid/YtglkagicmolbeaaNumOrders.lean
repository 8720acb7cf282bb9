/- The walk of the law NumOrders. -/
import Derived.Test.YtglkagicmolbeaaNumHead
namespace Go.Proofs.Ytglkagicmolbeaa.Num
set_option linter.unusedVariables false
set_option linter.unusedSimpArgs false
open Go.Proofs.Ytglkagicmolbeaa.Kit Go.RowKit Go.Proofs.YtglkagicmolbeaaW.PrintWords Go.Proofs.YtglkagicmolbeaaW.PrintLast Go.Proofs.YtglkagicmolbeaaW.PrintMore NumPure
set_option maxRecDepth 20000 in
set_option maxHeartbeats 3200000 in
theorem orders_any (N M : Int) (w : World) (hN : (Lit.int .u64 N).wf = true) (hM : (Lit.int .u64 M).wf = true) :
    Calls Try.prog 7 #[.int .u64 N, .int .u64 M] w fun e w' => e = .returned (.bool true) ∧ Below w.heap.size w w' := by
  obtain ⟨hN0, hN1⟩ := wf_u64 hN
  obtain ⟨hM0, hM1⟩ := wf_u64 hM
  obtain ⟨a, rfl⟩ : ∃ V : Nat, N = (V : Int) := ⟨N.toNat, by omega⟩
  obtain ⟨b, rfl⟩ : ∃ V : Nat, M = (V : Int) := ⟨M.toNat, by omega⟩
  have HA := Lib.hid (show a < 18446744073709551616 by omega)
  have HB := Lib.hid (show b < 18446744073709551616 by omega)
  clear hN hM hN0 hN1 hM0 hM1
  have CH := Lib.hid (head_any w)
  go_enter Try.func7, Try.ntmps7
  go_wp2_with fail
  refine CH.out.mono ?_
  rintro e w1 ⟨rfl, hB1⟩
  have HB1 := Lib.hid hB1
  clear hB1
  have C2 := Lib.hid (putBig_any a 8 HA.out (.slice none 0 0) [] w1 w1 (gr_nil _ _ _) (Below.refl _ _) (by simp))
  go_wp2_with fail
  refine C2.out.mono ?_
  rintro e w2 ⟨v2, rfl, hA2⟩
  have ho2 := hA2.own
  rw [List.nil_append, show min (Int.toNat 8) 8 = 8 from rfl] at ho2
  have hcv2 := conv_gr (dst := 9) tb Try.underlying5 Try.underlying9 ho2
  have HB2 := Lib.hid (below_then HB1.out HB1.out.size hA2.bel)
  clear hA2 ho2
  have C3 := Lib.hid (putBig_any b 8 HB.out (.slice none 0 0) [] w2 w2 (gr_nil _ _ _) (Below.refl _ _) (by simp))
  go_wp2_with fail
  refine C3.out.mono ?_
  rintro e w3 ⟨v3, rfl, hA3⟩
  have ho3 := hA3.own
  rw [List.nil_append, show min (Int.toNat 8) 8 = 8 from rfl] at ho3
  have hcv3 := conv_gr (dst := 9) tb Try.underlying5 Try.underlying9 ho3
  have HB3 := Lib.hid (below_then HB2.out HB2.out.size hA3.bel)
  clear hA3 ho3
  have hls := less_big HA.out HB.out
  have hsm := same_big HA.out HB.out
  rcases Nat.lt_trichotomy a b with h | h | h
  all_goals
    have t1 : decide ((a : Int) < (b : Int)) = decide (a < b) := by simp
    have t2 : ((a : Int) == (b : Int)) = decide (a = b) := by rw [Bool.eq_iff_iff]; simp [Int.natCast_inj]
    have t4 : decide ((b : Int) < (a : Int)) = decide (b < a) := by simp
  · have d1 : decide (a < b) = true := by simpa using h
    have d2 : decide (a = b) = false := by simp; omega
    have d4 : decide (b < a) = false := by simp; omega
    rw [d1] at hls t1
    rw [d2] at hsm t2
    rw [d4] at t4
    have m1 := Lib.hid (put7_mono b a (by omega))
    have m2 := Lib.hid (compact_mono a b (by omega))
    have CS1 := Lib.hid (size_any a HA.out w3)
    have CS2 := Lib.hid (size_any b HB.out w3)
    have hsame : ¬ (strOfNums (be a 8)).toList = (strOfNums (be b 8)).toList := by simpa using hsm
    have t5 : decide (((put7 a).length : Int) ≤ ((put7 b).length : Int)) = true := by have := m1.out; simp; omega
    have hnlt : ¬ b < a := by omega
    clear d1 d2
    go_wp2_with fail
    refine CS1.out.mono ?_
    rintro e w' ⟨rfl, rfl⟩
    go_wp2_with fail
    refine CS2.out.mono ?_
    rintro e w' ⟨rfl, rfl⟩
    have C5 := Lib.hid (compact_any a HA.out (.slice none 0 0) [] w3 w3 (gr_nil _ _ _) (Below.refl _ _) (by simp))
    go_wp2_with fail
    refine C5.out.mono ?_
    rintro e w5 ⟨v5, rfl, hA5⟩
    obtain ⟨A5, n5, c5, rfl, _, HL5, _, _⟩ := gr_open hA5.own
    have HB5 := Lib.hid (below_then HB3.out HB3.out.size hA5.bel)
    clear hA5
    have C6 := Lib.hid (compact_any b HB.out (.slice none 0 0) [] w5 w5 (gr_nil _ _ _) (Below.refl _ _) (by simp))
    go_wp2_with fail
    refine C6.out.mono ?_
    rintro e w6 ⟨v6, rfl, hA6⟩
    obtain ⟨A6, n6, c6, rfl, _, HL6, _, _⟩ := gr_open hA6.own
    have HB6 := Lib.hid (below_then HB5.out HB5.out.size hA6.bel)
    clear hA6
    have t6 : decide ((n5 : Int) ≤ (n6 : Int)) = true := by have h1 := m2.out; have h2 := HL5.out; have h3 := HL6.out; rw [List.nil_append] at h2 h3; simp; omega
    go_wp2_with fail
    go_ret
    have t7 : n5 ≤ n6 := by simpa using t6
    exact ⟨ret_bool (by simp [t7]), HB6.out⟩
  · have d1 : decide (a < b) = false := by simp; omega
    have d2 : decide (a = b) = true := by simp; omega
    have d4 : decide (b < a) = false := by simp; omega
    rw [d1] at hls t1
    rw [d2] at hsm t2
    rw [d4] at t4
    have m1 := Lib.hid (put7_mono b a (by omega))
    have m2 := Lib.hid (compact_mono a b (by omega))
    have CS1 := Lib.hid (size_any a HA.out w3)
    have CS2 := Lib.hid (size_any b HB.out w3)
    have hsame : (strOfNums (be a 8)).toList = (strOfNums (be b 8)).toList := by simpa using hsm
    have t5 : decide (((put7 a).length : Int) ≤ ((put7 b).length : Int)) = true := by have := m1.out; simp; omega
    have hnlt : ¬ b < a := by omega
    subst h
    clear d1 d2 hnlt hsame t1 t2 t4
    go_wp2_with fail
    refine CS1.out.mono ?_
    rintro e w' ⟨rfl, rfl⟩
    go_wp2_with fail
    refine CS2.out.mono ?_
    rintro e w' ⟨rfl, rfl⟩
    have C5 := Lib.hid (compact_any a HA.out (.slice none 0 0) [] w3 w3 (gr_nil _ _ _) (Below.refl _ _) (by simp))
    go_wp2_with fail
    refine C5.out.mono ?_
    rintro e w5 ⟨v5, rfl, hA5⟩
    obtain ⟨A5, n5, c5, rfl, _, HL5, _, _⟩ := gr_open hA5.own
    have HB5 := Lib.hid (below_then HB3.out HB3.out.size hA5.bel)
    clear hA5
    have C6 := Lib.hid (compact_any a HA.out (.slice none 0 0) [] w5 w5 (gr_nil _ _ _) (Below.refl _ _) (by simp))
    go_wp2_with fail
    refine C6.out.mono ?_
    rintro e w6 ⟨v6, rfl, hA6⟩
    obtain ⟨A6, n6, c6, rfl, _, HL6, _, _⟩ := gr_open hA6.own
    have HB6 := Lib.hid (below_then HB5.out HB5.out.size hA6.bel)
    clear hA6
    have t6 : decide ((n5 : Int) ≤ (n6 : Int)) = true := by have h1 := m2.out; have h2 := HL5.out; have h3 := HL6.out; rw [List.nil_append] at h2 h3; simp; omega
    go_wp2_with fail
    go_ret
    have t7 : n5 ≤ n6 := by simpa using t6
    exact ⟨ret_bool (by simp [t7]), HB6.out⟩
  · have d1 : decide (a < b) = false := by simp; omega
    have d2 : decide (a = b) = false := by simp; omega
    have d4 : decide (b < a) = true := by simp; omega
    rw [d1] at hls t1
    rw [d2] at hsm t2
    rw [d4] at t4
    have hsame : ¬ (strOfNums (be a 8)).toList = (strOfNums (be b 8)).toList := by simpa using hsm
    have hge : ¬ ((a : Int) ≤ (b : Int)) := by omega
    clear d1 d2 d4 h
    go_wp2_with fail
    go_ret
    exact ⟨rfl, HB3.out⟩
end Go.Proofs.Ytglkagicmolbeaa.Num
