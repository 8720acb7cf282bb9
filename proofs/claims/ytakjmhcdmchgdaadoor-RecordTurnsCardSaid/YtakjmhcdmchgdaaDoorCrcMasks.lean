/- The walk of the law CrcMasks. -/
import Derived.Test.YtakjmhcdmchgdaaDoorCrcRef
namespace Go.Proofs.YtakjmhcdmchgdaaDoor.Crc
set_option linter.unusedVariables false
open Go.Proofs.YtakjmhcdmchgdaaDoor.Kit Go.RowKit Go.Proofs.YtakjmhcdmchgdaaDoorW.PrintWords Go.Proofs.YtakjmhcdmchgdaaDoorW.PrintLast Go.Proofs.YtakjmhcdmchgdaaDoorW.PrintMore

theorem mask_rot {n : Nat} (h : n < 4294967296) : mask n = (rot n + 2726488792) % 4294967296 := by
  have := rot_mask h
  omega
theorem unmaskAt_eq {t : Nat} (h : t < 4294967296) : unmaskAt t = 2 ^ 15 * (t % 131072) + t / 131072 := by
  unfold unmaskAt
  rw [show t * 32768 % 4294967296 = 2 ^ 15 * (t % 131072) by omega, Nat.or_comm]
  exact (Nat.two_pow_add_eq_or_of_lt (by omega) _).symm
theorem mask_lt (n : Nat) : mask n < 4294967296 := Nat.mod_lt _ (by omega)
theorem unmask_lt {n : Nat} (h : n < 4294967296) : unmask n < 4294967296 := by
  unfold unmask
  rw [unmaskAt_eq (Nat.mod_lt _ (by omega))]
  omega
theorem unmask_mask {n : Nat} (h : n < 4294967296) : unmask (mask n) = n := by
  unfold unmask
  rw [unmaskAt_eq (Nat.mod_lt _ (by omega)), mask_rot h]
  have hr := rot_lt h
  have h1 : rot n % 131072 = n / 32768 := by unfold rot; omega
  have h2 : rot n / 131072 = n % 32768 := by unfold rot; omega
  rw [show ((rot n + 2726488792) % 4294967296 + 1568478504) % 4294967296 = rot n by omega, h1, h2]
  omega
theorem mask_unmask {n : Nat} (h : n < 4294967296) : mask (unmask n) = n := by
  rw [mask_rot (unmask_lt h)]
  unfold unmask
  have ht : (n + 1568478504) % 4294967296 < 4294967296 := Nat.mod_lt _ (by omega)
  rw [unmaskAt_eq ht]
  have h3 : ((n + 1568478504) % 4294967296 + 2726488792) % 4294967296 = n := by omega
  generalize (n + 1568478504) % 4294967296 = t at ht h3 ⊢
  have h1 : (2 ^ 15 * (t % 131072) + t / 131072) % 32768 = t / 131072 := by omega
  have h2 : (2 ^ 15 * (t % 131072) + t / 131072) / 32768 = t % 131072 := by omega
  unfold rot
  rw [h1, h2, show 2 ^ 17 * (t / 131072) + t % 131072 = t by omega]
  exact h3
theorem wf_u32 {x : Int} (h : (Lit.int .u32 x).wf = true) : ∃ n : Nat, x = n ∧ n < 4294967296 := by
  simp [Lit.wf, IntKind.min, IntKind.max, IntKind.signed, IntKind.bits] at h
  exact ⟨x.toNat, by omega, by omega⟩
theorem masks_any (x : Int) (w : World) (hT : Halves w) (hw : (Lit.int .u32 x).wf = true) :
    Calls Tryd.prog 8 #[.int .u32 x] w fun e w' => e = .returned (.bool true) ∧ Below w.heap.size w w' := by
  obtain ⟨n, rfl, hn⟩ := wf_u32 hw
  clear hw
  have c1 := fun W => mask_any n hn W
  have c2 := fun W => refmask_any n hn W
  have c3 := fun W => unmask_any (mask n) (mask_lt n) W
  rw [unmask_mask hn] at c3
  have c4 := fun W => unmask_any n hn W
  have c5 := fun W => mask_any (unmask n) (unmask_lt hn) W
  rw [mask_unmask hn] at c5
  have C1 := Lib.hid c1
  have C2 := Lib.hid c2
  have C3 := Lib.hid c3
  have C4 := Lib.hid c4
  have C5 := Lib.hid c5
  clear c1 c2 c3 c4 c5
  go_enter Tryd.func8, Tryd.ntmps8
  go_wp2_with fail
  refine (head_any w hT).mono ?_
  rintro e w1 ⟨rfl, hB1⟩
  have HB1 := Lib.hid hB1
  clear hB1
  go_wp2_with fail
  refine (C1.out _).mono ?_
  rintro e w' ⟨rfl, rfl⟩
  go_wp2_with fail
  refine (C2.out _).mono ?_
  rintro e w2 ⟨rfl, hB2⟩
  have HB2 := Lib.hid (below_then HB1.out HB1.out.size hB2)
  clear hB2
  go_wp2_with fail
  refine (C1.out _).mono ?_
  rintro e w' ⟨rfl, rfl⟩
  go_wp2_with fail
  refine (C3.out _).mono ?_
  rintro e w' ⟨rfl, rfl⟩
  go_wp2_with fail
  refine (C4.out _).mono ?_
  rintro e w' ⟨rfl, rfl⟩
  go_wp2_with fail
  refine (C5.out _).mono ?_
  rintro e w' ⟨rfl, rfl⟩
  go_wp2_with fail
  go_ret
  exact ⟨rfl, HB2.out⟩
end Go.Proofs.YtakjmhcdmchgdaaDoor.Crc
