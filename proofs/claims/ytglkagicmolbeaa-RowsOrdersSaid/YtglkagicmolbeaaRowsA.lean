/- Contracts of package rows. -/
import Derived.Test.YtglkagicmolbeaaNumAid
import Derived.Test.YtglkagicmolbeaaWalk
namespace Go.Proofs.Ytglkagicmolbeaa.Rw
set_option linter.unusedVariables false
set_option linter.unusedSimpArgs false
open Go.Proofs.Ytglkagicmolbeaa.Kit Go.Proofs.Ytglkagicmolbeaa.Num Go.RowKit Go.Proofs.YtglkagicmolbeaaW.PrintWords Go.Proofs.YtglkagicmolbeaaW.PrintLast Go.Proofs.YtglkagicmolbeaaW.PrintMore NumPure

/-- The lowest 32 bits. -/
def U (n : Int) : Nat := (n % 4294967296).toNat
theorem U_lt (n : Int) : U n < 4294967296 := by unfold U; omega
def F4 (n : Int) : ByteArray := strOfNums (be (U n) 4)
theorem F4_size (n : Int) : (F4 n).size = 4 := by unfold F4; rw [strOfNums_size, be_length]
theorem be4 (n : Int) : be (U n) 4 = [n % 4294967296 / 16777216, n % 4294967296 / 65536 % 256, n % 4294967296 / 256 % 256, n % 256] := by
  have h : ((U n : Nat) : Int) = n % 4294967296 := by unfold U; omega
  have h2 : n % 256 = n % 4294967296 % 256 := by omega
  rw [h2, ← h]
  have hlt := U_lt n
  generalize U n = u at hlt
  have e : be u 4 = [((u / 16777216 % 256 : Nat) : Int), ((u / 65536 % 256 : Nat) : Int), ((u / 256 % 256 : Nat) : Int), ((u / 1 % 256 : Nat) : Int)] := rfl
  clear h h2
  have e1 : ((u / 16777216 % 256 : Nat) : Int) = (u : Int) / 16777216 := by omega
  have e2 : ((u / 65536 % 256 : Nat) : Int) = (u : Int) / 65536 % 256 := by omega
  have e3 : ((u / 256 % 256 : Nat) : Int) = (u : Int) / 256 % 256 := by omega
  have e4 : ((u / 1 % 256 : Nat) : Int) = (u : Int) % 256 := by omega
  rw [e, e1, e2, e3, e4]
theorem F4_eq (n : Int) : strOfNums [n % 4294967296 / 16777216, n % 4294967296 / 65536 % 256, n % 4294967296 / 256 % 256, n % 256] = F4 n := by unfold F4; rw [be4]
set_option maxHeartbeats 800000 in
theorem lawfour_any (n : Int) (w : World) : Calls Try.prog 29 #[.int .i64 n] w fun e w' => e = .returned (.string (F4 n)) ∧ Below w.heap.size w w' := by
  have hcv := conv_rds (c := 4) (dst := 9) tb Try.underlying5 Try.underlying9 (rds_lit w 5 (0, 0) 0 [n % 4294967296 / 16777216, n % 4294967296 / 65536 % 256, n % 4294967296 / 256 % 256, n % 256] (by simp) 4 rfl : Rds .u8 _ _ _ _)
  rw [F4_eq] at hcv
  simp only [encs, List.map_cons, List.map_nil] at hcv
  go_enter Try.func29, Try.ntmps29
  go_wp2_with fail
  go_ret
  exact ⟨rfl, below_alloc (Below.refl _ _) _⟩
theorem conv_arr (h : List Int) (hl : h.length = 32) (w : World) : (convert 22 9 (.slice (some ⟨w.heap.size, 0, none⟩) 32 32)).run Try.prog (w.alloc (.cells (nums .u8 h).toArray 32)) = .ok (.string (strOfNums h)) (w.alloc (.cells (nums .u8 h).toArray 32)) :=
  conv_rds (c := 32) (dst := 9) tb Try.underlying5 Try.underlying9 (C_lit w .u8 32 (0, 0) h (by omega) 32 hl)
set_option maxHeartbeats 800000 in
theorem tx_any (h : List Int) (hl : h.length = 32) (w : World) : Calls Try.prog 27 #[.agg (nums .u8 h).toArray] w fun e w' => e = .returned (.string ((⟨#[116]⟩ : ByteArray) ++ strOfNums h)) ∧ Below w.heap.size w w' := by
  have hcv := conv_arr h hl w
  have hsz : (strOfNums h).size = 32 := by rw [strOfNums_size]; exact hl
  generalize strOfNums h = S at hcv hsz ⊢
  go_enter Try.func27, Try.ntmps27
  go_wp2_with fail
  go_ret
  exact ⟨rfl, below_alloc (Below.refl _ _) _⟩
theorem be_mod (q : Nat) : be q 4 = be (q % 4294967296) 4 := by
  have e : ∀ u, be u 4 = [((u / 16777216 % 256 : Nat) : Int), ((u / 65536 % 256 : Nat) : Int), ((u / 256 % 256 : Nat) : Int), ((u / 1 % 256 : Nat) : Int)] := fun _ => rfl
  rw [e, e]
  congr 1
  · omega
  congr 1
  · omega
  congr 1
  · omega
  congr 1
  omega
theorem wrap_u (n : Int) : IntKind.u64.wrap n = n % 18446744073709551616 := by simp [IntKind.wrap, IntKind.signed, IntKind.bits]
theorem u64_of (n : Int) : ∃ q : Nat, n % 18446744073709551616 = (q : Int) ∧ q < 18446744073709551616 ∧ be q 4 = be (U n) 4 := by
  refine ⟨(n % 18446744073709551616).toNat, by omega, by omega, ?_⟩
  rw [be_mod]
  congr 1
  unfold U
  omega
set_option maxHeartbeats 800000 in
theorem four_any (n : Int) (v : Value) (xs : List Int) (w0 w : World) (HO : GrB w w0.heap.size v xs) (HB : Below w0.heap.size w0 w) (hl : xs.length + 8 ≤ 140737488355328) :
    Calls Try.prog 56 #[v, .int .i64 n] w fun e w' => ∃ v', e = .returned v' ∧ AppB w0 w w' v v' (xs ++ be (U n) 4) := by
  obtain ⟨q, h1, h2, h3⟩ := u64_of n
  rw [← wrap_u] at h1
  have C := Lib.hid (putBig_any q 4 h2 v xs w0 w HO HB hl)
  rw [show min (Int.toNat 4) 8 = 4 from rfl, h3] at C
  clear HO HB h2 h3
  go_enter Try.func56, Try.ntmps56
  go_wp2_with fail
  refine C.out.mono ?_
  rintro e w' ⟨v', rfl, hA⟩
  have HA := Lib.hid hA
  clear hA
  go_wp2_with fail
  go_ret
  exact ⟨_, rfl, HA.out⟩
end Go.Proofs.Ytglkagicmolbeaa.Rw
