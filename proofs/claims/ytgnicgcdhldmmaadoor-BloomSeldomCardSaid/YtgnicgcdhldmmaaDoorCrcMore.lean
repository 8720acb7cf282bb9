/- The contract of the running check (crc.More), of Sum, Mask and Unmask. -/
import Derived.Test.YtgnicgcdhldmmaaDoorKit
import Derived.Test.YtgnicgcdhldmmaaDoorCrcPure
namespace Go.Proofs.YtgnicgcdhldmmaaDoor.Crc
open Go.Proofs.YtgnicgcdhldmmaaDoor.Kit Go.RowKit Go.Proofs.YtgnicgcdhldmmaaDoorW.PrintWords Go.Proofs.YtgnicgcdhldmmaaDoorW.PrintLast Go.Proofs.YtgnicgcdhldmmaaDoorW.PrintMore

/-- The table lies in block 0. -/
structure Halves (w : World) : Prop where
  at_ : ∀ i : Nat, i < 16 → w.cell? ⟨0, i, none⟩ = some (.int .u32 (CrcPure.half i : Nat))

def byt (l : List Int) : List Nat := l.map Int.toNat
def isByte (l : List Int) : Prop := ∀ x ∈ l, 0 ≤ x ∧ x < 256

theorem xor_cancel (a s : Nat) : a ^^^ (a ^^^ s) = s := by rw [← Nat.xor_assoc, Nat.xor_self, Nat.zero_xor]
def full : Nat := 4294967295
theorem full_lt : full < 4294967296 := by unfold full; omega
def inv (s : Nat) : Nat := full ^^^ s
theorem inv_lt {s : Nat} (h : s < 4294967296) : inv s < 4294967296 := CrcPure.xor32 full_lt h
theorem inv_eq (s : Nat) : inv s = full ^^^ s := rfl
theorem inv_inv (s : Nat) : inv (inv s) = s := by
  rw [inv_eq, inv_eq]
  exact xor_cancel full s
theorem u32_max : IntKind.u32.max = (full : Int) := by simp [IntKind.max, IntKind.signed, IntKind.bits, full]
theorem u32_not (s : Nat) (h : s < 4294967296) : Go.bits .xor .u32 IntKind.u32.max (s : Int) = (inv s : Nat) := by
  rw [u32_max, u32_xor_nat full s full_lt h]
  rfl
theorem nib_step (x1 : Nat) (hx : x1 < 4294967296) : ∃ m x2 : Nat, Go.bits .and .u32 (x1 : Int) 15 = (m : Int) ∧ m < 16 ∧ Go.bits .xor .u32 ((x1 : Int) / 16) ((CrcPure.half m : Nat) : Int) = (x2 : Int) ∧ x2 < 4294967296 ∧ x2 = CrcPure.sts 4 x1 := by
  refine ⟨x1 % 16, x1 / 16 ^^^ CrcPure.half (x1 % 16), ?_, Nat.mod_lt _ (by decide), ?_, CrcPure.xor32 (by omega) (CrcPure.half_lt _ (Nat.mod_lt _ (by decide))), CrcPure.nib_eq x1⟩
  · have h := u32_and_nat x1 15 hx (by omega)
    rw [show ((15 : Nat) : Int) = 15 from rfl] at h
    rw [h]
    congr 1
    exact Nat.and_two_pow_sub_one_eq_mod x1 4
  · rw [← u32_xor_nat (x1 / 16) (CrcPure.half (x1 % 16)) (by omega) (CrcPure.half_lt _ (Nat.mod_lt _ (by decide)))]
    rfl
theorem byt_take (l : List Int) (k : Nat) (h : k < l.length) (c : Nat) (hc : rd l (k : Int) = (c : Int)) : byt (l.take (k + 1)) = byt (l.take k) ++ [c] := by
  unfold byt
  rw [List.take_succ_eq_append_getElem h, List.map_append, List.map_cons, List.map_nil]
  have : l[k] = (c : Int) := by rw [← hc]; unfold rd; simp [List.getD_eq_getElem?_getD, List.getElem?_eq_getElem h]
  rw [this]
  rfl
theorem byt_lt {l : List Int} (h : isByte l) : ∀ c ∈ byt l, c < 256 := by
  intro c hc
  obtain ⟨x, hx, rfl⟩ := List.mem_map.1 hc
  have := h x hx
  omega
theorem isByte_take {l : List Int} (h : isByte l) (k : Nat) : isByte (l.take k) := fun x hx => h x (List.mem_of_mem_take hx)
theorem isByte_rd {l : List Int} (h : isByte l) (k : Nat) (hk : k < l.length) : 0 ≤ rd l (k : Int) ∧ rd l (k : Int) < 256 := by
  unfold rd
  rw [Int.toNat_natCast, List.getD_eq_getElem?_getD, List.getElem?_eq_getElem hk]
  exact h _ (List.getElem_mem hk)

set_option maxHeartbeats 400000 in
theorem more_calls (s : Nat) (hs : s < 4294967296) (A : Option Addr) (n c : Nat) (l : List Int) (w : World) (hT : Halves w) (hr : Kd.C (Kd.int .u8) w A n l) (hl : l.length = n) (hn : n ≤ 9223372036854775807) (hb : isByte l) :
    Calls Tryd.prog 35 #[.int .u32 (s : Nat), .slice A n c] w fun e w' => e = .returned (.int .u32 ((inv (CrcPure.bytes (inv s) (byt l)) : Nat) : Int)) ∧ w = w' := by
  have e0 := u32_not s hs
  have h0 := inv_lt hs
  go_enter Tryd.func35, Tryd.ntmps35
  go_wp2
  go_loop [5, 12] (fun r i => ∃ k : Nat, k ≤ n ∧ i = .int .i64 k ∧ r = .int .u32 ((CrcPure.bytes (inv s) (byt (l.take k)) : Nat) : Int)) (fun _ i => n - (intOf i).toNat)
  case atStart => exact ⟨0, Nat.zero_le _, rfl, rfl⟩
  case round =>
    obtain ⟨k, hk, rfl, rfl⟩ := hrel
    clear e0
    have hR := CrcPure.bytes_lt' h0 (byt (l.take k)) (byt_lt (isByte_take hb k))
    by_cases hlt : k < n
    · obtain ⟨ad, hA, hc⟩ := Kd.at_int hr (k : Int) (by omega) (by omega)
      subst hA
      rw [Int.toNat_natCast] at hc
      have hbk := isByte_rd hb k (by omega)
      obtain ⟨cN, hcN⟩ := Int.eq_ofNat_of_zero_le hbk.1
      have hsn := CrcPure.bytes_snoc (inv s) (byt (l.take k)) cN
      rw [← byt_take l k (by omega) cN hcN] at hsn
      generalize CrcPure.bytes (inv s) (byt (l.take k)) = R at hR hsn ⊢
      rw [hcN] at hc hbk
      have hcl : cN < 256 := by omega
      have e1 := u32_xor_nat R cN hR (by omega)
      have hx1 : R ^^^ cN < 4294967296 := CrcPure.xor32 hR (by omega)
      unfold CrcPure.byte at hsn
      generalize R ^^^ cN = x1 at e1 hx1 hsn
      rw [show 8 = 4 + 4 from rfl, CrcPure.sts_add] at hsn
      obtain ⟨m1, x2, a1, hm1, b1, hx2, H2⟩ := nib_step x1 hx1
      rw [← H2] at hsn
      obtain ⟨m2, x3, a2, hm2, b2, hx3, H3⟩ := nib_step x2 hx2
      rw [← H3] at hsn
      have c1 := hT.at_ m1 hm1
      have c2 := hT.at_ m2 hm2
      have Hs := Lib.hid hsn
      clear hsn H2 H3 hcN hl
      go_wp2
      go_round
      case rel => exact ⟨k + 1, by omega, by go_num, by rw [Hs.out]⟩
      case measure => simp [intOf]; omega
    · obtain rfl : k = n := by omega
      have e2 := u32_not _ hR
      rw [List.take_of_length_le (by omega)] at e2 hR ⊢
      go_wp2
      go_ret
      exact ⟨rfl, rfl⟩
end Go.Proofs.YtgnicgcdhldmmaaDoor.Crc
