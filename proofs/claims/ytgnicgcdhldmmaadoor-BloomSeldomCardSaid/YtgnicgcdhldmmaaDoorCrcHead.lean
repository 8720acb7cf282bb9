/- Contracts of Sum, Mask, Unmask (crc) and of the law's head. -/
import Derived.Test.YtgnicgcdhldmmaaDoorCrcMore
namespace Go.Proofs.YtgnicgcdhldmmaaDoor.Crc
open Go.Proofs.YtgnicgcdhldmmaaDoor.Kit Go.RowKit Go.Proofs.YtgnicgcdhldmmaaDoorW.PrintWords Go.Proofs.YtgnicgcdhldmmaaDoorW.PrintLast Go.Proofs.YtgnicgcdhldmmaaDoorW.PrintMore

theorem Halves.below {w w' : World} (h : Halves w) (hb : Below w.heap.size w w') : Halves w' := ⟨fun i hi => pw_cell_below hb (h.at_ i hi)⟩
theorem Halves.drewN {w : World} (h : Halves w) (n : Nat) : Halves (w.drewN n) := h.below (pw_below_drewN (Below.refl _ _) n)
/-- What More tells: the check of l behind bytes whose check is s. -/
def more (s : Nat) (l : List Int) : Nat := inv (CrcPure.bytes (inv s) (byt l))
def sum (l : List Int) : Nat := more 0 l
theorem more_lt {s : Nat} (hs : s < 4294967296) {l : List Int} (hb : isByte l) : more s l < 4294967296 := inv_lt (CrcPure.bytes_lt' (inv_lt hs) _ (byt_lt hb))
theorem sum_lt {l : List Int} (hb : isByte l) : sum l < 4294967296 := more_lt (by omega) hb
theorem more_append (s : Nat) (l k : List Int) : more s (l ++ k) = more (more s l) k := by
  unfold more
  rw [inv_inv, ← CrcPure.bytes_append]
  congr 2
  simp [byt]
theorem more_nil (s : Nat) : more s [] = s := inv_inv s

theorem more_any (s : Nat) (hs : s < 4294967296) (A : Option Addr) (n c : Nat) (l : List Int) (w : World) (hT : Halves w) (hr : Kd.C (Kd.int .u8) w A n l) (hl : l.length = n) (hn : n ≤ 9223372036854775807) (hb : isByte l) :
    Calls Tryd.prog 35 #[.int .u32 (s : Nat), .slice A n c] w fun e w' => e = .returned (.int .u32 (more s l : Nat)) ∧ w = w' := more_calls s hs A n c l w hT hr hl hn hb

theorem sum_any (A : Option Addr) (n c : Nat) (l : List Int) (w : World) (hT : Halves w) (hr : Kd.C (Kd.int .u8) w A n l) (hl : l.length = n) (hn : n ≤ 9223372036854775807) (hb : isByte l) :
    Calls Tryd.prog 27 #[.slice A n c] w fun e w' => e = .returned (.int .u32 (sum l : Nat)) ∧ w = w' := by
  have hM := fun W h1 h2 => more_any 0 (by omega) A n c l W h1 h2 hl hn hb
  have HM := Lib.hid hM
  clear hM hl
  go_enter Tryd.func27, Tryd.ntmps27
  go_wp2_with fail
  refine (HM.out _ hT hr).mono ?_
  rintro e w' ⟨rfl, rfl⟩
  go_wp2
  go_ret
  exact ⟨rfl, rfl⟩

def mask (s : Nat) : Nat := ((s / 32768 ||| s * 131072 % 4294967296) + 2726488792) % 4294967296
def unmaskAt (t : Nat) : Nat := t / 131072 ||| t * 32768 % 4294967296
def unmask (m : Nat) : Nat := unmaskAt ((m + 1568478504) % 4294967296)
theorem mask_eq (s : Nat) (hs : s < 4294967296) : (Go.bits .or .u32 ((s : Int) / 32768) ((s : Int) * 131072 % 4294967296) + 2726488792) % 4294967296 = (mask s : Nat) := by
  have h := u32_or_nat (s / 32768) (s * 131072 % 4294967296) (by omega) (Nat.mod_lt _ (by omega))
  rw [show ((s / 32768 : Nat) : Int) = (s : Int) / 32768 from rfl, show ((s * 131072 % 4294967296 : Nat) : Int) = (s : Int) * 131072 % 4294967296 by omega] at h
  rw [h]
  unfold mask
  omega
theorem unmask_eq (s : Nat) (_hs : s < 4294967296) : Go.bits .or .u32 (((s : Int) - 2726488792) % 4294967296 / 131072) (((s : Int) - 2726488792) % 4294967296 * 32768 % 4294967296) = (unmask s : Nat) := by
  have e : ((s : Int) - 2726488792) % 4294967296 = ((s + 1568478504) % 4294967296 : Nat) := by omega
  unfold unmask
  rw [e]
  have ht : (s + 1568478504) % 4294967296 < 4294967296 := Nat.mod_lt _ (by omega)
  generalize (s + 1568478504) % 4294967296 = t at ht ⊢
  have h := u32_or_nat (t / 131072) (t * 32768 % 4294967296) (by omega) (Nat.mod_lt _ (by omega))
  rw [show ((t / 131072 : Nat) : Int) = (t : Int) / 131072 from rfl, show ((t * 32768 % 4294967296 : Nat) : Int) = (t : Int) * 32768 % 4294967296 by omega] at h
  rw [h]
  rfl
theorem mask_any (s : Nat) (hs : s < 4294967296) (w : World) :
    Calls Tryd.prog 28 #[.int .u32 (s : Nat)] w fun e w' => e = .returned (.int .u32 (mask s : Nat)) ∧ w = w' := by
  have H := Lib.hid (mask_eq s hs)
  go_enter Tryd.func28, Tryd.ntmps28
  go_wp2
  go_ret
  exact ⟨ret_int H.out, rfl⟩
theorem sum_example : sum [49, 50, 51, 52, 53, 54, 55, 56, 57] = 3808858755 := by decide +kernel
theorem isByte_example : isByte [49, 50, 51, 52, 53, 54, 55, 56, 57] := by
  intro x hx
  simp only [List.mem_cons, List.not_mem_nil, or_false] at hx
  omega
end Go.Proofs.YtgnicgcdhldmmaaDoor.Crc
