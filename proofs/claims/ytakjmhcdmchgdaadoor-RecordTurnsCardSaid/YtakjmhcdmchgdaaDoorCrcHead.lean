/- Contracts of Sum, Mask, Unmask (crc) and of the law's head. -/
import Derived.Test.YtakjmhcdmchgdaaDoorCrcMore
namespace Go.Proofs.YtakjmhcdmchgdaaDoor.Crc
open Go.Proofs.YtakjmhcdmchgdaaDoor.Kit Go.RowKit Go.Proofs.YtakjmhcdmchgdaaDoorW.PrintWords Go.Proofs.YtakjmhcdmchgdaaDoorW.PrintLast Go.Proofs.YtakjmhcdmchgdaaDoorW.PrintMore

theorem Halves.below {w w' : World} (h : Halves w) (hb : Below w.heap.size w w') : Halves w' := ⟨fun i hi => pw_cell_below hb (h.at_ i hi)⟩
theorem Halves.drewN {w : World} (h : Halves w) (n : Nat) : Halves (w.drewN n) := h.below (pw_below_drewN (Below.refl _ _) n)
/-- What More tells: the check of l behind bytes whose check is s. -/
def more (s : Nat) (l : List Int) : Nat := inv (CrcPure.bytes (inv s) (byt l))
def sum (l : List Int) : Nat := more 0 l
theorem more_lt {s : Nat} (hs : s < 4294967296) {l : List Int} (hb : isByte l) : more s l < 4294967296 := inv_lt (CrcPure.bytes_lt' (inv_lt hs) _ (byt_lt hb))
theorem sum_lt {l : List Int} (hb : isByte l) : sum l < 4294967296 := more_lt (by omega) hb
theorem more_append (s : Nat) (l k : List Int) : more s (l ++ k) = more (more s l) k := by
  unfold more
  rw [inv_inv, ← CrcPure.bytes_append]
  congr 2
  simp [byt]
theorem more_nil (s : Nat) : more s [] = s := inv_inv s

theorem more_any (s : Nat) (hs : s < 4294967296) (A : Option Addr) (n c : Nat) (l : List Int) (w : World) (hT : Halves w) (hr : Kd.C (Kd.int .u8) w A n l) (hl : l.length = n) (hn : n ≤ 9223372036854775807) (hb : isByte l) :
    Calls Tryd.prog 18 #[.int .u32 (s : Nat), .slice A n c] w fun e w' => e = .returned (.int .u32 (more s l : Nat)) ∧ w = w' := more_calls s hs A n c l w hT hr hl hn hb

theorem sum_any (A : Option Addr) (n c : Nat) (l : List Int) (w : World) (hT : Halves w) (hr : Kd.C (Kd.int .u8) w A n l) (hl : l.length = n) (hn : n ≤ 9223372036854775807) (hb : isByte l) :
    Calls Tryd.prog 16 #[.slice A n c] w fun e w' => e = .returned (.int .u32 (sum l : Nat)) ∧ w = w' := by
  have hM := fun W h1 h2 => more_any 0 (by omega) A n c l W h1 h2 hl hn hb
  have HM := Lib.hid hM
  clear hM hl
  go_enter Tryd.func16, Tryd.ntmps16
  go_wp2_with fail
  refine (HM.out _ hT hr).mono ?_
  rintro e w' ⟨rfl, rfl⟩
  go_wp2
  go_ret
  exact ⟨rfl, rfl⟩

def mask (s : Nat) : Nat := ((s / 32768 ||| s * 131072 % 4294967296) + 2726488792) % 4294967296
def unmaskAt (t : Nat) : Nat := t / 131072 ||| t * 32768 % 4294967296
def unmask (m : Nat) : Nat := unmaskAt ((m + 1568478504) % 4294967296)
theorem mask_eq (s : Nat) (hs : s < 4294967296) : (Go.bits .or .u32 ((s : Int) / 32768) ((s : Int) * 131072 % 4294967296) + 2726488792) % 4294967296 = (mask s : Nat) := by
  have h := u32_or_nat (s / 32768) (s * 131072 % 4294967296) (by omega) (Nat.mod_lt _ (by omega))
  rw [show ((s / 32768 : Nat) : Int) = (s : Int) / 32768 from rfl, show ((s * 131072 % 4294967296 : Nat) : Int) = (s : Int) * 131072 % 4294967296 by omega] at h
  rw [h]
  unfold mask
  omega
theorem unmask_eq (s : Nat) (_hs : s < 4294967296) : Go.bits .or .u32 (((s : Int) - 2726488792) % 4294967296 / 131072) (((s : Int) - 2726488792) % 4294967296 * 32768 % 4294967296) = (unmask s : Nat) := by
  have e : ((s : Int) - 2726488792) % 4294967296 = ((s + 1568478504) % 4294967296 : Nat) := by omega
  unfold unmask
  rw [e]
  have ht : (s + 1568478504) % 4294967296 < 4294967296 := Nat.mod_lt _ (by omega)
  generalize (s + 1568478504) % 4294967296 = t at ht ⊢
  have h := u32_or_nat (t / 131072) (t * 32768 % 4294967296) (by omega) (Nat.mod_lt _ (by omega))
  rw [show ((t / 131072 : Nat) : Int) = (t : Int) / 131072 from rfl, show ((t * 32768 % 4294967296 : Nat) : Int) = (t : Int) * 32768 % 4294967296 by omega] at h
  rw [h]
  rfl
theorem mask_any (s : Nat) (hs : s < 4294967296) (w : World) :
    Calls Tryd.prog 19 #[.int .u32 (s : Nat)] w fun e w' => e = .returned (.int .u32 (mask s : Nat)) ∧ w = w' := by
  have H := Lib.hid (mask_eq s hs)
  go_enter Tryd.func19, Tryd.ntmps19
  go_wp2
  go_ret
  exact ⟨ret_int H.out, rfl⟩
theorem unmask_any (s : Nat) (hs : s < 4294967296) (w : World) :
    Calls Tryd.prog 21 #[.int .u32 (s : Nat)] w fun e w' => e = .returned (.int .u32 (unmask s : Nat)) ∧ w = w' := by
  have H := Lib.hid (unmask_eq s hs)
  go_enter Tryd.func21, Tryd.ntmps21
  go_wp2
  go_ret
  exact ⟨ret_int H.out, rfl⟩

theorem sum_example : sum [49, 50, 51, 52, 53, 54, 55, 56, 57] = 3808858755 := by decide +kernel
theorem isByte_example : isByte [49, 50, 51, 52, 53, 54, 55, 56, 57] := by
  intro x hx
  simp only [List.mem_cons, List.not_mem_nil, or_false] at hx
  omega
theorem head_any (w : World) (hT : Halves w) : Calls Tryd.prog 15 #[] w fun e w' => e = .returned (.bool true) ∧ Below w.heap.size w w' := by
  have kc := fun (w : World) (C : Array Value) (n c : Nat) => Lib.run_convert_bytes_const (P := Tryd.prog) w 22 5 C n c Tryd.underlying22 Tryd.underlying5
  have hC := C_lit w .u8 5 (9, 10) [49, 50, 51, 52, 53, 54, 55, 56, 57] (by simp) 9 rfl
  have hbel := below_alloc (Below.refl w.heap.size w) (.cells (nums .u8 [49, 50, 51, 52, 53, 54, 55, 56, 57]).toArray 5 (9, 10))
  have HS := fun W h1 h2 => sum_any (some ⟨w.heap.size, 0, none⟩) 9 9 [49, 50, 51, 52, 53, 54, 55, 56, 57] W h1 h2 rfl (by omega) isByte_example
  rw [sum_example] at HS
  have H := Lib.hid (HS _ (hT.below hbel) hC)
  have HB := Lib.hid hbel
  clear HS hC hbel
  go_enter Tryd.func15, Tryd.ntmps15
  go_wp2_with fail
  refine H.out.mono ?_
  rintro e w' ⟨rfl, rfl⟩
  go_wp2
  go_ret
  exact ⟨rfl, HB.out⟩
end Go.Proofs.YtakjmhcdmchgdaaDoor.Crc
