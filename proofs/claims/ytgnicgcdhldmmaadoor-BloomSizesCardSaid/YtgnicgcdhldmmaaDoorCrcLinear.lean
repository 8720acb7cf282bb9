/- The walk of the law CrcLinear. -/
import Derived.Test.YtgnicgcdhldmmaaDoorCrcMores
namespace Go.Proofs.YtgnicgcdhldmmaaDoor.Crc
set_option linter.unusedVariables false
open Go.Proofs.YtgnicgcdhldmmaaDoor.Kit Go.RowKit Go.Proofs.YtgnicgcdhldmmaaDoorW.PrintWords Go.Proofs.YtgnicgcdhldmmaaDoorW.PrintLast Go.Proofs.YtgnicgcdhldmmaaDoorW.PrintMore

/-- bytes turned by others, the first k. -/
def turned (l t : List Int) (k : Nat) : List Int := (List.range k).map fun i => Go.bits .xor .u8 (l.getD i 0) (t.getD i 0)
theorem turned_zero (l t : List Int) : turned l t 0 = [] := rfl
theorem turned_succ (l t : List Int) (k : Nat) : turned l t (k + 1) = turned l t k ++ [Go.bits .xor .u8 (l.getD k 0) (t.getD k 0)] := by simp [turned, List.range_succ]
theorem turned_length (l t : List Int) (k : Nat) : (turned l t k).length = k := by simp [turned]

theorem getD_byte {l : List Int} (h : isByte l) (i : Nat) : ∃ a : Nat, l.getD i 0 = (a : Int) ∧ a < 256 := by
  rw [List.getD_eq_getElem?_getD]
  cases hi : l[i]? with
  | none => exact ⟨0, rfl, by omega⟩
  | some x =>
    have := h x (List.mem_of_getElem? hi)
    exact ⟨x.toNat, by simp; omega, by omega⟩
theorem xor_byte {l t : List Int} (hb : isByte l) (hb' : isByte t) (i : Nat) : Go.bits .xor .u8 (l.getD i 0) (t.getD i 0) = (((l.getD i 0).toNat ^^^ (t.getD i 0).toNat : Nat) : Int) := by
  obtain ⟨a, ha, ha'⟩ := getD_byte hb i
  obtain ⟨c, hc, hc'⟩ := getD_byte hb' i
  rw [ha, hc, u8_xor_nat a c ha' hc']
  rfl
theorem turned_byt (l t : List Int) (k : Nat) (h1 : k ≤ l.length) (h2 : k ≤ t.length) (hb : isByte l) (hb' : isByte t) : byt (turned l t k) = List.zipWith (· ^^^ ·) (byt (l.take k)) (byt (t.take k)) := by
  unfold byt turned
  apply List.ext_getElem
  · simp; omega
  · intro i hi1 hi2
    simp only [List.length_map, List.length_range] at hi1
    simp only [List.getElem_map, List.getElem_range, List.getElem_zipWith, List.getElem_take]
    rw [xor_byte hb hb' i, Int.toNat_natCast]
    rw [List.getD_eq_getElem?_getD, List.getD_eq_getElem?_getD, List.getElem?_eq_getElem (by omega), List.getElem?_eq_getElem (by omega)]
    rfl
theorem isByte_turned {l t : List Int} (hb : isByte l) (hb' : isByte t) (k : Nat) : isByte (turned l t k) := by
  intro x hx
  obtain ⟨i, _, rfl⟩ := List.mem_map.1 hx
  rw [xor_byte hb hb' i]
  obtain ⟨a, ha, ha'⟩ := getD_byte hb i
  obtain ⟨c, hc, hc'⟩ := getD_byte hb' i
  have := Nat.xor_lt_two_pow (n := 8) (x := (l.getD i 0).toNat) (y := (t.getD i 0).toNat) (by omega) (by omega)
  omega
theorem inv_xor (a b : Nat) : inv (a ^^^ b) = inv a ^^^ b := by rw [inv_eq, inv_eq, Nat.xor_assoc]
/-- The check is affine: what is turned turns it alike. -/
theorem sum_turned (l t : List Int) (k : Nat) (h1 : k ≤ l.length) (h2 : k ≤ t.length) (hb : isByte l) (hb' : isByte t) : sum (turned l t k) = sum (l.take k) ^^^ CrcPure.bytes 0 (byt (t.take k)) := by
  unfold sum more
  rw [turned_byt l t k h1 h2 hb hb', ← inv_xor, ← CrcPure.bytes_xor _ _ (by simp [byt]; omega), Nat.xor_zero]
theorem xor_self_cancel (a b : Nat) : a ^^^ (a ^^^ b) = b := by rw [← Nat.xor_assoc, Nat.xor_self, Nat.zero_xor]
theorem linear_eq (l1 l2 t : List Int) (k : Nat) (h1 : k ≤ l1.length) (h2 : k ≤ l2.length) (h3 : k ≤ t.length) (hb1 : isByte l1) (hb2 : isByte l2) (hb3 : isByte t) :
    Go.bits .xor .u32 ((sum (l1.take k) : Nat) : Int) ((sum (turned l1 t k) : Nat) : Int) = Go.bits .xor .u32 ((sum (l2.take k) : Nat) : Int) ((sum (turned l2 t k) : Nat) : Int) := by
  rw [u32_xor_nat _ _ (sum_lt (isByte_take hb1 k)) (sum_lt (isByte_turned hb1 hb3 k)), u32_xor_nat _ _ (sum_lt (isByte_take hb2 k)) (sum_lt (isByte_turned hb2 hb3 k))]
  rw [sum_turned l1 t k h1 h3 hb1 hb3, sum_turned l2 t k h2 h3 hb2 hb3, xor_self_cancel, xor_self_cancel]
structure LinRel (w wr : World) (l1 l2 lt : List Int) (k : Nat) (x y : Value) : Prop where
  ox : Own .u8 5 wr w.heap.size x (turned l1 lt k)
  oy : Own .u8 5 wr w.heap.size y (turned l2 lt k)
  ap : Apart x y
  bel : Below w.heap.size w wr

end Go.Proofs.YtgnicgcdhldmmaaDoor.Crc
