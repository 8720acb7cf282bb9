/- Slices of pairs as arguments; bits of bytes. -/
import Derived.Test.YtnkeijdpjcclcaaPgG
import Derived.ChangeSame
namespace Go.Proofs.Ytnkeijdpjcclcaa.Pg
set_option linter.unusedVariables false
set_option linter.unusedSimpArgs false
open Go.Proofs.Ytnkeijdpjcclcaa.Kit Go.Proofs.Ytnkeijdpjcclcaa.Num Go.RowKit Go.ChangeShapes Go.Proofs.YtnkeijdpjcclcaaW.PrintWords Go.Proofs.YtnkeijdpjcclcaaW.PrintLast Go.Proofs.YtnkeijdpjcclcaaW.PrintMore NumPure
def okP (z : PB) : Prop := z.1.size ≤ maxLen ∧ z.2.size ≤ maxLen
theorem open_pairs {H : Type} {enc : TypeId × Value → H} {w : World} {base m : Nat} {held : Bool} {A : Option Addr} {n c : Nat} {x : DataW H × List MemPlace} (h : DataW.trod enc Try.prog w base (fun _ => true) held m 22 [.slice A n c] = some x) : ∃ xs, Sts encP 2 w A n xs ∧ n ≤ c ∧ ∀ z ∈ xs, okP z :=
  open_sts encP okP Try.underlying22 (by kernel_rfl) (fun cs m' y hy => by
    obtain ⟨y0, y1, n, _, hl, h0, h1⟩ := trod_struct2 Try.underlying30 hy
    rw [show Try.prog.cellsOf 30 = 2 by kernel_rfl] at hl
    change DataW.trod enc Try.prog w base _ held n 9 ((cs.drop 0).take (Try.prog.cellsOf 9)) = _ at h0
    change DataW.trod enc Try.prog w base _ held n 9 ((cs.drop 1).take (Try.prog.cellsOf 9)) = _ at h1
    rw [show Try.prog.cellsOf 9 = 1 by kernel_rfl] at h0 h1
    obtain ⟨a, e0, _, w0⟩ := DataW.trod_string Try.underlying9 h0
    obtain ⟨v, e1, _, w1⟩ := DataW.trod_string Try.underlying9 h1
    refine ⟨(a, v), ?_, ⟨w0, w1⟩⟩
    have := cut_cons e0 rfl (cut_cons e1 rfl (cut_end hl))
    rw [List.drop_zero] at this
    exact this) h
/-- A slice of pairs, as a fact of a walk. -/
def isSts (ps : List PB) (v : Value) (w : World) : Prop := ∃ A n c, v = .slice A n c ∧ Sts encP 2 w A n ps
theorem isSts_below {ps : List PB} {v : Value} {w w' : World} (h : isSts ps v w) (hb : Below w.heap.size w w') : isSts ps v w' := by
  obtain ⟨A, n, c, h1, h2⟩ := h
  exact ⟨A, n, c, h1, sts_below h2 hb⟩
theorem isSts_own {ps : List PB} {v : Value} {w : World} {B : Nat} (h : OwnK encP 2 30 w B v ps) : isSts ps v w := by
  obtain ⟨A, n, c, e1, _, _, _, e2⟩ := ownk_open encP_len h
  exact ⟨A, n, c, e1, e2⟩
theorem xor8 (a b : Nat) (ha : a < 256) (hb : b < 256) : Go.bits .xor .u8 (a : Int) (b : Int) = ((a ^^^ b : Nat) : Int) := by
  have hx : a ^^^ b < 2 ^ 8 := Nat.xor_lt_two_pow ha hb
  show IntKind.u8.wrap ((BitVec.ofInt 8 (a : Int) ^^^ BitVec.ofInt 8 (b : Int)).toNat : Int) = _
  rw [BitVec.ofInt_natCast, BitVec.ofInt_natCast, BitVec.toNat_xor, BitVec.toNat_ofNat, BitVec.toNat_ofNat, Nat.mod_eq_of_lt (by omega), Nat.mod_eq_of_lt (by omega)]
  exact u8_nat _ (by omega)
theorem xor_ne (a b : Nat) (hb : b ≠ 0) : a ^^^ b ≠ a := by
  intro h
  have h2 : a ^^^ (a ^^^ b) = a ^^^ a := by rw [h]
  rw [← Nat.xor_assoc, Nat.xor_self, Nat.zero_xor] at h2
  exact hb h2
theorem and16 (x : Int) : ∃ q : Nat, Go.bits .and .i64 x 65535 = (q : Int) ∧ q < 65536 := by
  refine ⟨(BitVec.ofInt 64 x).toNat % 65536, ?_, Nat.mod_lt _ (by omega)⟩
  have h1 : (BitVec.ofInt 64 (65535 : Int)).toNat = 2 ^ 16 - 1 := by decide
  show IntKind.i64.wrap ((BitVec.ofInt 64 x &&& BitVec.ofInt 64 65535).toNat : Int) = _
  rw [BitVec.toNat_and, h1, Nat.and_two_pow_sub_one_eq_mod]
  have h3 : (2 : Nat) ^ 16 = 65536 := by decide
  rw [h3, i64_id (by omega) (by omega)]
end Go.Proofs.Ytnkeijdpjcclcaa.Pg
