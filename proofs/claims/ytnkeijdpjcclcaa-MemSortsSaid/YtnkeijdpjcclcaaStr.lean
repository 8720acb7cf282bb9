/- Texts made of bytes: conversions, comparisons. -/
import Derived.Test.YtnkeijdpjcclcaaKit2
namespace Go.Proofs.Ytnkeijdpjcclcaa.Kit
set_option linter.unusedVariables false
open Go.RowKit Go.Proofs.YtnkeijdpjcclcaaW.PrintWords Go.Proofs.YtnkeijdpjcclcaaW.PrintLast Go.Proofs.YtnkeijdpjcclcaaW.PrintMore

theorem conv_own {P : Program} {t e dst : TypeId} {bytes : Nat} {z : Value} (T : SlTy P t e z bytes) (he : P.underlying e = some (.int .u8)) (hd : P.underlying dst = some .string) {w : World} {B : Nat} {v : Value} {xs : List Int} (h : Own .u8 e w B v xs) :
    (convert t dst v).run P w = .ok (.string (strOfNums xs)) w := own_string T.und he hd (Kd.own_of_R h)
theorem conv_rds {P : Program} {t e dst : TypeId} {bytes : Nat} {z : Value} (T : SlTy P t e z bytes) (he : P.underlying e = some (.int .u8)) (hd : P.underlying dst = some .string) {w : World} {A : Option Addr} {n c : Nat} {xs : List Int} (h : Rds .u8 w A n xs) :
    (convert t dst (.slice A n c)).run P w = .ok (.string (strOfNums xs)) w := by
  have hl := rds_len h
  subst hl
  exact Kd.C_string T.und he hd h
theorem str_list (xs : List Int) : (strOfNums xs).toList = xs.map fun n => UInt8.ofNat n.toNat := by rw [ByteArray.toList_eq]; rfl
theorem u8_inj {a b : Int} (ha : 0 ≤ a ∧ a < 256) (hb : 0 ≤ b ∧ b < 256) (h : UInt8.ofNat a.toNat = UInt8.ofNat b.toNat) : a = b := by
  have := congrArg UInt8.toNat h
  simp only [UInt8.toNat_ofNat'] at this
  omega
theorem str_inj {xs ys : List Int} (hx : ∀ x ∈ xs, 0 ≤ x ∧ x < 256) (hy : ∀ x ∈ ys, 0 ≤ x ∧ x < 256) (h : (strOfNums xs).toList = (strOfNums ys).toList) : xs = ys := by
  rw [str_list, str_list] at h
  induction xs generalizing ys with
  | nil => cases ys with
    | nil => rfl
    | cons _ _ => simp at h
  | cons x xs ih => cases ys with
    | nil => simp at h
    | cons y ys =>
      simp only [List.map_cons, List.cons.injEq] at h
      rw [u8_inj (hx x (by simp)) (hy y (by simp)) h.1, ih (fun z hz => hx z (by simp [hz])) (fun z hz => hy z (by simp [hz])) h.2]
theorem str_append (xs ys : List Int) : strOfNums (xs ++ ys) = strOfNums xs ++ strOfNums ys := by
  apply ByteArray.ext
  simp [strOfNums, ByteArray.data_append]
end Go.Proofs.Ytnkeijdpjcclcaa.Kit
