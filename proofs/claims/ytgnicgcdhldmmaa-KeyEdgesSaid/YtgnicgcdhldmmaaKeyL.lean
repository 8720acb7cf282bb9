/- Contracts of package key: text, Get. -/
import Derived.Test.YtgnicgcdhldmmaaKeyK
namespace Go.Proofs.Ytgnicgcdhldmmaa.Key
set_option linter.unusedVariables false
set_option linter.unusedSimpArgs false
open Go.Proofs.Ytgnicgcdhldmmaa.Kit Go.Proofs.Ytgnicgcdhldmmaa.Num Go.RowKit Go.Proofs.YtgnicgcdhldmmaaW.PrintWords Go.Proofs.YtgnicgcdhldmmaaW.PrintLast Go.Proofs.YtgnicgcdhldmmaaW.PrintMore NumPure
theorem getAt_le : ∀ (l : List Int) (i acc : Nat), (getAt i acc l).2.2 = 0 → i < (getAt i acc l).2.1 ∧ (getAt i acc l).2.1 ≤ i + l.length
  | [], i, acc, h => by simp [getAt] at h
  | c :: r, i, acc, h => by
    unfold getAt at h ⊢
    split at h
    · simp at h
    · rename_i h1
      rw [if_neg h1]
      split at h
      · rename_i h2
        rw [if_pos h2]
        split at h
        · simp at h
        · rename_i h3
          rw [if_neg h3]
          simp
      · rename_i h2
        rw [if_neg h2]
        have := getAt_le r (i + 1) _ h
        simp only [List.length_cons]
        omega
theorem getAt_err : ∀ (l : List Int) (i acc : Nat), (getAt i acc l).2.2 = 0 ∨ (getAt i acc l).2.2 = 2 ∨ (getAt i acc l).2.2 = 8
  | [], i, acc => by simp [getAt]
  | c :: r, i, acc => by
    unfold getAt
    split
    · simp
    · split
      · split <;> simp
      · exact getAt_err r _ _
theorem get_le {l : List Int} (h : (get l).2.2 = 0) : 0 < (get l).2.1 ∧ (get l).2.1 ≤ l.length := by
  have := getAt_le l 0 0 h
  unfold NumPure.get
  omega
/-- A text with its length ahead of it: the text, how many bytes, the error. -/
def textF (l : List Int) : ByteArray × Nat × Nat :=
  if (get l).2.2 ≠ 0 then (⟨#[]⟩, 0, (get l).2.2)
  else if l.length - (get l).2.1 < (get l).1 then (⟨#[]⟩, 0, 8)
  else (strOfNums ((l.take ((get l).2.1 + (get l).1)).drop (get l).2.1), (get l).2.1 + (get l).1, 0)
theorem textF_le {l : List Int} (h : (textF l).2.2 = 0) : 0 < (textF l).2.1 ∧ (textF l).2.1 ≤ l.length ∧ (textF l).1.size ≤ l.length := by
  unfold textF at h ⊢
  by_cases h1 : (get l).2.2 ≠ 0
  · rw [if_pos h1] at h
    exact absurd h h1
  · rw [if_neg h1] at h ⊢
    by_cases h2 : l.length - (get l).2.1 < (get l).1
    · rw [if_pos h2] at h
      simp at h
    · rw [if_neg h2]
      have := get_le (l := l) (by simpa using h1)
      simp only [strOf_size, List.length_drop, List.length_take]
      omega
theorem textF_err (l : List Int) : (textF l).2.2 = 0 ∨ (textF l).2.2 = 2 ∨ (textF l).2.2 = 8 := by
  have := getAt_err l 0 0
  unfold textF
  by_cases h1 : (get l).2.2 ≠ 0
  · rw [if_pos h1]; exact this
  · rw [if_neg h1]
    split <;> simp
set_option maxRecDepth 20000 in
set_option maxHeartbeats 3200000 in
theorem text_any (A : Option Addr) (n c : Nat) (l : List Int) (w : World) (hr : Rds .u8 w A n l) (hl : l.length = n) (hn : n ≤ 140737488355328) (hnc : n ≤ c) (hb : Byte l) :
    Calls Try.prog 22 #[.slice A n c] w fun e w' => e = .returned (.tuple #[.string (textF l).1, .int .i64 (textF l).2.1, .int .i64 (textF l).2.2]) ∧ w = w' := by
  have hgl := get_le (l := l)
  have hT : textF l = if (get l).2.2 ≠ 0 then (⟨#[]⟩, 0, (get l).2.2) else if l.length - (get l).2.1 < (get l).1 then (⟨#[]⟩, 0, 8) else (strOfNums ((l.take ((get l).2.1 + (get l).1)).drop (get l).2.1), (get l).2.1 + (get l).1, 0) := rfl
  have CG := Lib.hid (get_any A n c l w hr hl (by omega) hb)
  generalize (get l).1 = v at hT CG
  generalize (get l).2.1 = k at hT CG hgl
  generalize (get l).2.2 = e at hT CG hgl
  generalize textF l = R at hT ⊢
  have HT := Lib.hid hT
  have HR := Lib.hid hr
  have HLL := Lib.hid hl
  clear hT hr hl hb
  by_cases he : e = 0
  · subst he
    have hk := hgl rfl
    rw [HLL.out] at hk
    have HT1 : Hid (R = if n - k < v then (⟨#[]⟩, 0, 8) else (strOfNums ((l.take (k + v)).drop k), k + v, 0)) := Lib.hid (by rw [HT.out, if_neg (by simp), HLL.out])
    have hw1 : IntKind.u64.wrap ((n : Int) - (k : Int)) = (n : Int) - (k : Int) := by
      rw [show (n : Int) - (k : Int) = ((n - k : Nat) : Int) by omega]
      exact u64_nat _ (by omega)
    by_cases hv : n - k < v
    · have t1 : (n : Int) - (k : Int) < (v : Int) := by omega
      rw [if_pos hv] at HT1
      clear HT hgl
      go_enter Try.func22, Try.ntmps22
      go_wp2_with fail
      refine CG.out.mono ?_
      rintro e' w' ⟨rfl, rfl⟩
      unfold three
      go_wp2_with fail
      go_ret3
      exact ⟨by rw [HT1.out]; rfl, rfl⟩
    · have t1 : ¬ (n : Int) - (k : Int) < (v : Int) := by omega
      rw [if_neg hv] at HT1
      have hw2 : IntKind.i64.wrap (v : Int) = (v : Int) := i64_id (by omega) (by omega)
      obtain ⟨AD, hcut, hC⟩ := cut_mid (enc := Value.int .u8) (h1 := int_one .u8) 0 tb A n c k (k + v) v (by omega) (by omega) hnc (k : Int) ((k : Int) + (v : Int)) rfl (by omega)
      have hcv := conv_rds (dst := 9) (c := c - k) tb Try.underlying5 Try.underlying9 (hC w l HR.out)
      clear HT hgl hC
      go_enter Try.func22, Try.ntmps22
      go_wp2_with fail
      refine CG.out.mono ?_
      rintro e' w' ⟨rfl, rfl⟩
      unfold three
      go_wp2_with fail
      go_ret3
      exact ⟨by rw [HT1.out]; rfl, rfl⟩
  · have t1 : ((e : Int) != 0) = true := by simp; omega
    have HT1 : Hid (R = (⟨#[]⟩, 0, e)) := Lib.hid (by rw [HT.out, if_pos he])
    clear HT hgl
    go_enter Try.func22, Try.ntmps22
    go_wp2_with fail
    refine CG.out.mono ?_
    rintro e' w' ⟨rfl, rfl⟩
    unfold three
    go_wp2_with fail
    go_ret3
    exact ⟨by rw [HT1.out]; rfl, rfl⟩
end Go.Proofs.Ytgnicgcdhldmmaa.Key

