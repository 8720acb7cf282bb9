/- What Next reads of a record; the document's example. -/
import Derived.Test.YtakjmhcdmchgdaaDoorRecB
namespace Go.Proofs.YtakjmhcdmchgdaaDoor.Rec
set_option linter.unusedVariables false
set_option linter.unusedSimpArgs false
open Go.Proofs.YtakjmhcdmchgdaaDoor.Kit Go.Proofs.YtakjmhcdmchgdaaDoor.Num Go.RowKit Go.Proofs.YtakjmhcdmchgdaaDoorW.PrintWords Go.Proofs.YtakjmhcdmchgdaaDoorW.PrintLast Go.Proofs.YtakjmhcdmchgdaaDoorW.PrintMore NumPure
open Crc (Halves sum mask sum_any mask_any mask_lt sum_lt)
theorem seg {α : Type} {a b c : List α} {i j : Nat} (hi : a.length = i) (hj : a.length + b.length = j) : ((a ++ b ++ c).take j).drop i = b := by
  subst hi; subst hj
  rw [List.take_left' (by rw [List.length_append]), List.drop_left]
theorem next_rec (l more : List Int) (hl : l.length ≤ 1048576) : next (rec_ l ++ more) = (l, 12 + l.length, 0) := by
  have h4 := le_length l.length 4
  have h8 := le_length (mask (sum (le l.length 4))) 4
  have h12 := le_length (mask (sum l)) 4
  have hp : (256 : Nat) ^ 4 = 4294967296 := by decide
  have e1 : (rec_ l ++ more).take 4 = le l.length 4 := by
    unfold rec_
    simp only [List.append_assoc]
    exact List.take_left' h4
  have e2 : ((rec_ l ++ more).take 8).drop 4 = le (mask (sum (le l.length 4))) 4 := by
    unfold rec_
    rw [show (le l.length 4 ++ le (mask (sum (le l.length 4))) 4 ++ le (mask (sum l)) 4 ++ l) ++ more = le l.length 4 ++ le (mask (sum (le l.length 4))) 4 ++ (le (mask (sum l)) 4 ++ l ++ more) by simp only [List.append_assoc]]
    exact seg h4 (by omega)
  have e3 : ((rec_ l ++ more).take 12).drop 8 = le (mask (sum l)) 4 := by
    unfold rec_
    rw [show (le l.length 4 ++ le (mask (sum (le l.length 4))) 4 ++ le (mask (sum l)) 4 ++ l) ++ more = (le l.length 4 ++ le (mask (sum (le l.length 4))) 4) ++ le (mask (sum l)) 4 ++ (l ++ more) by simp only [List.append_assoc]]
    exact seg (by rw [List.length_append]; omega) (by rw [List.length_append]; omega)
  have e4 : ((rec_ l ++ more).take (12 + l.length)).drop 12 = l := by
    unfold rec_
    exact seg (by simp only [List.length_append]; omega) (by simp only [List.length_append]; omega)
  have e5 : (rec_ l ++ more).length = 12 + l.length + more.length := by rw [List.length_append, rec_length]
  have v1 : leVal (le l.length 4) = l.length := leVal_le _ _ (by omega)
  have v2 : leVal (le (mask (sum (le l.length 4))) 4) = mask (sum (le l.length 4)) := leVal_le _ _ (by rw [hp]; exact mask_lt _)
  have v3 : leVal (le (mask (sum l)) 4) = mask (sum l) := leVal_le _ _ (by rw [hp]; exact mask_lt _)
  unfold next
  rw [e1, e2, e3, v1, e4, v2, v3, e5, if_neg (by omega), if_neg (by simp; omega), if_neg (by omega), if_neg (by simp)]
theorem next_short (l : List Int) (h : l.length < 12) : next l = ([], 0, 8) := by unfold next; rw [if_pos h]
set_option maxRecDepth 20000 in
set_option maxHeartbeats 3200000 in
theorem head_any (w : World) (hT : Halves w) : Calls Tryd.prog 22 #[] w fun e w' => e = .returned (.bool true) ∧ Below w.heap.size w w' := by
  have C1 := Lib.hid (recPut_any none 0 0 [] (.slice none 0 0) [] w w hT (gr_nil _ _ _) (Below.refl _ _) (rds_nil _ _) (by intro x hx; cases hx) (by intro x hx; cases hx) (by omega) (by simp))
  have HT := Lib.hid hT
  clear hT
  go_enter Tryd.func22, Tryd.ntmps22
  go_wp2_with fail
  refine C1.out.mono ?_
  rintro e w1 ⟨v1, rfl, hA⟩
  have ho := hA.own
  rw [List.nil_append] at ho
  have HB := Lib.hid hA.bel
  obtain ⟨A, n, c, rfl, hnc, HL, hm, hr⟩ := gr_open ho
  have hn : n = 12 := by rw [← HL.out, rec_length]; rfl
  subst hn
  obtain ⟨hcut, hC⟩ := cut_to (enc := Value.int .u8) (h1 := int_one .u8) 0 tb A 12 c 11 (by omega) hnc 11 rfl
  have hT1 := halves_of HT.out HB.out
  have hbt := rec_byte (l := []) (by intro x hx; cases hx)
  have C2 := Lib.hid (recNext_any A 11 c _ w1 hT1 (hC w1 _ hr) (hbt.take 11) (by omega) (by omega))
  have C3 := Lib.hid (fun w2 (h : Below w1.heap.size w1 w2) => recNext_any A 12 c _ w2 (halves_of hT1 h) (rds_below hr h) hbt hnc (by omega))
  clear hA ho hr hC hT1 hbt C1 HL
  go_wp2_with fail
  refine C2.out.mono ?_
  rintro e w2 ⟨v2, rfl, _, hb2⟩
  rw [next_short _ (by rw [List.length_take]; omega)]
  have HB2 := Lib.hid hb2
  clear hb2 C2
  go_wp2_with fail
  refine (C3.out w2 HB2.out).mono ?_
  rintro e w3 ⟨v3, rfl, ho3, hb3⟩
  have hnx : next (rec_ []) = ([], 12, 0) := by have := next_rec [] [] (by simp); rwa [List.append_nil] at this
  rw [hnx] at ho3 ⊢
  obtain ⟨A3, n3, c3, rfl, hnc3, HL3, hm3, hr3⟩ := gr_open ho3
  have hn3 : n3 = 0 := HL3.out.symm
  subst hn3
  have HB3 := Lib.hid (below_then (below_then HB.out HB.out.size HB2.out) (by have := HB.out.size; have := HB2.out.size; omega) hb3)
  clear hb3 C3 hnx ho3 hr3
  go_wp2_with fail
  go_ret
  exact ⟨rfl, HB3.out⟩
end Go.Proofs.YtakjmhcdmchgdaaDoor.Rec
