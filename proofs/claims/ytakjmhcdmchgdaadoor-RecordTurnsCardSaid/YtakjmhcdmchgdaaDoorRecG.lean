/- Bits turned in a record: plain laws. -/
import Derived.Test.YtakjmhcdmchgdaaDoorRecF
import Derived.Test.YtakjmhcdmchgdaaDoorCrcBursts
namespace Go.Proofs.YtakjmhcdmchgdaaDoor.Rec
set_option linter.unusedVariables false
set_option linter.unusedSimpArgs false
open Go.Proofs.YtakjmhcdmchgdaaDoor.Kit Go.Proofs.YtakjmhcdmchgdaaDoor.Num Go.RowKit NumPure
open Crc (Halves sum mask sum_any mask_any mask_lt sum_lt Inv bitAt dbit anyB bursts_ne getD_byte unmask_mask)
theorem mask_inj {x y : Nat} (hx : x < 4294967296) (hy : y < 4294967296) (h : mask x = mask y) : x = y := by rw [← unmask_mask hx, ← unmask_mask hy, h]
theorem eq_of_getD {x y : List Int} (hl : x.length = y.length) (h : ∀ j, j < x.length → x.getD j 0 = y.getD j 0) : x = y := by
  apply List.ext_getElem hl
  intro j h1 h2
  have := h j h1
  rw [List.getD_eq_getElem?_getD, List.getD_eq_getElem?_getD, List.getElem?_eq_getElem h1, List.getElem?_eq_getElem h2] at this
  exact this
theorem getD_take {l : List Int} {i j : Nat} (h : j < i) : (l.take i).getD j 0 = l.getD j 0 := by rw [List.getD_eq_getElem?_getD, List.getD_eq_getElem?_getD, List.getElem?_take, if_pos h]
theorem getD_drop {l : List Int} {i j : Nat} : (l.drop i).getD j 0 = l.getD (i + j) 0 := by rw [List.getD_eq_getElem?_getD, List.getD_eq_getElem?_getD, List.getElem?_drop]
theorem inv_byte {l c : List Int} {a b k j : Nat} (h : Inv l c a b k) (hl : Byte l) (hj : j < l.length) (hout : 8 * j + 8 ≤ a ∨ a + k ≤ 8 * j) : c.getD j 0 = l.getD j 0 := by
  obtain ⟨x, hx, hxl⟩ := getD_byte h.byte j
  obtain ⟨y, hy, hyl⟩ := getD_byte hl j
  rw [hx, hy]
  congr 1
  apply Nat.eq_of_testBit_eq
  intro i
  rcases Nat.lt_or_ge i 8 with g | g
  · have hb := h.bit (8 * j + i) (by omega)
    unfold bitAt at hb
    rw [show (8 * j + i) / 8 = j by omega, show (8 * j + i) % 8 = i by omega, hx, hy, Int.toNat_natCast, Int.toNat_natCast] at hb
    have hd : dbit a b k (8 * j + i) = false := by
      unfold dbit
      rcases hout with h1 | h1
      · rw [show decide (a ≤ 8 * j + i) = false from decide_eq_false (by omega)]; rfl
      · rw [show decide (8 * j + i < a + k) = false from decide_eq_false (by omega)]; simp
    rw [hd] at hb
    simpa using hb
  · have hp : 2 ^ 8 ≤ 2 ^ i := Nat.pow_le_pow_right (by omega) g
    have h8 : 2 ^ 8 = 256 := by decide
    rw [Nat.testBit_lt_two_pow (by omega), Nat.testBit_lt_two_pow (by omega)]
theorem inv_take {l c : List Int} {a b k lo : Nat} (h : Inv l c a b k) (hl : Byte l) (hlo : 8 * lo ≤ a) (hn : lo ≤ l.length) : c.take lo = l.take lo := by
  refine eq_of_getD (by rw [List.length_take, List.length_take, h.len]) fun j hj => ?_
  rw [List.length_take, h.len] at hj
  rw [getD_take (by omega), getD_take (by omega)]
  exact inv_byte h hl (by omega) (.inl (by omega))
theorem inv_drop {l c : List Int} {a b k hi : Nat} (h : Inv l c a b k) (hl : Byte l) (hhi : a + k ≤ 8 * hi) : c.drop hi = l.drop hi := by
  refine eq_of_getD (by rw [List.length_drop, List.length_drop, h.len]) fun j hj => ?_
  rw [List.length_drop, h.len] at hj
  rw [getD_drop, getD_drop]
  exact inv_byte h hl (by omega) (.inr (by omega))
theorem inv_sub {l c : List Int} {a b k : Nat} (h : Inv l c a b k) (lo m : Nat) (hlo : 8 * lo ≤ a) (hm : lo + m ≤ l.length) : Inv ((l.drop lo).take m) ((c.drop lo).take m) (a - 8 * lo) b k := by
  refine ⟨by simp only [List.length_take, List.length_drop, h.len], fun x hx => h.byte x (List.mem_of_mem_drop (List.mem_of_mem_take hx)), fun p hp => ?_⟩
  rw [List.length_take, List.length_drop] at hp
  have hb := h.bit (p + 8 * lo) (by omega)
  have hd : dbit a b k (p + 8 * lo) = dbit (a - 8 * lo) b k p := by
    unfold dbit
    rw [show p + 8 * lo - a = p - (a - 8 * lo) by omega]
    congr 2
    · exact decide_eq_decide.2 ⟨fun _ => by omega, fun _ => by omega⟩
    · exact decide_eq_decide.2 ⟨fun _ => by omega, fun _ => by omega⟩
  have hb2 : ∀ x : List Int, bitAt ((x.drop lo).take m) p = bitAt x (p + 8 * lo) := fun x => by
    unfold bitAt
    rw [getD_take (by omega), getD_drop, show (p + 8 * lo) / 8 = lo + p / 8 by omega, show (p + 8 * lo) % 8 = p % 8 by omega]
  rw [hb2, hb2, hb, hd]
theorem split3 {α : Type} (l : List α) (lo m : Nat) : l = l.take lo ++ (l.drop lo).take m ++ l.drop (lo + m) := by
  conv => lhs; rw [← List.take_append_drop lo l, ← List.take_append_drop m (l.drop lo), List.drop_drop]
  rw [List.append_assoc]
theorem next_badA {T : List Int} {S : Nat} (more : List Int) (hT : T.length = 4) (hb : Byte T) (hS : S < 4294967296) (hne : sum T ≠ S) (hm : 4 ≤ more.length) : (next (T ++ le (mask S) 4 ++ more)).2.2 = 12 := by
  have h4 := le_length (mask S) 4
  have hp : (256 : Nat) ^ 4 = 4294967296 := by decide
  have e1 : (T ++ le (mask S) 4 ++ more).take 4 = T := by rw [List.append_assoc]; exact List.take_left' hT
  have e2 : ((T ++ le (mask S) 4 ++ more).take 8).drop 4 = le (mask S) 4 := seg hT (by omega)
  have v2 : leVal (le (mask S) 4) = mask S := leVal_le _ _ (by rw [hp]; exact mask_lt _)
  have hn : ¬ (T ++ le (mask S) 4 ++ more).length < 12 := by rw [List.length_append, List.length_append]; omega
  have hmm : mask S ≠ mask (sum T) := fun h => hne (mask_inj (sum_lt hb) hS h.symm)
  unfold next
  rw [e1, e2, v2, if_neg hn, if_pos (.inl hmm)]
def hd_ (d : List Int) : List Int := le d.length 4 ++ le (mask (sum (le d.length 4))) 4 ++ le (mask (sum d)) 4
theorem rec_hd (d : List Int) : rec_ d = hd_ d ++ d := rfl
theorem hd_length (d : List Int) : (hd_ d).length = 12 := by simp [hd_, le_length]
theorem next_badB {d D : List Int} (more : List Int) (hl : D.length = d.length) (hd : d.length ≤ 1048576) (hb : Byte d) (hB : Byte D) (hne : sum D ≠ sum d) : (next (hd_ d ++ D ++ more)).2.2 = 12 := by
  have h4 := le_length d.length 4
  have h8 := le_length (mask (sum (le d.length 4))) 4
  have h12 := le_length (mask (sum d)) 4
  have hp : (256 : Nat) ^ 4 = 4294967296 := by decide
  have e1 : (hd_ d ++ D ++ more).take 4 = le d.length 4 := by
    unfold hd_
    simp only [List.append_assoc]
    exact List.take_left' h4
  have e2 : ((hd_ d ++ D ++ more).take 8).drop 4 = le (mask (sum (le d.length 4))) 4 := by
    unfold hd_
    rw [show (le d.length 4 ++ le (mask (sum (le d.length 4))) 4 ++ le (mask (sum d)) 4) ++ D ++ more = le d.length 4 ++ le (mask (sum (le d.length 4))) 4 ++ (le (mask (sum d)) 4 ++ D ++ more) by simp only [List.append_assoc]]
    exact seg h4 (by omega)
  have e3 : ((hd_ d ++ D ++ more).take 12).drop 8 = le (mask (sum d)) 4 := by
    unfold hd_
    rw [show (le d.length 4 ++ le (mask (sum (le d.length 4))) 4 ++ le (mask (sum d)) 4) ++ D ++ more = (le d.length 4 ++ le (mask (sum (le d.length 4))) 4) ++ le (mask (sum d)) 4 ++ (D ++ more) by simp only [List.append_assoc]]
    exact seg (by rw [List.length_append]; omega) (by rw [List.length_append]; omega)
  have e4 : ((hd_ d ++ D ++ more).take (12 + d.length)).drop 12 = D := seg (hd_length d) (by rw [hd_length]; omega)
  have e5 : (hd_ d ++ D ++ more).length = 12 + d.length + more.length := by rw [List.length_append, List.length_append, hd_length]; omega
  have v1 : leVal (le d.length 4) = d.length := leVal_le _ _ (by omega)
  have v2 : leVal (le (mask (sum (le d.length 4))) 4) = mask (sum (le d.length 4)) := leVal_le _ _ (by rw [hp]; exact mask_lt _)
  have v3 : leVal (le (mask (sum d)) 4) = mask (sum d) := leVal_le _ _ (by rw [hp]; exact mask_lt _)
  have hmm : mask (sum d) ≠ mask (sum D) := fun h => hne (mask_inj (sum_lt hB) (sum_lt hb) h.symm)
  unfold next
  rw [e1, e2, e3, v1, e4, v2, v3, e5, if_neg (by omega), if_neg (by simp; omega), if_neg (by omega), if_pos hmm]
/-- Bits turned in the length or in the bytes of record w. -/
theorem turned {ls : List (List Int)} {c : List Int} {w a b k : Nat} (hw : w < ls.length) (hby : ∀ d ∈ ls, Byte d) (hsm : ∀ d ∈ ls, d.length ≤ 1048576) (h : Inv (lay ls) c a b k) (hk : k ≤ 32) (hany : anyB b k = true) {lo m : Nat}
    (hwin : (lo = (lay (ls.take w)).length ∧ m = 4) ∨ (lo = (lay (ls.take w)).length + 12 ∧ m = (ls.getD w []).length)) (hlo : 8 * lo ≤ a) (hhi : a + k ≤ 8 * (lo + m)) :
    ∃ y, c = lay (ls.take w) ++ y ∧ (next y).2.2 = 12 := by
  have hlb : Byte (lay ls) := lay_byte hby
  have hsp : lay ls = lay (ls.take w) ++ (rec_ (ls.getD w []) ++ lay (ls.drop (w + 1))) := by
    conv => lhs; rw [← List.take_append_drop w ls, lay_append, List.drop_eq_getElem_cons hw, lay_cons]
    rw [List.getD_eq_getElem?_getD, List.getElem?_eq_getElem hw]
    rfl
  have hmem : ls.getD w [] ∈ ls := by rw [List.getD_eq_getElem?_getD, List.getElem?_eq_getElem hw]; exact List.getElem_mem _
  generalize hd : ls.getD w [] = d at hwin hsp hmem
  generalize lay (ls.drop (w + 1)) = rest at hsp
  generalize lay (ls.take w) = p at hwin hsp ⊢
  have hlen : (lay ls).length = p.length + (12 + d.length + rest.length) := by rw [hsp, List.length_append, List.length_append, rec_length]
  have hm : lo + m ≤ (lay ls).length := by omega
  have h1 := inv_take h hlb hlo (by omega)
  have h2 := inv_drop (hi := lo + m) h hlb hhi
  have h3 := inv_sub h lo m hlo hm
  have hml : ((lay ls).drop lo |>.take m).length = m := by rw [List.length_take, List.length_drop]; omega
  have hmb : Byte ((lay ls).drop lo |>.take m) := fun x hx => hlb x (List.mem_of_mem_drop (List.mem_of_mem_take hx))
  have hne := bursts_ne h3 hmb hk (by rw [hml]; omega) hany
  have hc := split3 c lo m
  rw [h1, h2] at hc
  have hml' : ((c.drop lo).take m).length = m := h3.len.trans hml
  have hmb' := h3.byte
  generalize (c.drop lo).take m = D at hc hne hml' hmb'
  rcases hwin with ⟨e1, e2⟩ | ⟨e1, e2⟩
  · subst e2
    have k1 : (lay ls).take lo = p := by rw [hsp, e1]; exact List.take_left' rfl
    have k2 : (lay ls).drop lo = le d.length 4 ++ (le (mask (sum (le d.length 4))) 4 ++ (le (mask (sum d)) 4 ++ d ++ rest)) := by
      rw [hsp, e1, List.drop_left' rfl]
      unfold rec_
      simp only [List.append_assoc]
    have k3 : ((lay ls).drop lo).take 4 = le d.length 4 := by rw [k2]; exact List.take_left' (le_length _ _)
    have k4 : (lay ls).drop (lo + 4) = le (mask (sum (le d.length 4))) 4 ++ (le (mask (sum d)) 4 ++ d ++ rest) := by
      rw [← List.drop_drop, k2]
      exact List.drop_left' (le_length _ _)
    rw [k1, k4] at hc
    rw [k3] at hne
    refine ⟨D ++ le (mask (sum (le d.length 4))) 4 ++ (le (mask (sum d)) 4 ++ d ++ rest), by rw [hc]; simp only [List.append_assoc], ?_⟩
    exact next_badA _ hml' hmb' (sum_lt (byte_is (le_is _ _))) hne (by simp only [List.length_append, le_length]; omega)
  · subst e2
    have k0 : lay ls = (p ++ hd_ d) ++ (d ++ rest) := by rw [hsp, rec_hd]; simp only [List.append_assoc]
    have kl : (p ++ hd_ d).length = lo := by rw [List.length_append, hd_length, e1]
    have k1 : (lay ls).take lo = p ++ hd_ d := by rw [k0]; exact List.take_left' kl
    have k2 : (lay ls).drop lo = d ++ rest := by rw [k0]; exact List.drop_left' kl
    have k3 : ((lay ls).drop lo).take d.length = d := by rw [k2]; exact List.take_left' rfl
    have k4 : (lay ls).drop (lo + d.length) = rest := by rw [← List.drop_drop, k2]; exact List.drop_left' rfl
    rw [k1, k4] at hc
    rw [k3] at hne
    refine ⟨hd_ d ++ D ++ rest, by rw [hc]; simp only [List.append_assoc], ?_⟩
    exact next_badB _ hml' (hsm d hmem) (hby d hmem) hmb' hne
end Go.Proofs.YtakjmhcdmchgdaaDoor.Rec
