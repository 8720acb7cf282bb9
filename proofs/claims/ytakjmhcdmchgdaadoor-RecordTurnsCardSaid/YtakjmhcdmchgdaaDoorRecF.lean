/- Records one behind the other: plain laws. -/
import Derived.Test.YtakjmhcdmchgdaaDoorRecordAgain
namespace Go.Proofs.YtakjmhcdmchgdaaDoor.Rec
set_option linter.unusedVariables false
set_option linter.unusedSimpArgs false
open Go.Proofs.YtakjmhcdmchgdaaDoor.Kit Go.Proofs.YtakjmhcdmchgdaaDoor.Num Go.RowKit NumPure
open Crc (Halves sum mask sum_any mask_any mask_lt sum_lt)
theorem take_take_le {α : Type} {l : List α} {i j : Nat} (h : i ≤ j) : (l.take j).take i = l.take i := by rw [List.take_take, Nat.min_eq_left h]
/-- A record cut short. -/
theorem next_cut (d more : List Int) (q : Nat) (hd : d.length ≤ 1048576) (hq : q < 12 + d.length) : next ((rec_ d ++ more).take q) = ([], 0, 8) := by
  have h4 := le_length d.length 4
  have h8 := le_length (mask (sum (le d.length 4))) 4
  have hp : (256 : Nat) ^ 4 = 4294967296 := by decide
  have hlen : ((rec_ d ++ more).take q).length = q := by rw [List.length_take, List.length_append, rec_length]; omega
  by_cases h12 : q < 12
  · exact next_short _ (by rw [hlen]; exact h12)
  have e1 : (rec_ d ++ more).take 4 = le d.length 4 := by
    unfold rec_
    simp only [List.append_assoc]
    exact List.take_left' h4
  have e2 : ((rec_ d ++ more).take 8).drop 4 = le (mask (sum (le d.length 4))) 4 := by
    unfold rec_
    rw [show (le d.length 4 ++ le (mask (sum (le d.length 4))) 4 ++ le (mask (sum d)) 4 ++ d) ++ more = le d.length 4 ++ le (mask (sum (le d.length 4))) 4 ++ (le (mask (sum d)) 4 ++ d ++ more) by simp only [List.append_assoc]]
    exact seg h4 (by omega)
  have v1 : leVal (le d.length 4) = d.length := leVal_le _ _ (by omega)
  have v2 : leVal (le (mask (sum (le d.length 4))) 4) = mask (sum (le d.length 4)) := leVal_le _ _ (by rw [hp]; exact mask_lt _)
  unfold next
  rw [hlen, take_take_le (show 4 ≤ q by omega), take_take_le (show 8 ≤ q by omega), e1, e2, v1, v2, if_neg h12, if_neg (by simp; omega), if_pos hq]
theorem lay_cons (d : List Int) (r : List (List Int)) : lay (d :: r) = rec_ d ++ lay r := by simp [lay]
/-- What is read stops where the next is no record. -/
theorem chain_stop {p : List (List Int)} {y : List Int} (hp : ∀ d ∈ p, d.length ≤ 1048576) (hy : (next y).2.2 ≠ 0) {a : Nat} {ds : List (List Int)} (h : Chain (lay p ++ y) a ds) :
    ds = p.take ds.length ∧ ds.length ≤ p.length ∧ a = (lay ds).length := by
  induction h with
  | nil => exact ⟨rfl, Nat.zero_le _, rfl⟩
  | @snoc a ds d m h ha hn ih =>
    obtain ⟨i1, i2, i3⟩ := ih
    have hsplit : lay p = lay ds ++ lay (p.drop ds.length) := by
      conv => lhs; rw [← List.take_append_drop ds.length p, lay_append, ← i1]
    have hdrop : (lay p ++ y).drop a = lay (p.drop ds.length) ++ y := by
      rw [hsplit, List.append_assoc, i3]
      exact List.drop_left
    rw [hdrop] at hn
    rcases Nat.lt_or_ge ds.length p.length with g | g
    · rw [List.drop_eq_getElem_cons g] at hn
      have hc : lay (p[ds.length] :: p.drop (ds.length + 1)) ++ y = rec_ p[ds.length] ++ (lay (p.drop (ds.length + 1)) ++ y) := by rw [lay_cons, List.append_assoc]
      rw [hc, next_rec _ _ (hp _ (List.getElem_mem g))] at hn
      simp only [Prod.mk.injEq] at hn
      obtain ⟨rfl, rfl, _⟩ := hn
      refine ⟨?_, by rw [List.length_append, List.length_singleton]; omega, by rw [lay_snoc, List.length_append, rec_length, i3]⟩
      rw [List.length_append, List.length_singleton, List.take_succ_eq_append_getElem g, ← i1]
    · rw [List.drop_eq_nil_of_le g] at hn
      have : next y = (d, m, 0) := by simpa [lay] using hn
      rw [this] at hy
      exact absurd rfl hy
theorem chain_end {p : List (List Int)} {y : List Int} (hp : ∀ d ∈ p, d.length ≤ 1048576) (hy : (next y).2.2 ≠ 0) {a : Nat} {ds : List (List Int)} (h : Chain (lay p ++ y) a ds) (he : (next ((lay p ++ y).drop a)).2.2 ≠ 0) :
    ds = p ∧ a = (lay p).length ∧ (next ((lay p ++ y).drop a)).2.2 = (next y).2.2 := by
  obtain ⟨i1, i2, i3⟩ := chain_stop hp hy h
  have hsplit : lay p = lay ds ++ lay (p.drop ds.length) := by
    conv => lhs; rw [← List.take_append_drop ds.length p, lay_append, ← i1]
  have hdrop : (lay p ++ y).drop a = lay (p.drop ds.length) ++ y := by
    rw [hsplit, List.append_assoc, i3]
    exact List.drop_left
  rcases Nat.lt_or_ge ds.length p.length with g | g
  · rw [hdrop, List.drop_eq_getElem_cons g] at he
    have hc : lay (p[ds.length] :: p.drop (ds.length + 1)) ++ y = rec_ p[ds.length] ++ (lay (p.drop (ds.length + 1)) ++ y) := by rw [lay_cons, List.append_assoc]
    rw [hc, next_rec _ _ (hp _ (List.getElem_mem g))] at he
    exact absurd rfl he
  · have e1 : ds = p := by rw [i1, List.take_of_length_le g]
    refine ⟨e1, by rw [i3, e1], ?_⟩
    rw [hdrop, List.drop_eq_nil_of_le g]
    rfl
/-- How many are whole ahead of a cut. -/
theorem whole (ls : List (List Int)) : ∀ cut, cut ≤ (lay ls).length → ∃ K, K ≤ ls.length ∧ (lay (ls.take K)).length ≤ cut ∧ (K < ls.length → cut < (lay (ls.take (K + 1))).length) := by
  induction ls with
  | nil => intro cut _; exact ⟨0, Nat.le_refl _, Nat.zero_le _, fun h => absurd h (by simp)⟩
  | cons d r ih =>
    intro cut hc
    have hl : ∀ q, (lay ((d :: r).take (q + 1))).length = (rec_ d).length + (lay (r.take q)).length := fun q => by simp [lay]
    have hl0 : (lay (d :: r)).length = (rec_ d).length + (lay r).length := by simp [lay]
    by_cases h : cut < (rec_ d).length
    · exact ⟨0, Nat.zero_le _, Nat.zero_le _, fun _ => by rw [hl]; simp [lay]; exact h⟩
    · obtain ⟨K, k1, k2, k3⟩ := ih (cut - (rec_ d).length) (by omega)
      exact ⟨K + 1, by simpa using k1, by rw [hl]; omega, fun hk => by rw [hl]; have := k3 (by simpa using hk); omega⟩
/-- What All reads of records that are cut. -/
theorem cut_all {ls : List (List Int)} (hp : ∀ d ∈ ls, d.length ≤ 1048576) {cut : Nat} (hc : cut ≤ (lay ls).length) {a : Nat} {ds : List (List Int)} (h : Chain ((lay ls).take cut) a ds) (he : (next (((lay ls).take cut).drop a)).2.2 ≠ 0) :
    ∃ K, K ≤ ls.length ∧ ds = ls.take K ∧ a = (lay (ls.take K)).length ∧ a ≤ cut ∧ (K < ls.length → cut < (lay (ls.take (K + 1))).length) ∧ (next (((lay ls).take cut).drop a)).2.2 = 8 := by
  obtain ⟨K, k1, k2, k3⟩ := whole ls cut hc
  have hsplit : lay ls = lay (ls.take K) ++ lay (ls.drop K) := by rw [← lay_append, List.take_append_drop]
  have htake : (lay ls).take cut = lay (ls.take K) ++ (lay (ls.drop K)).take (cut - (lay (ls.take K)).length) := by
    conv => lhs; rw [hsplit]
    rw [List.take_append, List.take_of_length_le k2]
  have hy : next ((lay (ls.drop K)).take (cut - (lay (ls.take K)).length)) = ([], 0, 8) := by
    rcases Nat.lt_or_ge K ls.length with g | g
    · have k4 := k3 g
      rw [List.take_succ_eq_append_getElem g, lay_snoc, List.length_append, rec_length] at k4
      rw [List.drop_eq_getElem_cons g]
      have hcn : lay (ls[K] :: ls.drop (K + 1)) = rec_ ls[K] ++ lay (ls.drop (K + 1)) := lay_cons _ _
      rw [hcn]
      exact next_cut _ _ _ (hp _ (List.getElem_mem g)) (by omega)
    · rw [List.drop_eq_nil_of_le g]
      simp [lay]
      exact next_short [] (by simp)
  have h2 := h
  rw [htake] at h2 he
  obtain ⟨e1, e2, e3⟩ := chain_end (fun d hd => hp d (List.mem_of_mem_take hd)) (by rw [hy]; decide) h2 he
  exact ⟨K, k1, e1, e2, by omega, k3, by rw [htake, e3, hy]⟩
end Go.Proofs.YtakjmhcdmchgdaaDoor.Rec
