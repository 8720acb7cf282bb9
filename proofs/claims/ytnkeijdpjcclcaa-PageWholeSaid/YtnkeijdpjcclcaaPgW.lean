/- The pages of the law PageWhole, without the program. -/
import Derived.Test.YtnkeijdpjcclcaaPgH
namespace Go.Proofs.Ytnkeijdpjcclcaa.Pg
set_option linter.unusedVariables false
set_option linter.unusedSimpArgs false
open Go.Proofs.Ytnkeijdpjcclcaa.Kit Go.Proofs.Ytnkeijdpjcclcaa.Num Go.RowKit Go.Proofs.YtnkeijdpjcclcaaW.PrintWords Go.Proofs.YtnkeijdpjcclcaaW.PrintLast Go.Proofs.YtnkeijdpjcclcaaW.PrintMore NumPure
def nmL (i L : Nat) : List Int := [107, 101, 121, ((97 + i / 26 : Nat) : Int), ((97 + i % 26 : Nat) : Int)] ++ List.replicate L 120
def nameW (i : Nat) : Nat → ByteArray
  | 0 => (⟨#[107, 101, 121]⟩ : ByteArray) ++ strOfNums [((97 + i / 26 : Nat) : Int), ((97 + i % 26 : Nat) : Int)]
  | L + 1 => nameW i L ++ ⟨#[120]⟩
theorem nums_nameW (i : Nat) (hi : i < 100) : ∀ L, numsOf (nameW i L) = nmL i L
  | 0 => by
    have h1 : numsOf (⟨#[107, 101, 121]⟩ : ByteArray) = [107, 101, 121] := by rw [numsOf_data]; rfl
    rw [nameW, numsOf_append, h1, numsOf_strOfNums]
    · simp [nmL]
    · intro x hx
      simp only [List.mem_cons, List.not_mem_nil, or_false] at hx
      rcases hx with rfl | rfl <;> omega
  | L + 1 => by
    have h1 : numsOf (⟨#[120]⟩ : ByteArray) = [120] := by rw [numsOf_data]; rfl
    rw [nameW, numsOf_append, nums_nameW i hi L, h1]
    simp only [nmL, List.append_assoc, List.replicate_succ']
theorem nameW_size (i L : Nat) (hi : i < 100) : (nameW i L).size = 5 + L := by
  rw [← numsOf_length, nums_nameW i hi]; simp [nmL]; omega
def listW (L n : Nat) : List PB := (List.range n).map fun i => (nameW i L, ⟨#[118]⟩)
theorem listW_length (L n : Nat) : (listW L n).length = n := by simp [listW]
theorem listW_succ (L n : Nat) : listW L (n + 1) = listW L n ++ [(nameW n L, ⟨#[118]⟩)] := by simp [listW, List.range_succ]
theorem listW_get (L n k : Nat) (h : k < n) : (listW L n).getD k default = (nameW k L, ⟨#[118]⟩) := by
  rw [List.getD_eq_getElem?_getD, List.getElem?_eq_getElem (by rw [listW_length]; exact h)]
  simp [listW]
theorem listW_sizes (L n : Nat) (hn : n ≤ 100) (hL : L ≤ 100) : ∀ p ∈ listW L n, p.1.size ≤ 300 ∧ p.2.size ≤ 300 := by
  intro p hp
  obtain ⟨i, hi, rfl⟩ := List.mem_map.1 hp
  have := List.mem_range.1 hi
  refine ⟨?_, ?_⟩
  · show (nameW i L).size ≤ 300
    rw [nameW_size i L (by omega)]; omega
  · show (⟨#[118]⟩ : ByteArray).size ≤ 300
    decide
theorem nmL_lt (i j L : Nat) (h : i < j) (hj : j < 100) : ltN (nmL i L) (nmL j L) = true := by
  have h1 : i / 26 < j / 26 ∨ (i / 26 = j / 26 ∧ i % 26 < j % 26) := by omega
  simp only [nmL, List.cons_append, List.nil_append, ltN]
  simp only [Int.lt_irrefl, if_false, if_true]
  rcases h1 with h1 | ⟨h1, h2⟩
  · rw [if_pos (by omega)]
  · rw [if_neg (by omega), if_pos (by omega), if_pos (by omega)]
theorem fit_gen {l : List PR} (hs : ∀ p ∈ l, p.1.length ≤ 300 ∧ p.2.length ≤ 300) : ∀ k, k ≤ l.length → (bodyAt l k).length ≤ 700 * k
  | 0, _ => by simp [bodyAt]
  | k + 1, hk => by
    have ih := fit_gen hs k (by omega)
    have hlk : k < l.length := by omega
    have hp := hs l[k] (List.getElem_mem hlk)
    have h1 : nmAt l k = l[k].1 := by simp [nmAt, List.getD_eq_getElem?_getD, List.getElem?_eq_getElem hlk]
    have h2 : vlAt l k = l[k].2 := by simp [vlAt, List.getD_eq_getElem?_getD, List.getElem?_eq_getElem hlk]
    have h3 := same_name l k
    rw [h1] at h3
    have e : (rowOf (sameAt l k) (nmAt l k) (vlAt l k)).length ≤ 700 := by
      unfold rowOf
      rw [h1, h2]
      have a1 := put7_len10 (n := sameAt l k) (by omega)
      have a2 := put7_len10 (n := l[k].1.length - sameAt l k) (by omega)
      have a3 := put7_len10 (n := l[k].2.length) (by omega)
      simp only [List.length_append, List.length_drop]
      omega
    simp only [bodyAt, List.length_append]
    omega
theorem goodW (L n : Nat) (hn : n ≤ 100) (hL : L ≤ 100) : Good (nn (listW L n)) n := by
  intro k hk
  refine ⟨?_, ?_⟩
  · rcases Nat.eq_zero_or_pos k with h | h
    · exact .inl h
    · refine .inr ?_
      have e1 : lastAt (nn (listW L n)) k = nmL (k - 1) L := by
        unfold lastAt
        rw [if_neg (by omega), nm_nn, listW_get L n _ (by omega)]
        exact nums_nameW _ (by omega) L
      have e2 : nmAt (nn (listW L n)) k = nmL k L := by
        rw [nm_nn, listW_get L n _ hk]
        exact nums_nameW _ (by omega) L
      rw [e1, e2]
      exact nmL_lt _ _ L (by omega) (by omega)
  · have hs : ∀ p ∈ nn (listW L n), p.1.length ≤ 300 ∧ p.2.length ≤ 300 := by
      intro p hp
      obtain ⟨q, hq, rfl⟩ := List.mem_map.1 hp
      rw [numsOf_length, numsOf_length]
      exact listW_sizes L n hn hL q hq
    have := fit_gen hs (k + 1) (by rw [nn_length, listW_length]; omega)
    unfold Fit
    omega
theorem body_front {l l' : List PR} : ∀ k, (∀ j, j < k → nmAt l j = nmAt l' j ∧ vlAt l j = vlAt l' j) → bodyAt l k = bodyAt l' k
  | 0, _ => rfl
  | k + 1, h => by
    have ih := body_front k (fun j hj => h j (by omega))
    have h1 := h k (by omega)
    have h2 : lastAt l k = lastAt l' k := by
      unfold lastAt
      split
      · rfl
      · exact (h (k - 1) (by omega)).1
    have h3 : sameAt l k = sameAt l' k := by unfold sameAt; rw [h1.1, h2]
    simp only [bodyAt, ih, h1.1, h1.2, h3]
theorem page_grow (L k : Nat) : (pageOf (nn (listW L k))).length < (pageOf (nn (listW L (k + 1)))).length := by
  rw [page_length, page_length, nn_length, nn_length, listW_length, listW_length]
  have h1 : bodyAt (nn (listW L k)) k = bodyAt (nn (listW L (k + 1))) k := body_front k (fun j hj => by
    rw [nm_nn, nm_nn, vl_nn, vl_nn, listW_get L k j hj, listW_get L (k + 1) j (by omega)]
    exact ⟨rfl, rfl⟩)
  have h2 := body_mono (nn (listW L (k + 1))) k
  have h3 : cntAt k ≤ cntAt (k + 1) := by unfold cntAt; omega
  rw [h1]
  omega
theorem places_get (l : List PR) : ∀ k i, i < cntAt k → (places l k).getD i 0 = ((bodyAt l (8 * i)).length : Int)
  | 0, i, h => by simp [cntAt] at h
  | k + 1, i, h => by
    have ih := places_get l k
    rw [cnt_succ] at h
    simp only [places]
    split
    · next h8 =>
      rw [if_pos h8] at h
      rcases Nat.lt_or_ge i (cntAt k) with g | g
      · rw [List.getD_eq_getElem?_getD, List.getElem?_append_left (by rw [places_length]; exact g), ← List.getD_eq_getElem?_getD]
        exact ih i g
      · obtain rfl : i = cntAt k := by omega
        have hk : 8 * cntAt k = k := by unfold cntAt; omega
        rw [List.getD_eq_getElem?_getD, List.getElem?_append_right (by rw [places_length]; exact Nat.le_refl _), places_length, Nat.sub_self, hk]
        rfl
    · next h8 =>
      rw [if_neg h8] at h
      exact ih i h
theorem nums4_get (xs : List Int) (e : Nat) : ∀ k i, i < k → (nums4 xs e k).getD i 0 = ((leVal ((xs.drop (e + 4 * i)).take 4) : Nat) : Int)
  | 0, i, h => by omega
  | k + 1, i, h => by
    rw [nums4]
    rcases Nat.lt_or_ge i k with g | g
    · rw [List.getD_eq_getElem?_getD, List.getElem?_append_left (by rw [nums4_length]; exact g), ← List.getD_eq_getElem?_getD]
      exact nums4_get xs e k i g
    · obtain rfl : i = k := by omega
      rw [List.getD_eq_getElem?_getD, List.getElem?_append_right (by rw [nums4_length]; exact Nat.le_refl _), nums4_length, Nat.sub_self]
      rfl
/-- What the law looks at, of every eighth pair. -/
theorem wholeW (L n i : Nat) (hn : n ≤ 100) (hL : L ≤ 100) (hi : i < cntAt n) (hn0 : 8 * i < n) (xs : List Int) (hxs : pageOf (nn (listW L n)) = xs) :
    leVal ((xs.drop (xs.length - 4 - 4 * cntAt n + 4 * i)).take 4) = (bodyAt (nn (listW L n)) (8 * i)).length ∧ xs.getD (bodyAt (nn (listW L n)) (8 * i)).length 0 = 0 ∧ xs.getD ((bodyAt (nn (listW L n)) (8 * i)).length + 1) 0 = ((5 + L : Nat) : Int) ∧ (bodyAt (nn (listW L n)) (8 * i)).length + 1 < xs.length := by
  have hg : Good (nn (listW L n)) (nn (listW L n)).length := by rw [nn_length, listW_length]; exact goodW L n hn hL
  have hip : IsPage xs (nn (listW L n)) := ⟨hg, hxs⟩
  have hpe := page_end hip
  have hpp := page_places hip
  have hln : (nn (listW L n)).length = n := by rw [nn_length, listW_length]
  rw [hln] at hpe hpp
  have h1 := nums4_get xs (endOf xs) (cntAt n) i hi
  rw [hpp, places_get _ n i hi] at h1
  have he : endOf xs = xs.length - 4 - 4 * cntAt n := by unfold endOf; rw [hpe.2.1]
  rw [he] at h1
  have hnm : nmAt (nn (listW L n)) (8 * i) = nmL (8 * i) L := by
    rw [nm_nn, listW_get L n _ hn0]
    exact nums_nameW _ (by omega) L
  have hnl : (nmL (8 * i) L).length = 5 + L := by simp [nmL]; omega
  have hs : sameAt (nn (listW L n)) (8 * i) = 0 := by unfold sameAt; rw [if_pos (by omega)]
  have hrow : ∃ r, rowOf (sameAt (nn (listW L n)) (8 * i)) (nmAt (nn (listW L n)) (8 * i)) (vlAt (nn (listW L n)) (8 * i)) = 0 :: ((5 + L : Nat) : Int) :: r := by
    rw [hs, hnm]
    unfold rowOf
    rw [hnl, Nat.sub_zero, put7_small (by omega), put7_small (n := 5 + L) (by omega)]
    exact ⟨_, rfl⟩
  obtain ⟨r, hr⟩ := hrow
  have hsplit : ∃ post, xs = bodyAt (nn (listW L n)) (8 * i) ++ (0 :: ((5 + L : Nat) : Int) :: (r ++ post)) := by
    have key : ∀ m, 8 * i + 1 ≤ m → ∃ post, bodyAt (nn (listW L n)) m = bodyAt (nn (listW L n)) (8 * i) ++ (0 :: ((5 + L : Nat) : Int) :: (r ++ post)) := by
      intro m
      induction m with
      | zero => intro h; omega
      | succ m ih =>
        intro h
        rcases Nat.lt_or_ge (8 * i) m with g | g
        · obtain ⟨post, hp⟩ := ih (by omega)
          exact ⟨post ++ rowOf (sameAt (nn (listW L n)) m) (nmAt (nn (listW L n)) m) (vlAt (nn (listW L n)) m), by simp only [bodyAt]; rw [hp]; simp only [List.append_assoc, List.cons_append]⟩
        · obtain rfl : m = 8 * i := by omega
          exact ⟨[], by simp only [bodyAt]; rw [hr]; simp⟩
    obtain ⟨post, hp⟩ := key n (by omega)
    refine ⟨post ++ (wholeAt (nn (listW L n)) n ++ le (cntAt n) 4), ?_⟩
    rw [← hxs, pageOf, hln, hp]
    simp only [List.append_assoc, List.cons_append]
  obtain ⟨post, hp⟩ := hsplit
  refine ⟨by omega, ?_, ?_, ?_⟩
  · rw [hp, List.getD_eq_getElem?_getD, List.getElem?_append_right (Nat.le_refl _), Nat.sub_self]; rfl
  · rw [hp, List.getD_eq_getElem?_getD, List.getElem?_append_right (by omega), Nat.add_sub_cancel_left]; rfl
  · have := congrArg List.length hp
    simp only [List.length_append, List.length_cons] at this
    omega
theorem and_small (x : Int) (m : Nat) (hm : (BitVec.ofInt 64 ((2 ^ m - 1 : Nat) : Int)).toNat = 2 ^ m - 1) (h16 : m ≤ 16) : ∃ q : Nat, Go.bits .and .i64 x ((2 ^ m - 1 : Nat) : Int) = (q : Int) ∧ q < 2 ^ m := by
  have hp : 0 < 2 ^ m := Nat.pos_of_ne_zero (by simp)
  have hle : 2 ^ m ≤ 2 ^ 16 := Nat.pow_le_pow_right (by omega) h16
  have h65 : (2 : Nat) ^ 16 = 65536 := by decide
  refine ⟨(BitVec.ofInt 64 x).toNat % 2 ^ m, ?_, Nat.mod_lt _ hp⟩
  have hlt : (BitVec.ofInt 64 x).toNat % 2 ^ m < 2 ^ m := Nat.mod_lt _ hp
  show IntKind.i64.wrap ((BitVec.ofInt 64 x &&& BitVec.ofInt 64 ((2 ^ m - 1 : Nat) : Int)).toNat : Int) = _
  rw [BitVec.toNat_and, hm, Nat.and_two_pow_sub_one_eq_mod, i64_id (by omega) (by omega)]
theorem and63 (x : Int) : ∃ q : Nat, Go.bits .and .i64 x 63 = (q : Int) ∧ q < 64 := and_small x 6 (by decide) (by omega)
theorem and15 (x : Int) : ∃ q : Nat, Go.bits .and .i64 x 15 = (q : Int) ∧ q < 16 := and_small x 4 (by decide) (by omega)
end Go.Proofs.Ytnkeijdpjcclcaa.Pg
