/- The walk of the law CrcBursts. -/
import Derived.Test.YtakjmhcdmchgdaaDoorCrcLinear
import Derived.Test.YtakjmhcdmchgdaaDoorCrcMasks
namespace Go.Proofs.YtakjmhcdmchgdaaDoor.Crc
set_option linter.unusedVariables false
open Go.Proofs.YtakjmhcdmchgdaaDoor.Kit Go.RowKit Go.Proofs.YtakjmhcdmchgdaaDoorW.PrintWords Go.Proofs.YtakjmhcdmchgdaaDoorW.PrintLast Go.Proofs.YtakjmhcdmchgdaaDoorW.PrintMore

/-- bit p of bytes -/
def bitAt (l : List Int) (p : Nat) : Bool := (l.getD (p / 8) 0).toNat.testBit (p % 8)
def dbit (a b k p : Nat) : Bool := decide (a ≤ p) && decide (p < a + k) && b.testBit (p - a)
structure Inv (l c : List Int) (a b k : Nat) : Prop where
  len : c.length = l.length
  byte : isByte c
  bit : ∀ p, p < 8 * l.length → bitAt c p = (bitAt l p ^^ dbit a b k p)
structure BurRel (w wr : World) (l : List Int) (a b k : Nat) (v : Value) : Prop where
  ox : ∃ c, Own .u8 5 wr w.heap.size v c ∧ Inv l c a b k
  bel : Below w.heap.size w wr
def anyB (b k : Nat) : Bool := (List.range k).any fun i => b.testBit i

theorem dbit_zero (a b p : Nat) : dbit a b 0 p = false := by
  unfold dbit
  by_cases h : a ≤ p
  · simp [h]
    omega
  · simp [h]
theorem inv_zero_ (l : List Int) (a b : Nat) (h : isByte l) : Inv l l a b 0 := ⟨rfl, h, fun p hp => by rw [dbit_zero]; simp⟩
theorem dbit_succ (a b k p : Nat) : dbit a b (k + 1) p = (dbit a b k p || (decide (p = a + k) && b.testBit k)) := by
  unfold dbit
  by_cases h1 : p = a + k
  · subst h1
    simp
  · by_cases h2 : a ≤ p
    · by_cases h3 : p < a + k
      · simp [h1, h2, h3, show p < a + (k + 1) by omega]
      · simp [h1, h2, h3, show ¬ p < a + (k + 1) by omega]
    · simp [h1, h2]
theorem dbit_at (a b k : Nat) : dbit a b k (a + k) = false := by unfold dbit; simp
theorem getD_opt (c : List Int) (j : Nat) : c[j]?.getD 0 = c.getD j 0 := (List.getD_eq_getElem?_getD ..).symm
theorem pow8_lt (q : Nat) (h : q < 8) : 2 ^ q < 256 := by
  have := Nat.pow_lt_pow_right (a := 2) (by omega) h
  omega
theorem inv_set {l c : List Int} {a b k : Nat} (h : Inv l c a b k) (hk : a + k < 8 * l.length) (hb : b.testBit k = true) :
    Inv l (c.set ((a + k) / 8) (Go.bits .xor .u8 (c[(a + k) / 8]?.getD 0) (2 ^ ((a + k) % 8) % 256))) a b (k + 1) := by
  obtain ⟨x, hx, hxl⟩ := getD_byte h.byte ((a + k) / 8)
  have hq : 2 ^ ((a + k) % 8) < 256 := pow8_lt _ (Nat.mod_lt _ (by omega))
  have hpow : (2 : Int) ^ ((a + k) % 8) % 256 = ((2 ^ ((a + k) % 8) : Nat) : Int) := by
    have : ((2 ^ ((a + k) % 8) : Nat) : Int) = (2 : Int) ^ ((a + k) % 8) := by simp
    have key : ∀ P : Nat, P < 256 → (P : Int) % 256 = (P : Int) := by intro P h; omega
    rw [← this]
    exact key _ hq
  rw [getD_opt, hpow, hx, u8_xor_nat x _ hxl hq]
  have hv : x ^^^ 2 ^ ((a + k) % 8) < 256 := Nat.xor_lt_two_pow (n := 8) hxl hq
  refine ⟨by rw [List.length_set]; exact h.len, ?_, fun p hp => ?_⟩
  · intro y hy
    rcases List.mem_or_eq_of_mem_set hy with hy | hy
    · exact h.byte y hy
    · rw [hy]; omega
  · have hlen : (a + k) / 8 < c.length := by rw [h.len]; omega
    rw [dbit_succ, hb, Bool.and_true]
    have hbp := h.bit p hp
    unfold bitAt at hbp ⊢
    rw [List.getD_eq_getElem?_getD, List.getElem?_set]
    by_cases hj : (a + k) / 8 = p / 8
    · rw [if_pos hj, if_pos hlen, Option.getD_some, Int.toNat_natCast, Nat.testBit_xor, Nat.testBit_two_pow]
      rw [← hj, hx, Int.toNat_natCast] at hbp
      rw [hbp, ← hj]
      by_cases he : p = a + k
      · subst he
        rw [dbit_at]
        simp
      · have : ¬ (a + k) % 8 = p % 8 := by omega
        simp [he, this]
    · rw [if_neg hj, ← List.getD_eq_getElem?_getD, hbp]
      have he : ¬ p = a + k := by rintro rfl; exact hj rfl
      simp [he]
theorem inv_skip {l c : List Int} {a b k : Nat} (h : Inv l c a b k) (hb : b.testBit k = false) : Inv l c a b (k + 1) :=
  ⟨h.len, h.byte, fun p hp => by rw [dbit_succ, hb, Bool.and_false, Bool.or_false]; exact h.bit p hp⟩
theorem anyB_succ (b k : Nat) : anyB b (k + 1) = (anyB b k || b.testBit k) := by simp [anyB, List.range_succ]
theorem test_bit (b k : Nat) (hb : b < 4294967296) : Go.bits .and .u32 ((b : Int) / 2 ^ k) 1 = ((b.testBit k).toNat : Int) := by
  have h1 := u32_and_nat (b / 2 ^ k) 1 (Nat.lt_of_le_of_lt (Nat.div_le_self _ _) hb) (by omega)
  have h2 : ((b / 2 ^ k : Nat) : Int) = (b : Int) / 2 ^ k := by simp
  rw [h2] at h1
  rw [show ((1 : Nat) : Int) = 1 from rfl] at h1
  rw [h1, Nat.and_one_is_mod, ← Nat.toNat_testBit]
theorem flat_bits (L : List Nat) : L.flatMap CrcPure.bits8 = (List.range (8 * L.length)).map fun p => (L.getD (p / 8) 0).testBit (p % 8) := by
  induction L with
  | nil => simp
  | cons x L ih =>
    rw [List.flatMap_cons, ih, List.length_cons, show 8 * (L.length + 1) = 8 + 8 * L.length by omega, List.range_add, List.map_append, List.map_map]
    have h1 : CrcPure.bits8 x = (List.range 8).map fun p => ((x :: L).getD (p / 8) 0).testBit (p % 8) := rfl
    rw [h1]
    congr 1
    apply List.map_congr_left
    intro i hi
    simp only [Function.comp]
    rw [show (8 + i) / 8 = i / 8 + 1 by omega, show (8 + i) % 8 = i % 8 by omega]
    rfl
theorem map_false (g : Nat → Bool) (m : Nat) (h : ∀ i, i < m → g i = false) : (List.range m).map g = List.replicate m false := by
  have h1 : (List.range m).map g = (List.range m).map (fun _ => false) := List.map_congr_left fun i hi => h i (List.mem_range.1 hi)
  rw [h1, List.map_const', List.length_range]
theorem window (a b k n : Nat) (h : a + k ≤ n) : (List.range n).map (dbit a b k) = List.replicate a false ++ (List.range k).map (fun i => b.testBit i) ++ List.replicate (n - a - k) false := by
  obtain ⟨r, rfl⟩ : ∃ r, n = a + (k + r) := ⟨n - a - k, by omega⟩
  rw [List.range_add, List.map_append, List.map_map, List.range_add, List.map_append, List.map_map, show a + (k + r) - a - k = r by omega, List.append_assoc]
  congr 1
  · exact map_false _ _ fun i hi => by unfold dbit; simp; try omega
  · congr 1
    · apply List.map_congr_left
      intro i hi
      have := List.mem_range.1 hi
      simp only [Function.comp]
      unfold dbit
      simp [this]
    · refine map_false _ _ fun i hi => ?_
      simp only [Function.comp]
      unfold dbit
      rw [show decide (a + (k + i) < a + k) = false from decide_eq_false (by omega)]
      simp
theorem inv_inj {a b : Nat} (h : inv a = inv b) : a = b := by rw [← inv_inv a, h, inv_inv]
theorem bursts_ne {l c : List Int} {a b k : Nat} (h : Inv l c a b k) (hl : isByte l) (hk : k ≤ 32) (hak : a + k ≤ 8 * l.length) (hany : anyB b k = true) : sum c ≠ sum l := by
  intro he
  have h1 : CrcPure.bytes (inv 0) (byt c) = CrcPure.bytes (inv 0) (byt l) := inv_inj he
  have hlen : (byt c).length = (byt l).length := by simp [byt, h.len]
  have h2 := CrcPure.bytes_xor (byt c) (byt l) hlen (inv 0) (inv 0)
  rw [h1, Nat.xor_self, Nat.xor_self] at h2
  have hD : ∀ x ∈ List.zipWith (· ^^^ ·) (byt c) (byt l), x < 256 := by
    intro x hx
    obtain ⟨i, hi, rfl⟩ := List.mem_iff_getElem.1 hx
    rw [List.getElem_zipWith]
    exact Nat.xor_lt_two_pow (n := 8) (byt_lt h.byte _ (List.getElem_mem _)) (byt_lt hl _ (List.getElem_mem _))
  rw [CrcPure.bytes_feed _ hD, flat_bits] at h2
  have hzl : (List.zipWith (· ^^^ ·) (byt c) (byt l)).length = l.length := by simp [byt, h.len]
  rw [hzl] at h2
  have hmap : (List.range (8 * l.length)).map (fun p => ((List.zipWith (· ^^^ ·) (byt c) (byt l)).getD (p / 8) 0).testBit (p % 8)) = (List.range (8 * l.length)).map (dbit a b k) := by
    apply List.map_congr_left
    intro p hp
    have hp := List.mem_range.1 hp
    have hb := h.bit p hp
    unfold bitAt at hb
    have hj : p / 8 < l.length := by omega
    have hjc : p / 8 < c.length := by rw [h.len]; exact hj
    rw [List.getD_eq_getElem?_getD, List.getElem?_eq_getElem (by rw [hzl]; exact hj), Option.getD_some, List.getElem_zipWith, Nat.testBit_xor]
    simp only [byt, List.getElem_map]
    rw [List.getD_eq_getElem?_getD, List.getElem?_eq_getElem hjc, List.getD_eq_getElem?_getD, List.getElem?_eq_getElem hj] at hb
    simp only [Option.getD_some] at hb
    rw [hb]
    cases (l[p / 8]).toNat.testBit (p % 8) <;> cases dbit a b k p <;> rfl
  rw [hmap, window a b k _ hak] at h2
  refine CrcPure.feed_burst a _ _ (by simp; exact hk) ?_ h2
  unfold anyB at hany
  obtain ⟨i, hi, hb⟩ := List.any_eq_true.1 hany
  exact List.mem_map.2 ⟨i, hi, hb⟩
theorem own_rds_ {k : IntKind} {e : TypeId} {w : World} {B n c : Nat} {A : Option Addr} {xs : List Int} (h : Own k e w B (.slice A n c) xs) : Rds k w A n xs := by
  obtain ⟨rfl, _, h2⟩ := Kd.R_reads' h
  exact h2
set_option maxRecDepth 100000 in
set_option maxHeartbeats 1600000 in
theorem bursts_any (A1 : Option Addr) (n1 c1 : Nat) (l1 : List Int) (at_ bi : Int) (w : World) (hT : Halves w)
    (hr1 : Rds .u8 w A1 n1 l1) (hl1 : l1.length = n1) (hm1 : n1 * 1 ≤ 140737488351232) (hw1 : ∀ x ∈ l1, (Lit.int .u8 x).wf = true) (hc1 : n1 ≤ c1) (hwa : (Lit.int .i64 at_).wf = true) (hwb : (Lit.int .u32 bi).wf = true) :
    Calls Tryd.prog 5 #[.slice A1 n1 c1, .int .i64 at_, .int .u32 bi] w fun e w' => e = .returned (.bool true) ∧ Below w.heap.size w w' := by
  have hb1 := isByte_wf hw1
  clear hw1
  obtain ⟨B, rfl, hB⟩ := wf_u32 hwb
  obtain ⟨r, hr, hr63⟩ := i64_mask at_ 65535 (by omega)
  rw [show ((65535 : Nat) : Int) = 65535 from rfl] at hr
  clear hwa hwb
  have HL := Lib.hid hl1
  clear hl1
  by_cases g : 0 < n1 ∧ n1 ≤ 2000 ∧ 0 < B
  · obtain ⟨g1, g2, g3⟩ := g
    have t1 : ((n1 : Int) == 0) = false := by simp; omega
    have t2 : decide ((2000 : Int) < (n1 : Int)) = false := by simp; omega
    have t3 : ((B : Int) == 0) = false := by simp; omega
    obtain ⟨a, ha⟩ : ∃ a : Nat, a = r % (8 * n1) := ⟨_, rfl⟩
    have ha8 : a < 8 * n1 := by rw [ha]; exact Nat.mod_lt _ (by omega)
    have hrem : (r : Int) % (8 * (n1 : Int)) = (a : Int) := by rw [ha, Int.natCast_emod, Int.natCast_mul]; rfl
    clear ha
    go_enter Tryd.func5, Tryd.ntmps5
    go_wp2_with fail
    refine (head_any w hT).mono ?_
    rintro e w1 ⟨rfl, hB1⟩
    have HB1 := Lib.hid hB1
    clear hB1
    have o0 := Lib.hid (own_lit_ .u8 5 w1 w.heap.size [] 0 rfl HB1.out.size (by simp))
    have b0 := Lib.hid (below_alloc HB1.out (.cells #[] 5))
    go_wp2_with (at_builtin; refine app_row 0 tb rfl (.tmp 30) (.tmp 31) rfl rfl rfl o0.out (rds_below hr1 b0.out) b0.out b0.out.size ?cL ?_; (case cL => simp; omega); intro v2 w2 ho2 hb2 hs2 _; rw [List.nil_append] at ho2; obtain ⟨g, n2, c2, e2, HL2, hp2, hm2, hc2, hgb, hgl⟩ := own_form ho2 (by rw [HL.out]; exact g1); subst e2; have hn2 : n2 = n1 := (by rw [← HL2.out, HL.out]); subst hn2; have HO2 := Lib.hid ho2; have HB2 := Lib.hid hb2; clear ho2 hb2 hs2)
    have hR0 : BurRel w w2 l1 a B 0 (.slice (some ⟨g, 0, none⟩) n2 c2) := ⟨⟨l1, HO2.out, inv_zero_ l1 a B hb1⟩, HB2.out⟩
    go_loopw [8, 9] (fun t i wr => ∃ k : Nat, k ≤ 32 ∧ a + k ≤ 8 * n2 ∧ i = .int .i64 k ∧ t = .bool (anyB B k) ∧ BurRel w wr l1 a B k (.slice (some ⟨g, 0, none⟩) n2 c2)) (fun _ i _ => 32 - (intOf i).toNat)
    case atStart => exact ⟨0, by omega, by omega, rfl, rfl, hR0⟩
    case round =>
      obtain ⟨k, hk, hak, rfl, rfl, hR⟩ := hrel
      clear hR0
      by_cases hlt : k < 32
      · by_cases hlt2 : a + k < 8 * n2
        · obtain ⟨⟨c, hox, hinv⟩, hbel⟩ := hR
          obtain ⟨hc1', hf1⟩ := own_cell 0 hox ((a + k) / 8) (by omega)
          have d1 : decide ((k : Int) < 32) = true := by simp; omega
          have d2 : decide ((a : Int) + (k : Int) < 8 * (n2 : Int)) = true := by simp; omega
          have hset := fun hb => inv_set hinv (by rw [HL.out]; omega) hb
          have hskip := fun hb => inv_skip hinv hb
          have htb := test_bit B k hB
          have hany := anyB_succ B k
          have HSET := Lib.hid hset
          have HSKIP := Lib.hid hskip
          have HANY := Lib.hid hany
          have HOX := Lib.hid hox
          have HBEL := Lib.hid hbel
          clear hset hskip hany hinv hox hbel
          cases hbit : B.testBit k
          · rw [hbit] at htb
            rw [show ((false.toNat : Nat) : Int) = 0 from rfl] at htb
            have HBIT := Lib.hid hbit
            clear hbit
            go_wp2_with fail
            go_roundw
            case rel => exact ⟨k + 1, by omega, by omega, by go_num, by rw [HANY.out, HBIT.out, Bool.or_false], ⟨_, HOX.out, HSKIP.out HBIT.out⟩, HBEL.out⟩
            case measure => simp [intOf]; omega
          · rw [hbit] at htb
            rw [show ((true.toNat : Nat) : Int) = 1 from rfl] at htb
            have HBIT := Lib.hid hbit
            clear hbit
            go_wp2_with fail
            go_roundw
            case rel => exact ⟨k + 1, by omega, by omega, by go_num, by rw [HANY.out, HBIT.out, Bool.or_true], ⟨_, own_set HOX.out _ _, HSET.out HBIT.out⟩, HBEL.out.setCell hgb _⟩
            case measure => simp [intOf]; omega
        · have d1 : decide ((k : Int) < 32) = true := by simp; omega
          have d2 : decide ((a : Int) + (k : Int) < 8 * (n2 : Int)) = false := by simp; omega
          obtain ⟨⟨c, hox, hinv⟩, hbel⟩ := hR
          have hne := fun h => bursts_ne hinv hb1 hk (by rw [HL.out]; omega) h
          have S1 := Lib.hid (sum_any (some ⟨g, 0, none⟩) n2 c2 c wr (hT.below hbel) (own_rds_ hox) (by rw [hinv.len, HL.out]) (by omega) hinv.byte)
          have S2 := Lib.hid (sum_any A1 n2 c1 l1 wr (hT.below hbel) (rds_below hr1 hbel) HL.out (by omega) hb1)
          have HBEL := Lib.hid hbel
          generalize sum c = t1 at S1 hne
          generalize sum l1 = t2 at S2 hne
          have HNE := Lib.hid hne
          clear hne hinv hox hbel
          cases hany : anyB B k
          · have HANY := Lib.hid hany
            clear hany
            go_wp2_with fail
            go_ret
            exact ⟨rfl, HBEL.out⟩
          · have hne := HNE.out hany
            have HN := Lib.hid hne
            clear hany hne
            go_wp2_with fail
            refine S1.out.mono ?_
            rintro e w' ⟨rfl, rfl⟩
            go_wp2_with fail
            refine S2.out.mono ?_
            rintro e w' ⟨rfl, rfl⟩
            go_wp2_with fail
            go_ret
            exact ⟨ret_bool (by have := HN.out; simp; omega), HBEL.out⟩
      · have d1 : decide ((k : Int) < 32) = false := by simp; omega
        obtain ⟨⟨c, hox, hinv⟩, hbel⟩ := hR
        have hne := fun h => bursts_ne hinv hb1 hk (by rw [HL.out]; omega) h
        have S1 := Lib.hid (sum_any (some ⟨g, 0, none⟩) n2 c2 c wr (hT.below hbel) (own_rds_ hox) (by rw [hinv.len, HL.out]) (by omega) hinv.byte)
        have S2 := Lib.hid (sum_any A1 n2 c1 l1 wr (hT.below hbel) (rds_below hr1 hbel) HL.out (by omega) hb1)
        have HBEL := Lib.hid hbel
        generalize sum c = t1 at S1 hne
        generalize sum l1 = t2 at S2 hne
        have HNE := Lib.hid hne
        clear hne hinv hox hbel
        cases hany : anyB B k
        · have HANY := Lib.hid hany
          clear hany
          go_wp2_with fail
          go_ret
          exact ⟨rfl, HBEL.out⟩
        · have hne := HNE.out hany
          have HN := Lib.hid hne
          clear hany hne
          go_wp2_with fail
          refine S1.out.mono ?_
          rintro e w' ⟨rfl, rfl⟩
          go_wp2_with fail
          refine S2.out.mono ?_
          rintro e w' ⟨rfl, rfl⟩
          go_wp2_with fail
          go_ret
          exact ⟨ret_bool (by have := HN.out; simp; omega), HBEL.out⟩
  · have hcase : n1 = 0 ∨ (0 < n1 ∧ 2000 < n1) ∨ (0 < n1 ∧ n1 ≤ 2000 ∧ B = 0) := by omega
    rcases hcase with h1 | ⟨h1, h2⟩ | ⟨h1, h2, h3⟩
    · subst h1
      go_enter Tryd.func5, Tryd.ntmps5
      go_wp2_with fail
      refine (head_any w hT).mono ?_
      rintro e w1 ⟨rfl, hB1⟩
      have HB1 := Lib.hid hB1
      clear hB1
      go_wp2_with fail
      go_ret
      exact ⟨rfl, HB1.out⟩
    · have t1 : ((n1 : Int) == 0) = false := by simp; omega
      have t2 : decide ((2000 : Int) < (n1 : Int)) = true := by simp; omega
      go_enter Tryd.func5, Tryd.ntmps5
      go_wp2_with fail
      refine (head_any w hT).mono ?_
      rintro e w1 ⟨rfl, hB1⟩
      have HB1 := Lib.hid hB1
      clear hB1
      go_wp2_with fail
      go_ret
      exact ⟨rfl, HB1.out⟩
    · subst h3
      have t1 : ((n1 : Int) == 0) = false := by simp; omega
      have t2 : decide ((2000 : Int) < (n1 : Int)) = false := by simp; omega
      go_enter Tryd.func5, Tryd.ntmps5
      go_wp2_with fail
      refine (head_any w hT).mono ?_
      rintro e w1 ⟨rfl, hB1⟩
      have HB1 := Lib.hid hB1
      clear hB1
      go_wp2_with fail
      go_ret
      exact ⟨rfl, HB1.out⟩
end Go.Proofs.YtakjmhcdmchgdaaDoor.Crc
