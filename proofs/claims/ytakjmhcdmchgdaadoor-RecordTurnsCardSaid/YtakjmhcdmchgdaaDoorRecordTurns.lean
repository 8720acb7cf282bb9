/- The walk of the law RecordTurns. -/
import Derived.Test.YtakjmhcdmchgdaaDoorRecG
import Derived.Test.YtakjmhcdmchgdaaDoorRecordAlls
import Derived.Test.YtakjmhcdmchgdaaDoorGr2
namespace Go.Proofs.YtakjmhcdmchgdaaDoor.Rec
set_option linter.unusedVariables false
set_option linter.unusedSimpArgs false
open Go.Proofs.YtakjmhcdmchgdaaDoor.Kit Go.Proofs.YtakjmhcdmchgdaaDoor.Num Go.RowKit Go.Proofs.YtakjmhcdmchgdaaDoorW.PrintWords Go.Proofs.YtakjmhcdmchgdaaDoorW.PrintLast Go.Proofs.YtakjmhcdmchgdaaDoorW.PrintMore NumPure
open Crc (Halves sum mask sum_any mask_any mask_lt sum_lt Inv inv_zero_ inv_set inv_skip anyB anyB_succ test_bit dbit)
structure Tr1 (w0 wr : World) (ls : List (List Int)) (k : Nat) (v : Value) : Prop where
  all : GrB wr w0.heap.size v (lay (ls.take k))
  bel : Below w0.heap.size w0 wr
  small : ∀ j, j < k → (ls.getD j []).length ≤ 200
def fromOf (F q k : Nat) : Nat := if k ≤ q then 0 else F
structure Tr2 (w0 wr : World) (l : List Int) (a b k : Nat) (v : Value) : Prop where
  row : ∃ c, GrB wr w0.heap.size v c ∧ Inv l c a b k
  bel : Below w0.heap.size w0 wr
theorem gr_rds {α : Type} [Inhabited α] {enc : α → Value} {h1 : ∀ x, (enc x).oneCell' = true} {e : TypeId} {w : World} {B : Nat} {A : Option Addr} {n c : Nat} {xs : List α} (h : GrE enc h1 e w B (.slice A n c) xs) : RdsE enc h1 w A n xs ∧ xs.length = n ∧ n ≤ c := by
  obtain ⟨A', n', c', e1, h2, h3, _, h4⟩ := gr_open h
  injection e1 with q1 q2 q3
  subst q1 q2 q3
  exact ⟨h4, h3.out, h2⟩
set_option maxRecDepth 20000 in
set_option maxHeartbeats 6400000 in
theorem turns_any (A : Option Addr) (n c : Nat) (ls : List (List Int)) (Q N bi : Int) (lg : Bool) (w : World) (hT : Halves w) (hs : SlsOf .u8 w A n c ls) (hQ : (Lit.int .i64 Q).wf = true) (hN : (Lit.int .i64 N).wf = true) (hwb : (Lit.int .u32 bi).wf = true) :
    Calls Tryd.prog 13 #[.slice A n c, .int .i64 Q, .int .i64 N, .int .u32 bi, .bool lg] w fun e w' => e = .returned (.bool true) ∧ Below w.heap.size w w' := by
  obtain ⟨B, rfl, hB⟩ := Crc.wf_u32 hwb
  obtain ⟨r1, hr1, hr1k⟩ := i64_mask Q 1023 (by omega)
  rw [show ((1023 : Nat) : Int) = 1023 from rfl] at hr1
  obtain ⟨r2, hr2, hr2k⟩ := i64_mask N 65535 (by omega)
  rw [show ((65535 : Nat) : Int) = 65535 from rfl] at hr2
  have HR1 := Lib.hid hr1
  have HR2 := Lib.hid hr2
  have HBB := Lib.hid hB
  obtain ⟨hln, hnc, xs, hrx, hxs⟩ := hs
  have HLN := Lib.hid hln
  have HRX := Lib.hid hrx
  have HXS := Lib.hid hxs
  have HT := Lib.hid hT
  clear hln hrx hxs hT hN hQ hwb hr1 hr2 hB
  have C0 := Lib.hid (head_any w HT.out)
  go_enter Tryd.func13, Tryd.ntmps13
  go_wp2_with fail
  refine C0.out.mono ?_
  rintro e w1 ⟨rfl, hb1⟩
  have HW1 := Lib.hid hb1
  clear hb1 C0
  go_upto_region 3 with fail
  rcases Nat.eq_zero_or_pos n with g0 | g0
  · subst g0
    go_wp2_with fail
    go_ret
    exact ⟨rfl, HW1.out⟩
  have t1 : ((n : Int) == 0) = false := by simp; omega
  rcases Nat.lt_or_ge 10 n with g1 | g1
  · have t2 : decide ((10 : Int) < (n : Int)) = true := decide_eq_true (by omega)
    go_wp2_with fail
    go_ret
    exact ⟨rfl, HW1.out⟩
  have t2 : decide ((10 : Int) < (n : Int)) = false := decide_eq_false (by omega)
  rcases Nat.eq_zero_or_pos B with g2 | g2
  · subst g2
    go_wp2_with fail
    go_ret
    exact ⟨rfl, HW1.out⟩
  have t3 : ((B : Int) == 0) = false := by simp; omega
  obtain ⟨q, hq⟩ : ∃ q : Nat, q = r1 % n := ⟨_, rfl⟩
  have hqn : q < n := by rw [hq]; exact Nat.mod_lt _ g0
  have hrem : (r1 : Int) % (n : Int) = (q : Int) := by rw [hq, Int.natCast_emod]
  have hr1' := HR1.out
  have HT1 := Lib.hid (halves_of HT.out HW1.out)
  have H20 : Hid (Tr1 w1 (w1.alloc (.cells #[] 5)) ls 0 (.slice (some ⟨w1.heap.size, 0, none⟩) 0 0)) := Lib.hid ⟨.inl (own_lit_ .u8 5 w1 w1.heap.size [] 0 rfl (Nat.le_refl _) (by simp)), below_alloc (Below.refl _ _) _, fun j hj => absurd hj (by omega)⟩
  obtain ⟨F, hF⟩ : ∃ F, F = (lay (ls.take q)).length := ⟨_, rfl⟩
  have HF := Lib.hid hF
  clear hF hq
  go_upto_region 7 with fail
  try rw [hrem]
  clear hr1'
  go_wp2_with fail
  go_loopw [11, 12, 46] (fun out fr i wr => ∃ (k : Nat) (v : Value), v = out ∧ i = .int .i64 k ∧ k ≤ n ∧ fr = .int .i64 (fromOf F q k : Nat) ∧ Hid (Tr1 w1 wr ls k v)) (fun _ _ i _ => n - (intOf i).toNat)
  case atStart => exact ⟨0, _, rfl, rfl, Nat.zero_le _, rfl, H20⟩
  case round =>
    obtain ⟨k, v, hv, rfl, hk, rfl, H2⟩ := hrel
    subst hv
    clear H20
    by_cases hlt : k < n
    · have t2 : decide ((k : Int) < (n : Int)) = true := decide_eq_true (by omega)
      have hW : Below w.heap.size w wr := below_then HW1.out HW1.out.size H2.out.bel
      obtain ⟨ad, e1, hc1⟩ := rds_at default (rds_below HRX.out hW) k hlt
      subst e1
      obtain ⟨q1, q2, q3, q4⟩ := HXS.out k hlt
      have hd := byte_wf' q4
      have hsn : lay (ls.take (k + 1)) = lay (ls.take k) ++ rec_ (ls.getD k []) := by rw [take_snocL (d0 := []) (by rw [HLN.out]; exact hlt), lay_snoc]
      have hlk := lay_len_le H2.out.small (by rw [HLN.out]; exact hk)
      generalize xs.getD k default = x at hc1 q1 q2 q3
      obtain ⟨Ax, nx, cx⟩ := x
      have hc1' : wr.cell? (ad.add k) = some (.slice Ax nx cx) := hc1
      have HW := Lib.hid hW
      have HQ1 := Lib.hid q1
      have HQ2 := Lib.hid q2
      have HD := Lib.hid hd
      have HSN := Lib.hid hsn
      have i0 : (0 : Int) ≤ (k : Int) := by omega
      have i1 : (k : Int) < (n : Int) := by omega
      clear hc1 q1 q2 q3 q4 hd hsn hW
      rcases Nat.lt_or_ge 200 nx with g3 | g3
      · have t4 : decide ((200 : Int) < (nx : Int)) = true := decide_eq_true (by omega)
        go_wp2_with fail
        go_ret
        exact ⟨rfl, HW.out⟩
      have t4 : decide ((200 : Int) < (nx : Int)) = false := decide_eq_false (by omega)
      have C2 := Lib.hid (recPut_any Ax nx cx (ls.getD k []) v _ w1 wr HT1.out H2.out.all H2.out.bel (rds_below HQ1.out HW1.out) HD.out (lay_byte2 (fun j hj => byte_wf' (HXS.out j (by omega)).2.2.2) (by rw [HLN.out]; exact hk) (by rw [HLN.out]; exact Nat.le_refl _)) (by omega) (by omega))
      obtain ⟨A0, n0, c0, rfl, h0c, HL0, h0m, hr0⟩ := gr_open H2.out.all
      have hz : (n0 : Int) = (if k = q then (F : Int) else (n0 : Int)) := by
        split
        · next h => rw [← HL0.out, HF.out, h]
        · rfl
      have HSM : Hid (∀ j, j < k + 1 → (ls.getD j []).length ≤ 200) := Lib.hid (fun j hj => by
        rcases Nat.lt_or_ge j k with g | g
        · exact H2.out.small j g
        · obtain rfl : j = k := by omega
          rw [HQ2.out]; exact g3)
      have HZ := Lib.hid hz
      clear hr0 hz
      by_cases hkq : k = q
      · have t5 : ((k : Int) == (q : Int)) = true := by simp; omega
        have HKQ := Lib.hid hkq
        have hfr : (fromOf F q (k + 1) : Int) = (n0 : Int) := by unfold fromOf; have := HZ.out; rw [if_pos hkq] at this; rw [this, if_neg (by omega)]
        have HFR := Lib.hid hfr
        clear hfr hkq
        go_wp2_with fail
        refine C2.out.mono ?_
        rintro e w5 ⟨v5, rfl, hA⟩
        have H25 : Hid (Tr1 w1 w5 ls (k + 1) v5) := Lib.hid ⟨by rw [HSN.out]; exact hA.own, hA.bel, HSM.out⟩
        clear hA C2
        go_wp2_with fail
        go_roundw
        case rel => exact ⟨k + 1, _, rfl, by go_num, by omega, by rw [HFR.out], H25⟩
        case measure => simp [intOf]; omega
      · have t5 : ((k : Int) == (q : Int)) = false := by simp; omega
        have HKQ := Lib.hid hkq
        have hfr : (fromOf F q (k + 1) : Int) = (fromOf F q k : Int) := by unfold fromOf; by_cases h : k + 1 ≤ q <;> by_cases h2 : k ≤ q <;> simp [h, h2] <;> omega
        have HFR := Lib.hid hfr
        clear hfr hkq
        go_wp2_with fail
        refine C2.out.mono ?_
        rintro e w5 ⟨v5, rfl, hA⟩
        have H25 : Hid (Tr1 w1 w5 ls (k + 1) v5) := Lib.hid ⟨by rw [HSN.out]; exact hA.own, hA.bel, HSM.out⟩
        clear hA C2
        go_wp2_with fail
        go_roundw
        case rel => exact ⟨k + 1, _, rfl, by go_num, by omega, by rw [HFR.out], H25⟩
        case measure => simp [intOf]; omega
    · obtain rfl : k = n := by omega
      have t2 : decide ((k : Int) < (k : Int)) = false := by simp
      obtain ⟨h1, h4, h5⟩ := H2.out
      have htk : ls.take k = ls := List.take_of_length_le (by rw [HLN.out]; exact Nat.le_refl _)
      have hlk := lay_len_le h5 (by rw [HLN.out]; exact Nat.le_refl _)
      have hby : ∀ d ∈ ls, Byte d := fun d hd => by
        obtain ⟨j, hj, rfl⟩ := List.mem_iff_getElem.1 hd
        have := byte_wf' (HXS.out j (by rw [HLN.out] at hj; exact hj)).2.2.2
        rwa [List.getD_eq_getElem?_getD, List.getElem?_eq_getElem hj] at this
      have hsm : ∀ d ∈ ls, d.length ≤ 1048576 := fun d hd => by
        obtain ⟨j, hj, rfl⟩ := List.mem_iff_getElem.1 hd
        have := h5 j (by rw [HLN.out] at hj; exact hj)
        rw [List.getD_eq_getElem?_getD, List.getElem?_eq_getElem hj] at this
        simp only [Option.getD_some] at this
        omega
      have hfk : (fromOf F q k : Int) = (F : Int) := by unfold fromOf; rw [if_neg (by omega)]
      rw [hfk]
      have hsp : (lay ls).length = F + (12 + (ls.getD q []).length) + (lay (ls.drop (q + 1))).length := by
        have : lay ls = lay (ls.take (q + 1)) ++ lay (ls.drop (q + 1)) := by rw [← lay_append, List.take_append_drop]
        rw [this, take_snocL (d0 := []) (by rw [HLN.out]; exact hqn), lay_snoc, List.length_append, List.length_append, rec_length, HF.out]
      have hWr : Below w.heap.size w wr := below_then HW1.out HW1.out.size h4
      obtain ⟨ad, e1, hc1⟩ := rds_at default (rds_below HRX.out hWr) q hqn
      subst e1
      obtain ⟨_, q2, _, _⟩ := HXS.out q hqn
      generalize xs.getD q default = x at hc1 q2
      obtain ⟨Ax, nx, cx⟩ := x
      have hc1' : wr.cell? (ad.add q) = some (.slice Ax nx cx) := hc1
      have hnx : (ls.getD q []).length = nx := q2
      rw [htk] at h1 hlk
      obtain ⟨g, L, cap, rfl, HL5, hLp, hLm, hLc, hgb, hgl⟩ := gr_form h1 (by omega)
      rw [HL5.out] at hlk hsp
      rw [hnx] at hsp
      have hnx2 : nx ≤ 200 := by rw [← hnx]; exact h5 q hqn
      have HNX := Lib.hid hnx
      have H1 := Lib.hid h1
      have H4 := Lib.hid h4
      have HBY := Lib.hid hby
      have HSML := Lib.hid hsm
      have i0 : (0 : Int) ≤ (q : Int) := by omega
      have i1 : (q : Int) < (k : Int) := by omega
      have hr2' := HR2.out
      clear h1 h4 h5 hc1 q2 htk hby hsm hfk hWr hnx
      obtain ⟨w0r, rfl⟩ : ∃ x : World, x = wr := ⟨_, rfl⟩
      cases lg
      · obtain ⟨lo, hlo⟩ : ∃ lo : Nat, lo = F + 12 := ⟨_, rfl⟩
        rcases Nat.eq_zero_or_pos nx with g3 | g3
        · subst g3
          go_wp2_with fail
          go_ret
          exact ⟨rfl, below_then HW1.out HW1.out.size H4.out⟩
        obtain ⟨m, hm⟩ : ∃ m : Nat, m = nx := ⟨_, rfl⟩
        have hm0 : 0 < m := by omega
        have HWIN : Hid ((lo = (lay (ls.take q)).length ∧ m = 4) ∨ (lo = (lay (ls.take q)).length + 12 ∧ m = (ls.getD q []).length)) := Lib.hid (.inr ⟨by rw [hlo, HF.out], by rw [hm, HNX.out]⟩)
        obtain ⟨hi, hhi⟩ : ∃ hi : Nat, hi = lo + m := ⟨_, rfl⟩
        obtain ⟨ra, hra⟩ : ∃ ra : Nat, ra = r2 % (8 * (hi - lo)) := ⟨_, rfl⟩
        have hral : ra < 8 * m := by rw [hra]; have := Nat.mod_lt r2 (show 0 < 8 * (hi - lo) by omega); omega
        have hrem2 : (r2 : Int) % (8 * ((hi : Int) - (lo : Int))) = (ra : Int) := by rw [hra, Int.natCast_emod, Int.natCast_mul, Int.natCast_sub (by omega)]; rfl
        obtain ⟨a, ha⟩ : ∃ a : Nat, a = 8 * lo + ra := ⟨_, rfl⟩
        have hae : (8 * (lo : Int) + (ra : Int)) = (a : Int) := by omega
        have hle : hi ≤ L := by omega
        have hlh : lo < hi := by omega
        have HAL : Hid (8 * lo ≤ a) := Lib.hid (by omega)
        have HA8 : Hid (a < 8 * hi) := Lib.hid (by omega)
        have HHI : Hid (hi = lo + m) := Lib.hid hhi
        have hra2 : ra < 3000 * 8 := by omega
        have tl : ((lo : Int) == (hi : Int)) = false := by simp; omega
        clear hra
        go_upto_region 25 with fail
        rw [show (F : Int) + 12 = (lo : Int) by omega, show (lo : Int) + (nx : Int) = (hi : Int) by omega]
        clear hsp hhi hm ha hm0 hral hlo
        go_upto_region 28 with fail
        try rw [hrem2]
        try rw [hae]
        clear hrem2 hr2' tl hae
        have hR0 : Hid (Tr2 w1 w0r (lay ls) a B 0 (.slice (some ⟨g, 0, none⟩) L cap)) := Lib.hid ⟨⟨_, H1.out, inv_zero_ _ _ _ (lay_byte HBY.out)⟩, H4.out⟩
        have ha8 := HA8.out
        go_wp2_with fail
        go_loopw [19, 20] (fun t i wr => ∃ j : Nat, j ≤ 32 ∧ a + j ≤ 8 * hi ∧ i = .int .i64 j ∧ t = .bool (anyB B j) ∧ Hid (Tr2 w1 wr (lay ls) a B j (.slice (some ⟨g, 0, none⟩) L cap))) (fun _ i _ => 32 - (intOf i).toNat)
        case atStart => exact ⟨0, by omega, by omega, rfl, rfl, hR0⟩
        case round =>
          obtain ⟨j, hj, haj, rfl, rfl, hR⟩ := hrel
          clear hR0
          obtain ⟨⟨c2, hox, hinv⟩, hbel⟩ := hR.out
          have HBEL := Lib.hid hbel
          obtain ⟨wt, rfl⟩ : ∃ x : World, x = wr := ⟨_, rfl⟩
          clear hbel hR
          by_cases hlt : j < 32
          · have d1 : decide ((j : Int) < 32) = true := by simp; omega
            by_cases hlt2 : a + j < 8 * hi
            · have d2 : decide ((a : Int) + (j : Int) < 8 * (hi : Int)) = true := by simp; omega
              obtain ⟨hc1', hf1⟩ := gr_cell 0 hox ((a + j) / 8) (by omega)
              have HSET := Lib.hid (fun hb => inv_set hinv (by rw [HL5.out]; omega) hb)
              have HSKIP := Lib.hid (fun hb => inv_skip hinv hb)
              have htb := test_bit B j HBB.out
              have HANY := Lib.hid (anyB_succ B j)
              have HOX := Lib.hid hox
              clear hinv hox
              cases hbit : B.testBit j
              · rw [hbit] at htb
                rw [show ((false.toNat : Nat) : Int) = 0 from rfl] at htb
                have HBIT := Lib.hid hbit
                clear hbit
                go_wp2_with fail
                go_roundw
                case rel => exact ⟨j + 1, by omega, by omega, by go_num, by rw [HANY.out, HBIT.out, Bool.or_false], Lib.hid ⟨⟨_, HOX.out, HSKIP.out HBIT.out⟩, HBEL.out⟩⟩
                case measure => simp [intOf]; omega
              · rw [hbit] at htb
                rw [show ((true.toNat : Nat) : Int) = 1 from rfl] at htb
                have HBIT := Lib.hid hbit
                clear hbit
                go_wp2_with fail
                go_roundw
                case rel => exact ⟨j + 1, by omega, by omega, by go_num, by rw [HANY.out, HBIT.out, Bool.or_true], Lib.hid ⟨⟨_, gr_set HOX.out _ _, HSET.out HBIT.out⟩, HBEL.out.setCell hgb _⟩⟩
                case measure => simp [intOf]; omega
            · have d2 : decide ((a : Int) + (j : Int) < 8 * (hi : Int)) = false := by simp; omega
              cases hany : anyB B j
              · have HANY := Lib.hid hany
                clear hany
                go_wp2_with fail
                go_ret
                exact ⟨rfl, below_then HW1.out HW1.out.size HBEL.out⟩
              · obtain ⟨y, hy1, hy2⟩ := turned (by rw [HLN.out]; exact hqn) HBY.out HSML.out hinv hj hany HWIN.out HAL.out (by have := HHI.out; omega)
                obtain ⟨hrd, hcl, hcc⟩ := gr_rds hox
                have hbyc : Byte c2 := hinv.byte
                have C3 := Lib.hid (all_any (some ⟨g, 0, none⟩) L cap c2 wt (halves_of HT1.out HBEL.out) hrd hbyc hcc (by omega))
                have HANY := Lib.hid hany
                have HY1 := Lib.hid hy1
                have HY2 := Lib.hid hy2
                clear hany hy1 hy2 hrd hcl hcc hbyc
                go_wp2_with fail
                refine C3.out.mono ?_
                rintro e w6 ⟨gv, a', ex, ds, rfl, hit, hb6, hch, hex⟩
                have he : (next (c2.drop a')).2.2 ≠ 0 := by rcases hex with ⟨_, h⟩ | ⟨_, h⟩ <;> rw [h] <;> decide
                rw [HY1.out] at hch hex he
                obtain ⟨e1, e2, e3⟩ := chain_end (fun d hd => HSML.out d (List.mem_of_mem_take hd)) (by rw [HY2.out]; decide) hch he
                rw [HY2.out] at e3
                obtain rfl : ex = 12 := by
                  rcases hex with ⟨_, h⟩ | ⟨h, _⟩
                  · rw [h] at e3; cases e3
                  · exact h
                rw [← HF.out] at e2
                subst e2
                obtain ⟨gxs, hg1, hg2, _⟩ := hit.row
                obtain ⟨AG, nG, cG, rfl, hGc, HLG, hGm, hrG⟩ := gr_open hg1
                have hnG : nG = q := by rw [← HLG.out, hg2, e1, List.length_take, HLN.out]; omega
                subst hnG
                have HW6 := Lib.hid (below_then HW1.out HW1.out.size (below_then HBEL.out HBEL.out.size hb6))
                clear hit hex hg1 hg2 hrG hch e1 e3 he hb6 C3
                go_wp2_with fail
                go_ret
                exact ⟨rfl, HW6.out⟩
          · have d1 : decide ((j : Int) < 32) = false := by simp; omega
            cases hany : anyB B j
            · have HANY := Lib.hid hany
              clear hany
              go_wp2_with fail
              go_ret
              exact ⟨rfl, below_then HW1.out HW1.out.size HBEL.out⟩
            · obtain ⟨y, hy1, hy2⟩ := turned (by rw [HLN.out]; exact hqn) HBY.out HSML.out hinv hj hany HWIN.out HAL.out (by have := HHI.out; omega)
              obtain ⟨hrd, hcl, hcc⟩ := gr_rds hox
              have hbyc : Byte c2 := hinv.byte
              have C3 := Lib.hid (all_any (some ⟨g, 0, none⟩) L cap c2 wt (halves_of HT1.out HBEL.out) hrd hbyc hcc (by omega))
              have HANY := Lib.hid hany
              have HY1 := Lib.hid hy1
              have HY2 := Lib.hid hy2
              clear hany hy1 hy2 hrd hcl hcc hbyc
              go_wp2_with fail
              refine C3.out.mono ?_
              rintro e w6 ⟨gv, a', ex, ds, rfl, hit, hb6, hch, hex⟩
              have he : (next (c2.drop a')).2.2 ≠ 0 := by rcases hex with ⟨_, h⟩ | ⟨_, h⟩ <;> rw [h] <;> decide
              rw [HY1.out] at hch hex he
              obtain ⟨e1, e2, e3⟩ := chain_end (fun d hd => HSML.out d (List.mem_of_mem_take hd)) (by rw [HY2.out]; decide) hch he
              rw [HY2.out] at e3
              obtain rfl : ex = 12 := by
                rcases hex with ⟨_, h⟩ | ⟨h, _⟩
                · rw [h] at e3; cases e3
                · exact h
              rw [← HF.out] at e2
              subst e2
              obtain ⟨gxs, hg1, hg2, _⟩ := hit.row
              obtain ⟨AG, nG, cG, rfl, hGc, HLG, hGm, hrG⟩ := gr_open hg1
              have hnG : nG = q := by rw [← HLG.out, hg2, e1, List.length_take, HLN.out]; omega
              subst hnG
              have HW6 := Lib.hid (below_then HW1.out HW1.out.size (below_then HBEL.out HBEL.out.size hb6))
              clear hit hex hg1 hg2 hrG hch e1 e3 he hb6 C3
              go_wp2_with fail
              go_ret
              exact ⟨rfl, HW6.out⟩
      · have hF0 : F ≤ L := by omega
        obtain ⟨m, hm⟩ : ∃ m : Nat, m = 4 := ⟨_, rfl⟩
        have hm0 : 0 < m := by omega
        have HWIN : Hid ((F = (lay (ls.take q)).length ∧ m = 4) ∨ (F = (lay (ls.take q)).length + 12 ∧ m = (ls.getD q []).length)) := Lib.hid (.inl ⟨HF.out, hm⟩)
        obtain ⟨hi, hhi⟩ : ∃ hi : Nat, hi = F + m := ⟨_, rfl⟩
        obtain ⟨ra, hra⟩ : ∃ ra : Nat, ra = r2 % (8 * (hi - F)) := ⟨_, rfl⟩
        have hral : ra < 8 * m := by rw [hra]; have := Nat.mod_lt r2 (show 0 < 8 * (hi - F) by omega); omega
        have hrem2 : (r2 : Int) % (8 * ((hi : Int) - (F : Int))) = (ra : Int) := by rw [hra, Int.natCast_emod, Int.natCast_mul, Int.natCast_sub (by omega)]; rfl
        obtain ⟨a, ha⟩ : ∃ a : Nat, a = 8 * F + ra := ⟨_, rfl⟩
        have hae : (8 * (F : Int) + (ra : Int)) = (a : Int) := by omega
        have hle : hi ≤ L := by omega
        have hlh : F < hi := by omega
        have HAL : Hid (8 * F ≤ a) := Lib.hid (by omega)
        have HA8 : Hid (a < 8 * hi) := Lib.hid (by omega)
        have HHI : Hid (hi = F + m) := Lib.hid hhi
        have hra2 : ra < 3000 * 8 := by omega
        have tl : ((F : Int) == (hi : Int)) = false := by simp; omega
        clear hra
        go_upto_region 25 with fail
        rw [show (F : Int) + 4 = (hi : Int) by omega]
        clear hsp hhi hm ha hm0 hral 
        go_upto_region 28 with fail
        try rw [hrem2]
        try rw [hae]
        clear hrem2 hr2' tl hae
        have hR0 : Hid (Tr2 w1 w0r (lay ls) a B 0 (.slice (some ⟨g, 0, none⟩) L cap)) := Lib.hid ⟨⟨_, H1.out, inv_zero_ _ _ _ (lay_byte HBY.out)⟩, H4.out⟩
        have ha8 := HA8.out
        go_wp2_with fail
        go_loopw [19, 20] (fun t i wr => ∃ j : Nat, j ≤ 32 ∧ a + j ≤ 8 * hi ∧ i = .int .i64 j ∧ t = .bool (anyB B j) ∧ Hid (Tr2 w1 wr (lay ls) a B j (.slice (some ⟨g, 0, none⟩) L cap))) (fun _ i _ => 32 - (intOf i).toNat)
        case atStart => exact ⟨0, by omega, by omega, rfl, rfl, hR0⟩
        case round =>
          obtain ⟨j, hj, haj, rfl, rfl, hR⟩ := hrel
          clear hR0
          obtain ⟨⟨c2, hox, hinv⟩, hbel⟩ := hR.out
          have HBEL := Lib.hid hbel
          obtain ⟨wt, rfl⟩ : ∃ x : World, x = wr := ⟨_, rfl⟩
          clear hbel hR
          by_cases hlt : j < 32
          · have d1 : decide ((j : Int) < 32) = true := by simp; omega
            by_cases hlt2 : a + j < 8 * hi
            · have d2 : decide ((a : Int) + (j : Int) < 8 * (hi : Int)) = true := by simp; omega
              obtain ⟨hc1', hf1⟩ := gr_cell 0 hox ((a + j) / 8) (by omega)
              have HSET := Lib.hid (fun hb => inv_set hinv (by rw [HL5.out]; omega) hb)
              have HSKIP := Lib.hid (fun hb => inv_skip hinv hb)
              have htb := test_bit B j HBB.out
              have HANY := Lib.hid (anyB_succ B j)
              have HOX := Lib.hid hox
              clear hinv hox
              cases hbit : B.testBit j
              · rw [hbit] at htb
                rw [show ((false.toNat : Nat) : Int) = 0 from rfl] at htb
                have HBIT := Lib.hid hbit
                clear hbit
                go_wp2_with fail
                go_roundw
                case rel => exact ⟨j + 1, by omega, by omega, by go_num, by rw [HANY.out, HBIT.out, Bool.or_false], Lib.hid ⟨⟨_, HOX.out, HSKIP.out HBIT.out⟩, HBEL.out⟩⟩
                case measure => simp [intOf]; omega
              · rw [hbit] at htb
                rw [show ((true.toNat : Nat) : Int) = 1 from rfl] at htb
                have HBIT := Lib.hid hbit
                clear hbit
                go_wp2_with fail
                go_roundw
                case rel => exact ⟨j + 1, by omega, by omega, by go_num, by rw [HANY.out, HBIT.out, Bool.or_true], Lib.hid ⟨⟨_, gr_set HOX.out _ _, HSET.out HBIT.out⟩, HBEL.out.setCell hgb _⟩⟩
                case measure => simp [intOf]; omega
            · have d2 : decide ((a : Int) + (j : Int) < 8 * (hi : Int)) = false := by simp; omega
              cases hany : anyB B j
              · have HANY := Lib.hid hany
                clear hany
                go_wp2_with fail
                go_ret
                exact ⟨rfl, below_then HW1.out HW1.out.size HBEL.out⟩
              · obtain ⟨y, hy1, hy2⟩ := turned (by rw [HLN.out]; exact hqn) HBY.out HSML.out hinv hj hany HWIN.out HAL.out (by have := HHI.out; omega)
                obtain ⟨hrd, hcl, hcc⟩ := gr_rds hox
                have hbyc : Byte c2 := hinv.byte
                have C3 := Lib.hid (all_any (some ⟨g, 0, none⟩) L cap c2 wt (halves_of HT1.out HBEL.out) hrd hbyc hcc (by omega))
                have HANY := Lib.hid hany
                have HY1 := Lib.hid hy1
                have HY2 := Lib.hid hy2
                clear hany hy1 hy2 hrd hcl hcc hbyc
                go_wp2_with fail
                refine C3.out.mono ?_
                rintro e w6 ⟨gv, a', ex, ds, rfl, hit, hb6, hch, hex⟩
                have he : (next (c2.drop a')).2.2 ≠ 0 := by rcases hex with ⟨_, h⟩ | ⟨_, h⟩ <;> rw [h] <;> decide
                rw [HY1.out] at hch hex he
                obtain ⟨e1, e2, e3⟩ := chain_end (fun d hd => HSML.out d (List.mem_of_mem_take hd)) (by rw [HY2.out]; decide) hch he
                rw [HY2.out] at e3
                obtain rfl : ex = 12 := by
                  rcases hex with ⟨_, h⟩ | ⟨h, _⟩
                  · rw [h] at e3; cases e3
                  · exact h
                rw [← HF.out] at e2
                subst e2
                obtain ⟨gxs, hg1, hg2, _⟩ := hit.row
                obtain ⟨AG, nG, cG, rfl, hGc, HLG, hGm, hrG⟩ := gr_open hg1
                have hnG : nG = q := by rw [← HLG.out, hg2, e1, List.length_take, HLN.out]; omega
                subst hnG
                have HW6 := Lib.hid (below_then HW1.out HW1.out.size (below_then HBEL.out HBEL.out.size hb6))
                clear hit hex hg1 hg2 hrG hch e1 e3 he hb6 C3
                go_wp2_with fail
                go_ret
                exact ⟨rfl, HW6.out⟩
          · have d1 : decide ((j : Int) < 32) = false := by simp; omega
            cases hany : anyB B j
            · have HANY := Lib.hid hany
              clear hany
              go_wp2_with fail
              go_ret
              exact ⟨rfl, below_then HW1.out HW1.out.size HBEL.out⟩
            · obtain ⟨y, hy1, hy2⟩ := turned (by rw [HLN.out]; exact hqn) HBY.out HSML.out hinv hj hany HWIN.out HAL.out (by have := HHI.out; omega)
              obtain ⟨hrd, hcl, hcc⟩ := gr_rds hox
              have hbyc : Byte c2 := hinv.byte
              have C3 := Lib.hid (all_any (some ⟨g, 0, none⟩) L cap c2 wt (halves_of HT1.out HBEL.out) hrd hbyc hcc (by omega))
              have HANY := Lib.hid hany
              have HY1 := Lib.hid hy1
              have HY2 := Lib.hid hy2
              clear hany hy1 hy2 hrd hcl hcc hbyc
              go_wp2_with fail
              refine C3.out.mono ?_
              rintro e w6 ⟨gv, a', ex, ds, rfl, hit, hb6, hch, hex⟩
              have he : (next (c2.drop a')).2.2 ≠ 0 := by rcases hex with ⟨_, h⟩ | ⟨_, h⟩ <;> rw [h] <;> decide
              rw [HY1.out] at hch hex he
              obtain ⟨e1, e2, e3⟩ := chain_end (fun d hd => HSML.out d (List.mem_of_mem_take hd)) (by rw [HY2.out]; decide) hch he
              rw [HY2.out] at e3
              obtain rfl : ex = 12 := by
                rcases hex with ⟨_, h⟩ | ⟨h, _⟩
                · rw [h] at e3; cases e3
                · exact h
              rw [← HF.out] at e2
              subst e2
              obtain ⟨gxs, hg1, hg2, _⟩ := hit.row
              obtain ⟨AG, nG, cG, rfl, hGc, HLG, hGm, hrG⟩ := gr_open hg1
              have hnG : nG = q := by rw [← HLG.out, hg2, e1, List.length_take, HLN.out]; omega
              subst hnG
              have HW6 := Lib.hid (below_then HW1.out HW1.out.size (below_then HBEL.out HBEL.out.size hb6))
              clear hit hex hg1 hg2 hrG hch e1 e3 he hb6 C3
              go_wp2_with fail
              go_ret
              exact ⟨rfl, HW6.out⟩
end Go.Proofs.YtakjmhcdmchgdaaDoor.Rec

