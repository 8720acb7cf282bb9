/- The walk of the law RecordAlls. -/
import Derived.Test.YtakjmhcdmchgdaaDoorRecF
import Derived.Test.YtakjmhcdmchgdaaDoorWalk2
namespace Go.Proofs.YtakjmhcdmchgdaaDoor.Rec
set_option linter.unusedVariables false
set_option linter.unusedSimpArgs false
open Go.Proofs.YtakjmhcdmchgdaaDoor.Kit Go.Proofs.YtakjmhcdmchgdaaDoor.Num Go.RowKit Go.Proofs.YtakjmhcdmchgdaaDoorW.PrintWords Go.Proofs.YtakjmhcdmchgdaaDoorW.PrintLast Go.Proofs.YtakjmhcdmchgdaaDoorW.PrintMore NumPure
open Crc (Halves sum mask sum_any mask_any mask_lt sum_lt refsum_any refmask_any own_rds_)
theorem info3i : (Tryd.prog.info? 3).map (fun i => (i.zero, i.size, i.bytes)) = some (some (.int .i64 0), 1, 8) := by kernel_rfl
theorem tbi : SlTy Tryd.prog 43 3 (.int .i64 0) 8 := ⟨Tryd.underlying43, info3i, rfl, by decide⟩
def endsOf (ls : List (List Int)) (k : Nat) : List Int := (List.range (k + 1)).map fun j => ((lay (ls.take j)).length : Int)
theorem endsOf_length (ls : List (List Int)) (k : Nat) : (endsOf ls k).length = k + 1 := by simp [endsOf]
theorem endsOf_succ (ls : List (List Int)) (k : Nat) : endsOf ls (k + 1) = endsOf ls k ++ [((lay (ls.take (k + 1))).length : Int)] := by simp [endsOf, List.range_succ]
theorem endsOf_at (ls : List (List Int)) (k j : Nat) (h : j ≤ k) : (endsOf ls k).getD j 0 = ((lay (ls.take j)).length : Int) := getD_range _ _ _ _ (by omega)
theorem lay_len_le {ls : List (List Int)} {k : Nat} (h : ∀ j, j < k → (ls.getD j []).length ≤ 200) (hk : k ≤ ls.length) : (lay (ls.take k)).length ≤ 212 * k := by
  induction k with
  | zero => simp [lay]
  | succ k ih =>
    rw [take_snocL (d0 := []) (by omega), lay_snoc, List.length_append, rec_length]
    have := ih (fun j hj => h j (by omega)) (by omega)
    have := h k (by omega)
    omega
theorem lay_mono (ls : List (List Int)) {i j : Nat} (h : i ≤ j) : (lay (ls.take i)).length ≤ (lay (ls.take j)).length := by
  have := lay_take_le (ls.take j) i
  rwa [List.take_take, Nat.min_eq_left h] at this
theorem lay_byte2 {ls : List (List Int)} {n k : Nat} (h : ∀ j, j < n → Byte (ls.getD j [])) (hk : k ≤ ls.length) (hn : ls.length ≤ n := by omega) : Byte (lay (ls.take k)) := lay_byte fun d hd => by
  obtain ⟨j, hj, rfl⟩ := List.mem_iff_getElem.1 (List.mem_of_mem_take hd)
  have := h j (by omega)
  rwa [List.getD_eq_getElem?_getD, List.getElem?_eq_getElem hj] at this
/-- The bytes and the ends that are laid so far. -/
structure Two (w0 wr : World) (ls : List (List Int)) (k : Nat) (v ve : Value) : Prop where
  all : GrB wr w0.heap.size v (lay (ls.take k))
  ends : Gr .i64 3 wr w0.heap.size ve (endsOf ls k)
  ap : Apart ve v
  bel : Below w0.heap.size w0 wr
  small : ∀ j, j < k → (ls.getD j []).length ≤ 200
theorem two_start (w0 : World) (ls : List (List Int)) : Two w0 ((w0.alloc (.cells #[] 5)).alloc (.cells #[.int .i64 0] 3)) ls 0 (.slice (some ⟨w0.heap.size, 0, none⟩) 0 0) (.slice (some ⟨w0.heap.size + 1, 0, none⟩) 1 1) := by
  have h1 : GrB (w0.alloc (.cells #[] 5)) w0.heap.size (.slice (some ⟨w0.heap.size, 0, none⟩) 0 0) (lay (ls.take 0)) := .inl (own_lit_ .u8 5 w0 w0.heap.size [] 0 rfl (Nat.le_refl _) (by simp))
  have hb : Below w0.heap.size w0 (w0.alloc (.cells #[] 5)) := below_alloc (Below.refl _ _) _
  refine ⟨gr_below h1 (below_alloc (Below.refl _ _) _), .inl (own_lit_at .i64 3 (w0.alloc (.cells #[] 5)) w0.heap.size [0] 1 (w0.heap.size + 1) (by simp) rfl hb.size (by simp)), ⟨.inr (.inr ?_)⟩, below_alloc hb _, fun j hj => absurd hj (by omega)⟩
  simp [Value.ownBlock]
theorem reg_12_21 : RegOk (opsOf Tryd.f12 21) [[], [0], [], [2], [0, 1, 2, 3], [0, 1, 2, 3, 4], [0, 1, 2, 3, 4, 5], [0, 1, 2, 3, 4, 5], [0, 1, 2, 3, 4, 5, 7], [0, 1, 2, 3, 4, 5, 6, 7, 8], [0, 1, 2, 3, 4, 5, 6, 7, 8, 9], [0, 1, 2, 3, 4, 5], [0, 1, 2, 3, 4, 5, 6, 7, 8, 9, 10, 11], [0, 1, 2, 3, 4, 5, 6, 7, 8, 9, 10, 11, 12]] [] [some 61, some 62, some 63, some 64, some 65, some 66, some 67, some 68, some 69, some 70, some 71, some 72, some 73, some 74] := regOk (by kernel_rfl)
theorem reg_12_23 : RegOk (opsOf Tryd.f12 23) [[], [0], [0, 1], [0, 1, 2], [0, 1, 2, 3], [0, 1, 2], [0, 1, 2, 3, 4, 5], [0, 1, 2, 3, 4, 5, 6], [0, 1, 2, 3, 4, 5, 6, 7], [0, 1, 2, 3, 4, 5, 6, 7, 8], [0, 1, 2, 3, 4, 5, 6, 7, 8], [0, 1, 2, 3, 4, 5, 6, 7, 8], [0, 1, 2, 3, 4, 5, 6, 7, 8, 10, 11], [0, 1, 2, 3, 4, 5, 6, 7, 8, 10, 11, 12], [0, 1, 2, 3, 4, 5, 6, 7, 8, 9, 10, 11, 12, 13], [0, 1, 2, 3, 4, 5, 6, 7, 8, 9, 10, 11, 12, 13, 14]] [] [some 77, some 78, some 79, some 80, some 81, some 82, some 83, some 84, some 85, some 86, some 87, some 88, some 89, some 90, some 91, some 92] := regOk (by kernel_rfl)
theorem reg_12_28 : RegOk (opsOf Tryd.f12 28) [[], [], [0, 1], [0, 1, 2], [0, 1, 2, 3], [], [], [5, 6], [5, 6, 7], [5, 6, 7, 8], [0, 1, 2, 3, 4, 5, 6, 7, 8, 9]] [] [some 98, some 99, some 100, some 101, some 102, some 103, some 104, some 105, some 106, some 107, some 108] := regOk (by kernel_rfl)
set_option maxRecDepth 20000 in
set_option maxHeartbeats 6400000 in
theorem alls_any (A : Option Addr) (n c : Nat) (ls : List (List Int)) (N : Int) (w : World) (hT : Halves w) (hs : SlsOf .u8 w A n c ls) (hN : (Lit.int .i64 N).wf = true) :
    Calls Tryd.prog 12 #[.slice A n c, .int .i64 N] w fun e w' => e = .returned (.bool true) ∧ Below w.heap.size w w' := by
  obtain ⟨r0, hr0, hr65⟩ := i64_mask N 65535 (by omega)
  rw [show ((65535 : Nat) : Int) = 65535 from rfl] at hr0
  have HR0 := Lib.hid hr0
  obtain ⟨hln, hnc, xs, hrx, hxs⟩ := hs
  have HLN := Lib.hid hln
  have HRX := Lib.hid hrx
  have HXS := Lib.hid hxs
  have HT := Lib.hid hT
  clear hln hrx hxs hT hN hr0
  have C0 := Lib.hid (head_any w HT.out)
  go_enter Tryd.func12, Tryd.ntmps12
  go_wp2_with fail
  refine C0.out.mono ?_
  rintro e w1 ⟨rfl, hb1⟩
  have HW1 := Lib.hid hb1
  clear hb1 C0
  go_upto_region 3 with fail
  rcases Nat.lt_or_ge 12 n with g1 | g1
  · have t1 : decide ((12 : Int) < (n : Int)) = true := decide_eq_true (by omega)
    go_wp2_with fail
    go_ret
    exact ⟨rfl, HW1.out⟩
  have t1 : decide ((12 : Int) < (n : Int)) = false := decide_eq_false (by omega)
  have H20 := Lib.hid (two_start w1 ls)
  have HT1 := Lib.hid (halves_of HT.out HW1.out)
  go_wp2_with fail
  go_loopw [5, 6, 25] (fun out es i wr => ∃ (k : Nat) (v ve : Value), v = out ∧ ve = es ∧ i = .int .i64 k ∧ k ≤ n ∧ Hid (Two w1 wr ls k v ve)) (fun _ _ i _ => n - (intOf i).toNat)
  case atStart => exact ⟨0, _, _, rfl, rfl, rfl, Nat.zero_le _, H20⟩
  case round =>
    obtain ⟨k, v, ve, hv, hve, rfl, hk, H2⟩ := hrel
    subst hv
    subst hve
    clear H20
    by_cases hlt : k < n
    · have t2 : decide ((k : Int) < (n : Int)) = true := decide_eq_true (by omega)
      have hW : Below w.heap.size w wr := below_then HW1.out HW1.out.size H2.out.bel
      obtain ⟨ad, e1, hc1⟩ := rds_at default (rds_below HRX.out hW) k hlt
      subst e1
      obtain ⟨q1, q2, q3, q4⟩ := HXS.out k hlt
      have hd := byte_wf' q4
      have hsn : lay (ls.take (k + 1)) = lay (ls.take k) ++ rec_ (ls.getD k []) := by rw [take_snocL (d0 := []) (by rw [HLN.out]; exact hlt), lay_snoc]
      have hes := endsOf_succ ls k
      have hlk := lay_len_le H2.out.small (by rw [HLN.out]; exact hk)
      generalize xs.getD k default = x at hc1 q1 q2 q3
      obtain ⟨Ax, nx, cx⟩ := x
      have hc1' : wr.cell? (ad.add k) = some (.slice Ax nx cx) := hc1
      have HW := Lib.hid hW
      have HQ1 := Lib.hid q1
      have HQ2 := Lib.hid q2
      have HD := Lib.hid hd
      have HSN := Lib.hid hsn
      have HES := Lib.hid hes
      have i0 : (0 : Int) ≤ (k : Int) := by omega
      have i1 : (k : Int) < (n : Int) := by omega
      clear hc1 q1 q2 q3 q4 hd hsn hes hW
      rcases Nat.lt_or_ge 200 nx with g2 | g2
      · have t3 : decide ((200 : Int) < (nx : Int)) = true := decide_eq_true (by omega)
        go_wp2_with fail
        go_ret
        exact ⟨rfl, HW.out⟩
      have t3 : decide ((200 : Int) < (nx : Int)) = false := decide_eq_false (by omega)
      have C2 := Lib.hid (recPut_any Ax nx cx (ls.getD k []) v _ w1 wr HT1.out H2.out.all H2.out.bel (rds_below HQ1.out HW1.out) HD.out (lay_byte2 (fun j hj => byte_wf' (HXS.out j (by omega)).2.2.2) (by rw [HLN.out]; exact hk) (by rw [HLN.out]; exact Nat.le_refl _)) (by omega) (by omega))
      go_wp2_with fail
      refine C2.out.mono ?_
      rintro e w5 ⟨v5, rfl, hA⟩
      have ho5 : GrB w5 w1.heap.size v5 (lay (ls.take (k + 1))) := by rw [HSN.out]; exact hA.own
      have HE5 := Lib.hid (hA.fr.keep_gr H2.out.ends H2.out.ap)
      have HAP5 := Lib.hid (hA.fr.apart_gr H2.out.ends H2.out.ap)
      have HB5 := Lib.hid hA.bel
      obtain ⟨A5, n5, c5, rfl, h5c, HL5, h5m, hr5⟩ := gr_open ho5
      have HO5 := Lib.hid ho5
      have HSM : Hid (∀ j, j < k + 1 → (ls.getD j []).length ≤ 200) := Lib.hid (fun j hj => by
        rcases Nat.lt_or_ge j k with g | g
        · exact H2.out.small j g
        · obtain rfl : j = k := by omega
          rw [HQ2.out]; exact g2)
      have hn5 : (n5 : Int) = ((lay (ls.take (k + 1))).length : Int) := by rw [HL5.out]
      have HN5 := Lib.hid hn5
      clear hA ho5 hr5 C2 hn5
      go_wp2_with (at_builtin; refine gapp_one (enc := Value.int .i64) (h1 := int_one .i64) tbi (p := (n5 : Int)) rfl (.tmp 41) (.tmp 44) rfl rfl rfl HE5.out HB5.out HB5.out.size ?cL ?_; (case cL => rw [endsOf_length]; omega); intro v6 w6 ho hb6 hs1 hf; have H26 : Hid (Two w1 w6 ls (k + 1) (.slice A5 n5 c5) v6) := Lib.hid ⟨hf.keep_gr HO5.out HAP5.out.symm, by rw [HES.out, ← HN5.out]; exact ho, (hf.apart_gr HO5.out HAP5.out.symm).symm, hb6, HSM.out⟩; clear ho hb6 hs1 hf)
      go_roundw
      case rel => exact ⟨k + 1, _, _, rfl, rfl, by go_num, by omega, H26⟩
      case measure => simp [intOf]; omega
    · obtain rfl : k = n := by omega
      have t2 : decide ((k : Int) < (k : Int)) = false := by simp
      obtain ⟨h1, h2, h3, h4, h5⟩ := H2.out
      have htk : ls.take k = ls := List.take_of_length_le (by rw [HLN.out]; exact Nat.le_refl _)
      have hlk := lay_len_le h5 (by rw [HLN.out]; exact Nat.le_refl _)
      rw [htk] at h1 hlk
      obtain ⟨A5, L, c5, rfl, h5c, HL5, h5m, hr5⟩ := gr_open h1
      obtain ⟨AE, nE, cE, rfl, hEc, HLE, hEm, hrE⟩ := gr_open h2
      have hnE : nE = k + 1 := by rw [← HLE.out, endsOf_length]
      subst hnE
      rw [HL5.out] at hlk
      obtain ⟨r, hr⟩ : ∃ r : Nat, r = r0 % (L + 1) := ⟨_, rfl⟩
      have hrL : r ≤ L := by have := Nat.mod_lt r0 (show 0 < L + 1 by omega); omega
      have hrem : (r0 : Int) % ((L : Int) + 1) = (r : Int) := by rw [hr, Int.natCast_emod]; rfl
      obtain ⟨hcut, hC⟩ := cut_to (enc := Value.int .u8) (h1 := int_one .u8) 0 tb A5 L c5 r hrL h5c (r : Int) rfl
      have hby : Byte (lay ls) := by
        have := lay_byte2 (k := k) (fun j hj => byte_wf' (HXS.out j hj).2.2.2) (by rw [HLN.out]; exact Nat.le_refl _) (by rw [HLN.out]; exact Nat.le_refl _)
        rwa [htk] at this
      have hWW := below_then HW1.out HW1.out.size h4
      have C2 := Lib.hid (all_any A5 r c5 _ wr (halves_of HT.out hWW) (hC wr _ hr5) (hby.take r) (by omega) (by omega))
      have HWW := Lib.hid hWW
      have HRE := Lib.hid hrE
      have HSM : Hid (∀ d ∈ ls, d.length ≤ 1048576) := Lib.hid (fun d hd => by
        obtain ⟨j, hj, rfl⟩ := List.mem_iff_getElem.1 hd
        have := h5 j (by rw [HLN.out] at hj; exact hj)
        rw [List.getD_eq_getElem?_getD, List.getElem?_eq_getElem hj] at this
        simp only [Option.getD_some] at this
        omega)
      have hr0' := HR0.out
      obtain ⟨w0r, rfl⟩ : ∃ x : World, x = wr := ⟨_, rfl⟩
      have hcast : ((k + 1 : Nat) : Int) = (k : Int) + 1 := by omega
      clear h1 h2 h3 h4 h5 hr5 hrE hby hWW hC hr htk
      go_wp2_with fail
      refine C2.out.mono ?_
      rintro e w6 ⟨gv, a, ex, ds, rfl, hit, hb6, hch, hex⟩
      obtain ⟨K, k1, e1, e2, e3, k3, e8⟩ := cut_all HSM.out (by rw [HL5.out]; exact hrL) hch (by rcases hex with ⟨_, h⟩ | ⟨_, h⟩ <;> rw [h] <;> decide)
      obtain rfl : ex = 0 := by
        rcases hex with ⟨h, _⟩ | ⟨_, h⟩
        · exact h
        · rw [h] at e8; cases e8
      obtain ⟨gxs, hg1, hg2, hg3⟩ := hit.row
      obtain ⟨AG, nG, cG, rfl, hGc, HLG, hGm, hrG⟩ := gr_open hg1
      rw [HLN.out] at k1 k3
      have hdl : ds.length = K := by rw [e1, List.length_take, HLN.out]; omega
      have hnG : nG = K := by rw [← HLG.out, hg2, hdl]
      subst hnG
      have HW6 := Lib.hid (below_then HWW.out HWW.out.size hb6)
      have HRE6 := Lib.hid (rds_below HRE.out hb6)
      have HRG := Lib.hid hrG
      have HG3 : Hid (∀ i, i < nG → Gr .u8 5 w6 w0r.heap.size (encS (gxs.getD i default)) (ls.getD i [])) := Lib.hid (fun i hi => by
        have := (hg3 i (by omega)).1
        rwa [e1, List.getD_eq_getElem?_getD (l := ls.take nG), List.getElem?_take, if_pos hi, ← List.getD_eq_getElem?_getD] at this)
      have HEA : Hid (∀ j, j ≤ k → (endsOf ls k).getD j 0 = ((lay (ls.take j)).length : Int)) := Lib.hid (fun j hj => endsOf_at ls k j hj)
      have HMO : Hid (∀ j, j ≤ nG → (lay (ls.take j)).length ≤ r) := Lib.hid (fun j hj => Nat.le_trans (lay_mono ls hj) (by omega))
      have HA := Lib.hid e2
      have HK3 := Lib.hid k3
      rw [hrem]
      clear hit hex hg1 hg2 hg3 hrG hch e1 e2 k3 e8 hb6 C2 hdl
      go_wp2_with fail
      go_loopw [14] (fun j wr2 => ∃ j' : Nat, j' ≤ nG ∧ j = .int .i64 j' ∧ Hid (Below w6.heap.size w6 wr2)) (fun j _ => nG - (intOf j).toNat)
      case atStart => exact ⟨0, Nat.zero_le _, rfl, Lib.hid (Below.refl _ _)⟩
      case round =>
        obtain ⟨j, hj, rfl, HV⟩ := hrel
        obtain ⟨wv, rfl⟩ : ∃ x : World, x = wr := ⟨_, rfl⟩
        by_cases hjk : j < k
        · have HC : Hid (∀ wq, Below w6.heap.size w6 wq → ∃ ad, AE = some ad ∧ wq.cell? (ad.add (j + 1)) = some (.int .i64 ((lay (ls.take (j + 1))).length : Int))) := Lib.hid (fun wq h => by
            obtain ⟨ad, e1, hc1⟩ := rds_at 0 (rds_below HRE6.out h) (j + 1) (by omega)
            rw [HEA.out (j + 1) (by omega)] at hc1
            exact ⟨ad, e1, hc1⟩)
          obtain ⟨ad, e1, _⟩ := HC.out w6 (Below.refl _ _)
          subst e1
          have HC : Hid (∀ wq, Below w6.heap.size w6 wq → wq.cell? (ad.add (j + 1)) = some (.int .i64 ((lay (ls.take (j + 1))).length : Int))) := Lib.hid (fun wq h => by
            obtain ⟨ad', e1, hc1⟩ := HC.out wq h
            injection e1 with e1
            rw [e1]; exact hc1)
          by_cases hjg : j < nG
          · have T4 : Hid (decide (((lay (ls.take (j + 1))).length : Int) ≤ (r : Int)) = true) := Lib.hid (decide_eq_true (by have := HMO.out (j + 1) (by omega); omega))
            go_upto_region 21 with fail
            refine plain_ (fun wq => Below w6.heap.size w6 wq) (fun _ => True) reg_12_21 rfl (fun _ _ h k => below_then h h.size k) (fun _ _ _ _ => trivial) HV.out trivial ?_
            refine w_move (.inl rfl) (fun vs w hK => ⟨wants_none rfl, rho_out rfl rfl⟩) ?_
            refine w_val [(61, _)] (_) (fun vs w hK => ⟨wants_none rfl, rho_in rfl (fv (hK 0 (by decide))), trivial⟩) rfl (fun wq hI => by exact run_int_add rfl rfl rfl (i64_id (by omega) (by omega))) ?_
            refine w_move (.inl rfl) (fun vs w hK => ⟨wants_none rfl, rho_out rfl rfl⟩) ?_
            refine w_val [(63, _)] (_) (fun vs w hK => ⟨wants_none rfl, rho_in rfl (fv (hK 2 (by decide))), trivial⟩) rfl (fun wq hI => by exact run_len_sl rfl Tryd.underlying43 rfl hcast) ?_
            refine w_val [(62, _), (64, _)] (_) (fun vs w hK => ⟨wants_none rfl, rho_in rfl (fv (hK 1 (by decide))), rho_in rfl (fv (hK 3 (by decide))), trivial⟩) rfl (fun wq hI => by exact run_int_lss (r := true) rfl rfl rfl (decide_eq_true (by omega))) ?_
            refine w_move (.inl rfl) (fun vs w hK => ⟨wants_none rfl, rho_in rfl (fv (hK 4 (by decide)))⟩) ?_
            refine w_move (.inl rfl) (fun vs w hK => ⟨wants_g rfl (fv (hK 5 (by decide))), rho_out rfl rfl⟩) ?_
            refine w_move (.inl rfl) (fun vs w hK => ⟨wants_g rfl (fv (hK 5 (by decide))), rho_out rfl rfl⟩) ?_
            refine w_val [(68, _)] (_) (fun vs w hK => ⟨wants_g rfl (fv (hK 5 (by decide))), rho_in rfl (fv (hK 7 (by decide))), trivial⟩) rfl (fun wq hI => by exact run_int_add rfl rfl rfl (i64_id (by omega) (by omega))) ?_
            refine w_val [(67, _), (69, _)] (_) (fun vs w hK => ⟨wants_g rfl (fv (hK 5 (by decide))), rho_in rfl (fv (hK 6 (by decide))), rho_in rfl (fv (hK 8 (by decide))), trivial⟩) rfl (fun wq hI => by exact run_index_cell tbi rfl rfl rfl (i := j + 1) (by omega) (by omega)) ?_
            refine w_val [(70, _)] (_) (fun vs w hK => ⟨wants_g rfl (fv (hK 5 (by decide))), rho_in rfl (fv (hK 9 (by decide))), trivial⟩) rfl (fun wq hI => by exact run_load_cell rfl rfl rfl Tryd.underlying3 rfl (HC.out wq hI)) ?_
            refine w_move (.inl rfl) (fun vs w hK => ⟨wants_g rfl (fv (hK 5 (by decide))), rho_out rfl rfl⟩) ?_
            refine w_val [(71, _), (72, _)] (_) (fun vs w hK => ⟨wants_g rfl (fv (hK 5 (by decide))), rho_in rfl (fv (hK 10 (by decide))), rho_in rfl (fv (hK 11 (by decide))), trivial⟩) rfl (fun wq hI => by exact run_int_leq (r := true) rfl rfl rfl T4.out) ?_
            refine w_pick (b := true) rfl (fun vs w hK => ⟨wants_none rfl, (rho_in rfl (fv (hK 5 (by decide)))), (rho_in rfl (fv (hK 12 (by decide))))⟩) ?_
            refine w_end rfl rfl rfl (fun vs wq hI hF => ?_)
            simp only [List.reverse_cons, List.reverse_nil, List.nil_append, List.cons_append, finL_val, finL_of, finL_any, finL_app, finL_new, finL_gr, finL_row, finL_box, finL_nil, Act.put, List.setIfInBounds_toArray, List.set_cons_zero, List.set_cons_succ, Nat.reduceAdd]
            have HV2 := Lib.hid hI
            clear hI hF
            go_wp2_with fail
            go_roundw
            case rel => exact ⟨j + 1, by omega, by go_num, HV2⟩
            case measure => simp [intOf]; omega
          · obtain rfl : nG = j := by omega
            have T4 : Hid (decide (((lay (ls.take (nG + 1))).length : Int) ≤ (r : Int)) = false) := Lib.hid (decide_eq_false (by have := HK3.out hjk; omega))
            go_upto_region 21 with fail
            refine plain_ (fun wq => Below w6.heap.size w6 wq) (fun _ => True) reg_12_21 rfl (fun _ _ h k => below_then h h.size k) (fun _ _ _ _ => trivial) HV.out trivial ?_
            refine w_move (.inl rfl) (fun vs w hK => ⟨wants_none rfl, rho_out rfl rfl⟩) ?_
            refine w_val [(61, _)] (_) (fun vs w hK => ⟨wants_none rfl, rho_in rfl (fv (hK 0 (by decide))), trivial⟩) rfl (fun wq hI => by exact run_int_add rfl rfl rfl (i64_id (by omega) (by omega))) ?_
            refine w_move (.inl rfl) (fun vs w hK => ⟨wants_none rfl, rho_out rfl rfl⟩) ?_
            refine w_val [(63, _)] (_) (fun vs w hK => ⟨wants_none rfl, rho_in rfl (fv (hK 2 (by decide))), trivial⟩) rfl (fun wq hI => by exact run_len_sl rfl Tryd.underlying43 rfl hcast) ?_
            refine w_val [(62, _), (64, _)] (_) (fun vs w hK => ⟨wants_none rfl, rho_in rfl (fv (hK 1 (by decide))), rho_in rfl (fv (hK 3 (by decide))), trivial⟩) rfl (fun wq hI => by exact run_int_lss (r := true) rfl rfl rfl (decide_eq_true (by omega))) ?_
            refine w_move (.inl rfl) (fun vs w hK => ⟨wants_none rfl, rho_in rfl (fv (hK 4 (by decide)))⟩) ?_
            refine w_move (.inl rfl) (fun vs w hK => ⟨wants_g rfl (fv (hK 5 (by decide))), rho_out rfl rfl⟩) ?_
            refine w_move (.inl rfl) (fun vs w hK => ⟨wants_g rfl (fv (hK 5 (by decide))), rho_out rfl rfl⟩) ?_
            refine w_val [(68, _)] (_) (fun vs w hK => ⟨wants_g rfl (fv (hK 5 (by decide))), rho_in rfl (fv (hK 7 (by decide))), trivial⟩) rfl (fun wq hI => by exact run_int_add rfl rfl rfl (i64_id (by omega) (by omega))) ?_
            refine w_val [(67, _), (69, _)] (_) (fun vs w hK => ⟨wants_g rfl (fv (hK 5 (by decide))), rho_in rfl (fv (hK 6 (by decide))), rho_in rfl (fv (hK 8 (by decide))), trivial⟩) rfl (fun wq hI => by exact run_index_cell tbi rfl rfl rfl (i := nG + 1) (by omega) (by omega)) ?_
            refine w_val [(70, _)] (_) (fun vs w hK => ⟨wants_g rfl (fv (hK 5 (by decide))), rho_in rfl (fv (hK 9 (by decide))), trivial⟩) rfl (fun wq hI => by exact run_load_cell rfl rfl rfl Tryd.underlying3 rfl (HC.out wq hI)) ?_
            refine w_move (.inl rfl) (fun vs w hK => ⟨wants_g rfl (fv (hK 5 (by decide))), rho_out rfl rfl⟩) ?_
            refine w_val [(71, _), (72, _)] (_) (fun vs w hK => ⟨wants_g rfl (fv (hK 5 (by decide))), rho_in rfl (fv (hK 10 (by decide))), rho_in rfl (fv (hK 11 (by decide))), trivial⟩) rfl (fun wq hI => by exact run_int_leq (r := false) rfl rfl rfl T4.out) ?_
            refine w_pick (b := true) rfl (fun vs w hK => ⟨wants_none rfl, (rho_in rfl (fv (hK 5 (by decide)))), (rho_in rfl (fv (hK 12 (by decide))))⟩) ?_
            refine w_end rfl rfl rfl (fun vs wq hI hF => ?_)
            simp only [List.reverse_cons, List.reverse_nil, List.nil_append, List.cons_append, finL_val, finL_of, finL_any, finL_app, finL_new, finL_gr, finL_row, finL_box, finL_nil, Act.put, List.setIfInBounds_toArray, List.set_cons_zero, List.set_cons_succ, Nat.reduceAdd]
            have HV2 := Lib.hid hI
            clear hI hF
            obtain ⟨wo, hwo⟩ : ∃ wo : World, wo = wq := ⟨_, rfl⟩
            subst hwo
            obtain ⟨ae, e1, hce⟩ := rds_at 0 (rds_below HRE6.out HV2.out) nG (by omega)
            first | subst e1 | (injection e1 with e1; subst e1)
            rw [HEA.out nG (by omega), ← HA.out] at hce
            have HCE := Lib.hid hce
            clear hce
            go_upto_region 23 with fail
            refine plain_ (fun wq => Below wo.heap.size wo wq) (fun _ => True) reg_12_23 rfl inv0 (fun _ _ _ _ => trivial) (Below.refl _ _) trivial ?_
            refine w_move (.inl rfl) (fun vs w hK => ⟨wants_none rfl, rho_out rfl rfl⟩) ?_
            refine w_val [(77, _)] _ (fun vs w hK => ⟨wants_none rfl, rho_in rfl (fv (hK 0 (by decide))), trivial⟩) rfl (fun wq hI => by simp only [execOp, Option.map_some, Option.map_none, lk_tmp, lk_const, lkT_cons, ↓reduceIte, Nat.reduceEqDiff]; go_simp; (first | done | rfl)) ?_
            refine w_move (.inl rfl) (fun vs w hK => ⟨wants_none rfl, rho_in rfl (fv (hK 1 (by decide)))⟩) ?_
            refine w_move (.inl rfl) (fun vs w hK => ⟨wants_g rfl (fv (hK 2 (by decide))), rho_out rfl rfl⟩) ?_
            refine w_val [(80, _)] (_) (fun vs w hK => ⟨wants_g rfl (fv (hK 2 (by decide))), rho_in rfl (fv (hK 3 (by decide))), trivial⟩) rfl (fun wq hI => by exact run_len_sl rfl Tryd.underlying42 rfl rfl) ?_
            refine w_move (.inl rfl) (fun vs w hK => ⟨wants_g rfl (fv (hK 2 (by decide))), rho_out rfl rfl⟩) ?_
            refine w_val [(81, _), (82, _)] (_) (fun vs w hK => ⟨wants_g rfl (fv (hK 2 (by decide))), rho_in rfl (fv (hK 4 (by decide))), rho_in rfl (fv (hK 5 (by decide))), trivial⟩) rfl (fun wq hI => by exact run_int_neq (r := false) rfl rfl rfl (by simp)) ?_
            refine w_pick (b := false) rfl (fun vs w hK => ⟨wants_none rfl, (rho_in rfl (fv (hK 2 (by decide)))), (rho_in rfl (fv (hK 6 (by decide))))⟩) ?_
            refine w_move (.inl rfl) (fun vs w hK => ⟨wants_none rfl, rho_in rfl (fv (hK 7 (by decide)))⟩) ?_
            refine w_move (.inl rfl) (fun vs w hK => ⟨wants_g rfl (fv (hK 8 (by decide))), rho_out rfl rfl⟩) ?_
            refine w_move (.inl rfl) (fun vs w hK => ⟨wants_g rfl (fv (hK 8 (by decide))), rho_out rfl rfl⟩) ?_
            refine w_move (.inl rfl) (fun vs w hK => ⟨wants_g rfl (fv (hK 8 (by decide))), rho_out rfl rfl⟩) ?_
            refine w_val [(87, _), (88, _)] (_) (fun vs w hK => ⟨wants_g rfl (fv (hK 8 (by decide))), rho_in rfl (fv (hK 10 (by decide))), rho_in rfl (fv (hK 11 (by decide))), trivial⟩) rfl (fun wq hI => by exact run_index_cell tbi rfl rfl rfl (i := nG) rfl (by omega)) ?_
            refine w_val [(89, _)] (_) (fun vs w hK => ⟨wants_g rfl (fv (hK 8 (by decide))), rho_in rfl (fv (hK 12 (by decide))), trivial⟩) rfl (fun wq hI => by exact run_load_cell rfl rfl rfl Tryd.underlying3 rfl (below_cell hI HCE.out)) ?_
            refine w_val [(86, _), (90, _)] (_) (fun vs w hK => ⟨wants_g rfl (fv (hK 8 (by decide))), rho_in rfl (fv (hK 9 (by decide))), rho_in rfl (fv (hK 13 (by decide))), trivial⟩) rfl (fun wq hI => by exact run_int_neq (r := false) rfl rfl rfl (by simp)) ?_
            refine w_pick (b := false) rfl (fun vs w hK => ⟨wants_none rfl, (rho_in rfl (fv (hK 8 (by decide)))), (rho_in rfl (fv (hK 14 (by decide))))⟩) ?_
            refine w_end rfl rfl rfl (fun vs wq hI hF => ?_)
            simp only [List.reverse_cons, List.reverse_nil, List.nil_append, List.cons_append, finL_val, finL_of, finL_any, finL_app, finL_new, finL_gr, finL_row, finL_box, finL_nil, Act.put, List.setIfInBounds_toArray, List.set_cons_zero, List.set_cons_succ, Nat.reduceAdd]
            have HV3 := Lib.hid (below_then HV2.out HV2.out.size hI)
            clear hI hF
            go_wp2_with fail
            go_loopw [95] (fun i wr2 => ∃ j' : Nat, j' ≤ nG ∧ i = .int .i64 j' ∧ Hid (Below w6.heap.size w6 wr2)) (fun i _ => nG - (intOf i).toNat)
            case atStart => exact ⟨0, Nat.zero_le _, rfl, HV3⟩
            case round =>
              obtain ⟨i, hi, rfl, HV4⟩ := hrel
              obtain ⟨wz, rfl⟩ : ∃ x : World, x = wr := ⟨_, rfl⟩
              by_cases hin : i < nG
              · have t5 : decide ((i : Int) < (nG : Int)) = true := decide_eq_true (by omega)
                obtain ⟨g1', e1, hcg⟩ := rds_at default (rds_below HRG.out HV4.out) i hin
                subst e1
                obtain ⟨a1', e1, hcl⟩ := rds_at default (rds_below HRX.out (below_then HW6.out HW6.out.size HV4.out)) i (by omega)
                subst e1
                have hg := gr_below (HG3.out i hin) HV4.out
                have hx := rds_below (HXS.out i (by omega)).1 (below_then HW6.out HW6.out.size HV4.out)
                generalize gxs.getD i default = y at hcg hg
                generalize xs.getD i default = x at hcl hx
                obtain ⟨Ay, ny, cy⟩ := y
                obtain ⟨Ax, nx, cx⟩ := x
                have HCG : Hid (wz.cell? (g1'.add i) = some (.slice Ay ny cy)) := Lib.hid hcg
                have HCL : Hid (wz.cell? (a1'.add i) = some (.slice Ax nx cx)) := Lib.hid hcl
                have HGY : Hid (Gr .u8 5 wz w0r.heap.size (.slice Ay ny cy) (ls.getD i [])) := Lib.hid hg
                have HXX : Hid (Rds .u8 wz Ax nx (ls.getD i [])) := Lib.hid hx
                clear hcg hcl hg hx
                go_upto_region 28 with fail
                refine draws_ (fun wq => Below wz.heap.size wz wq) (fun _ => True) (by kernel_rfl) reg_12_28 rfl inv0 (fun _ _ _ _ => trivial) (below_drew (Below.refl _ _)) trivial ?_
                refine w_move (.inl rfl) (fun vs w hK => ⟨wants_none rfl, rho_out rfl rfl⟩) ?_
                refine w_move (.inl rfl) (fun vs w hK => ⟨wants_none rfl, rho_out rfl rfl⟩) ?_
                refine w_val [(98, _), (99, _)] (_) (fun vs w hK => ⟨wants_none rfl, rho_in rfl (fv (hK 0 (by decide))), rho_in rfl (fv (hK 1 (by decide))), trivial⟩) rfl (fun wq hI => by exact run_index_cell tbs rfl rfl rfl (i := i) rfl (by omega)) ?_
                refine w_val [(100, _)] (_) (fun vs w hK => ⟨wants_none rfl, rho_in rfl (fv (hK 2 (by decide))), trivial⟩) rfl (fun wq hI => by exact run_load_cell rfl rfl rfl Tryd.underlying22 rfl (below_cell hI HCG.out)) ?_
                refine w_val [(101, _)] (_) (fun vs w hK => ⟨wants_none rfl, rho_in rfl (fv (hK 3 (by decide))), trivial⟩) rfl (fun wq hI => by exact run_conv_op rfl rfl (conv_gr (dst := 9) tb Tryd.underlying5 Tryd.underlying9 (gr_below HGY.out hI))) ?_
                refine w_move (.inl rfl) (fun vs w hK => ⟨wants_none rfl, rho_out rfl rfl⟩) ?_
                refine w_move (.inl rfl) (fun vs w hK => ⟨wants_none rfl, rho_out rfl rfl⟩) ?_
                refine w_val [(103, _), (104, _)] (_) (fun vs w hK => ⟨wants_none rfl, rho_in rfl (fv (hK 5 (by decide))), rho_in rfl (fv (hK 6 (by decide))), trivial⟩) rfl (fun wq hI => by exact run_index_cell tbs rfl rfl rfl (i := i) rfl (by omega)) ?_
                refine w_val [(105, _)] (_) (fun vs w hK => ⟨wants_none rfl, rho_in rfl (fv (hK 7 (by decide))), trivial⟩) rfl (fun wq hI => by exact run_load_cell rfl rfl rfl Tryd.underlying22 rfl (below_cell hI HCL.out)) ?_
                refine w_val [(106, _)] (_) (fun vs w hK => ⟨wants_none rfl, rho_in rfl (fv (hK 8 (by decide))), trivial⟩) rfl (fun wq hI => by exact run_conv_op rfl rfl (conv_rds (dst := 9) tb Tryd.underlying5 Tryd.underlying9 (rds_below HXX.out hI))) ?_
                refine w_val [(102, _), (107, _)] _ (fun vs w hK => ⟨wants_none rfl, rho_in rfl (fv (hK 4 (by decide))), rho_in rfl (fv (hK 9 (by decide))), trivial⟩) rfl (fun wq hI => run_neq_same rfl rfl rfl rfl) ?_
                refine w_end rfl rfl rfl (fun vs wq hI hF => ?_)
                simp only [List.reverse_cons, List.reverse_nil, List.nil_append, List.cons_append, finL_val, finL_of, finL_any, finL_app, finL_new, finL_gr, finL_row, finL_box, finL_nil, Act.put, List.setIfInBounds_toArray, List.set_cons_zero, List.set_cons_succ, Nat.reduceAdd]
                have HV5 := Lib.hid (below_then HV4.out HV4.out.size hI)
                clear hI hF
                go_wp2_with fail
                go_roundw
                case rel => exact ⟨i + 1, by omega, by go_num, HV5⟩
                case measure => simp [intOf]; omega
              · obtain rfl : i = nG := by omega
                have t5 : decide ((i : Int) < (i : Int)) = false := by simp
                go_wp2_with fail
                go_ret
                exact ⟨rfl, below_then HW6.out HW6.out.size HV4.out⟩
        · have hkn : k = nG := by omega
          obtain rfl : nG = j := by omega
          go_upto_region 21 with fail
          refine plain_ (fun wq => Below w6.heap.size w6 wq) (fun _ => True) reg_12_21 rfl (fun _ _ h k => below_then h h.size k) (fun _ _ _ _ => trivial) HV.out trivial ?_
          refine w_move (.inl rfl) (fun vs w hK => ⟨wants_none rfl, rho_out rfl rfl⟩) ?_
          refine w_val [(61, _)] (_) (fun vs w hK => ⟨wants_none rfl, rho_in rfl (fv (hK 0 (by decide))), trivial⟩) rfl (fun wq hI => by exact run_int_add rfl rfl rfl (i64_id (by omega) (by omega))) ?_
          refine w_move (.inl rfl) (fun vs w hK => ⟨wants_none rfl, rho_out rfl rfl⟩) ?_
          refine w_val [(63, _)] (_) (fun vs w hK => ⟨wants_none rfl, rho_in rfl (fv (hK 2 (by decide))), trivial⟩) rfl (fun wq hI => by exact run_len_sl rfl Tryd.underlying43 rfl hcast) ?_
          refine w_val [(62, _), (64, _)] (_) (fun vs w hK => ⟨wants_none rfl, rho_in rfl (fv (hK 1 (by decide))), rho_in rfl (fv (hK 3 (by decide))), trivial⟩) rfl (fun wq hI => by exact run_int_lss (r := false) rfl rfl rfl (decide_eq_false (by omega))) ?_
          refine w_move (.inl rfl) (fun vs w hK => ⟨wants_none rfl, rho_in rfl (fv (hK 4 (by decide)))⟩) ?_
          refine w_not (fun vs wq hK => wants_not rfl (fv (hK 5 (by decide)))) ?_
          refine w_not (fun vs wq hK => wants_not rfl (fv (hK 5 (by decide)))) ?_
          refine w_not (fun vs wq hK => wants_not rfl (fv (hK 5 (by decide)))) ?_
          refine w_not (fun vs wq hK => wants_not rfl (fv (hK 5 (by decide)))) ?_
          refine w_not (fun vs wq hK => wants_not rfl (fv (hK 5 (by decide)))) ?_
          refine w_not (fun vs wq hK => wants_not rfl (fv (hK 5 (by decide)))) ?_
          refine w_not (fun vs wq hK => wants_not rfl (fv (hK 5 (by decide)))) ?_
          refine w_pick (b := false) rfl (fun vs w hK => ⟨wants_none rfl, (rho_in rfl (fv (hK 5 (by decide)))), rho_const⟩) ?_
          refine w_end rfl rfl rfl (fun vs wq hI hF => ?_)
          simp only [List.reverse_cons, List.reverse_nil, List.nil_append, List.cons_append, finL_val, finL_of, finL_any, finL_app, finL_new, finL_gr, finL_row, finL_box, finL_nil, Act.put, List.setIfInBounds_toArray, List.set_cons_zero, List.set_cons_succ, Nat.reduceAdd]
          have HV2 := Lib.hid hI
          clear hI hF
          obtain ⟨wo, hwo⟩ : ∃ wo : World, wo = wq := ⟨_, rfl⟩
          subst hwo
          obtain ⟨ae, e1, hce⟩ := rds_at 0 (rds_below HRE6.out HV2.out) nG (by omega)
          subst e1
          rw [HEA.out nG (by omega), ← HA.out] at hce
          have HCE := Lib.hid hce
          clear hce
          go_upto_region 23 with fail
          refine plain_ (fun wq => Below wo.heap.size wo wq) (fun _ => True) reg_12_23 rfl inv0 (fun _ _ _ _ => trivial) (Below.refl _ _) trivial ?_
          refine w_move (.inl rfl) (fun vs w hK => ⟨wants_none rfl, rho_out rfl rfl⟩) ?_
          refine w_val [(77, _)] _ (fun vs w hK => ⟨wants_none rfl, rho_in rfl (fv (hK 0 (by decide))), trivial⟩) rfl (fun wq hI => by simp only [execOp, Option.map_some, Option.map_none, lk_tmp, lk_const, lkT_cons, ↓reduceIte, Nat.reduceEqDiff]; go_simp; (first | done | rfl)) ?_
          refine w_move (.inl rfl) (fun vs w hK => ⟨wants_none rfl, rho_in rfl (fv (hK 1 (by decide)))⟩) ?_
          refine w_move (.inl rfl) (fun vs w hK => ⟨wants_g rfl (fv (hK 2 (by decide))), rho_out rfl rfl⟩) ?_
          refine w_val [(80, _)] (_) (fun vs w hK => ⟨wants_g rfl (fv (hK 2 (by decide))), rho_in rfl (fv (hK 3 (by decide))), trivial⟩) rfl (fun wq hI => by exact run_len_sl rfl Tryd.underlying42 rfl rfl) ?_
          refine w_move (.inl rfl) (fun vs w hK => ⟨wants_g rfl (fv (hK 2 (by decide))), rho_out rfl rfl⟩) ?_
          refine w_val [(81, _), (82, _)] (_) (fun vs w hK => ⟨wants_g rfl (fv (hK 2 (by decide))), rho_in rfl (fv (hK 4 (by decide))), rho_in rfl (fv (hK 5 (by decide))), trivial⟩) rfl (fun wq hI => by exact run_int_neq (r := false) rfl rfl rfl (by simp)) ?_
          refine w_pick (b := false) rfl (fun vs w hK => ⟨wants_none rfl, (rho_in rfl (fv (hK 2 (by decide)))), (rho_in rfl (fv (hK 6 (by decide))))⟩) ?_
          refine w_move (.inl rfl) (fun vs w hK => ⟨wants_none rfl, rho_in rfl (fv (hK 7 (by decide)))⟩) ?_
          refine w_move (.inl rfl) (fun vs w hK => ⟨wants_g rfl (fv (hK 8 (by decide))), rho_out rfl rfl⟩) ?_
          refine w_move (.inl rfl) (fun vs w hK => ⟨wants_g rfl (fv (hK 8 (by decide))), rho_out rfl rfl⟩) ?_
          refine w_move (.inl rfl) (fun vs w hK => ⟨wants_g rfl (fv (hK 8 (by decide))), rho_out rfl rfl⟩) ?_
          refine w_val [(87, _), (88, _)] (_) (fun vs w hK => ⟨wants_g rfl (fv (hK 8 (by decide))), rho_in rfl (fv (hK 10 (by decide))), rho_in rfl (fv (hK 11 (by decide))), trivial⟩) rfl (fun wq hI => by exact run_index_cell tbi rfl rfl rfl (i := nG) rfl (by omega)) ?_
          refine w_val [(89, _)] (_) (fun vs w hK => ⟨wants_g rfl (fv (hK 8 (by decide))), rho_in rfl (fv (hK 12 (by decide))), trivial⟩) rfl (fun wq hI => by exact run_load_cell rfl rfl rfl Tryd.underlying3 rfl (below_cell hI HCE.out)) ?_
          refine w_val [(86, _), (90, _)] (_) (fun vs w hK => ⟨wants_g rfl (fv (hK 8 (by decide))), rho_in rfl (fv (hK 9 (by decide))), rho_in rfl (fv (hK 13 (by decide))), trivial⟩) rfl (fun wq hI => by exact run_int_neq (r := false) rfl rfl rfl (by simp)) ?_
          refine w_pick (b := false) rfl (fun vs w hK => ⟨wants_none rfl, (rho_in rfl (fv (hK 8 (by decide)))), (rho_in rfl (fv (hK 14 (by decide))))⟩) ?_
          refine w_end rfl rfl rfl (fun vs wq hI hF => ?_)
          simp only [List.reverse_cons, List.reverse_nil, List.nil_append, List.cons_append, finL_val, finL_of, finL_any, finL_app, finL_new, finL_gr, finL_row, finL_box, finL_nil, Act.put, List.setIfInBounds_toArray, List.set_cons_zero, List.set_cons_succ, Nat.reduceAdd]
          have HV3 := Lib.hid (below_then HV2.out HV2.out.size hI)
          clear hI hF
          go_wp2_with fail
          go_loopw [95] (fun i wr2 => ∃ j' : Nat, j' ≤ nG ∧ i = .int .i64 j' ∧ Hid (Below w6.heap.size w6 wr2)) (fun i _ => nG - (intOf i).toNat)
          case atStart => exact ⟨0, Nat.zero_le _, rfl, HV3⟩
          case round =>
            obtain ⟨i, hi, rfl, HV4⟩ := hrel
            obtain ⟨wz, rfl⟩ : ∃ x : World, x = wr := ⟨_, rfl⟩
            by_cases hin : i < nG
            · have t5 : decide ((i : Int) < (nG : Int)) = true := decide_eq_true (by omega)
              obtain ⟨g1', e1, hcg⟩ := rds_at default (rds_below HRG.out HV4.out) i hin
              subst e1
              obtain ⟨a1', e1, hcl⟩ := rds_at default (rds_below HRX.out (below_then HW6.out HW6.out.size HV4.out)) i (by omega)
              subst e1
              have hg := gr_below (HG3.out i hin) HV4.out
              have hx := rds_below (HXS.out i (by omega)).1 (below_then HW6.out HW6.out.size HV4.out)
              generalize gxs.getD i default = y at hcg hg
              generalize xs.getD i default = x at hcl hx
              obtain ⟨Ay, ny, cy⟩ := y
              obtain ⟨Ax, nx, cx⟩ := x
              have HCG : Hid (wz.cell? (g1'.add i) = some (.slice Ay ny cy)) := Lib.hid hcg
              have HCL : Hid (wz.cell? (a1'.add i) = some (.slice Ax nx cx)) := Lib.hid hcl
              have HGY : Hid (Gr .u8 5 wz w0r.heap.size (.slice Ay ny cy) (ls.getD i [])) := Lib.hid hg
              have HXX : Hid (Rds .u8 wz Ax nx (ls.getD i [])) := Lib.hid hx
              clear hcg hcl hg hx
              go_upto_region 28 with fail
              refine draws_ (fun wq => Below wz.heap.size wz wq) (fun _ => True) (by kernel_rfl) reg_12_28 rfl inv0 (fun _ _ _ _ => trivial) (below_drew (Below.refl _ _)) trivial ?_
              refine w_move (.inl rfl) (fun vs w hK => ⟨wants_none rfl, rho_out rfl rfl⟩) ?_
              refine w_move (.inl rfl) (fun vs w hK => ⟨wants_none rfl, rho_out rfl rfl⟩) ?_
              refine w_val [(98, _), (99, _)] (_) (fun vs w hK => ⟨wants_none rfl, rho_in rfl (fv (hK 0 (by decide))), rho_in rfl (fv (hK 1 (by decide))), trivial⟩) rfl (fun wq hI => by exact run_index_cell tbs rfl rfl rfl (i := i) rfl (by omega)) ?_
              refine w_val [(100, _)] (_) (fun vs w hK => ⟨wants_none rfl, rho_in rfl (fv (hK 2 (by decide))), trivial⟩) rfl (fun wq hI => by exact run_load_cell rfl rfl rfl Tryd.underlying22 rfl (below_cell hI HCG.out)) ?_
              refine w_val [(101, _)] (_) (fun vs w hK => ⟨wants_none rfl, rho_in rfl (fv (hK 3 (by decide))), trivial⟩) rfl (fun wq hI => by exact run_conv_op rfl rfl (conv_gr (dst := 9) tb Tryd.underlying5 Tryd.underlying9 (gr_below HGY.out hI))) ?_
              refine w_move (.inl rfl) (fun vs w hK => ⟨wants_none rfl, rho_out rfl rfl⟩) ?_
              refine w_move (.inl rfl) (fun vs w hK => ⟨wants_none rfl, rho_out rfl rfl⟩) ?_
              refine w_val [(103, _), (104, _)] (_) (fun vs w hK => ⟨wants_none rfl, rho_in rfl (fv (hK 5 (by decide))), rho_in rfl (fv (hK 6 (by decide))), trivial⟩) rfl (fun wq hI => by exact run_index_cell tbs rfl rfl rfl (i := i) rfl (by omega)) ?_
              refine w_val [(105, _)] (_) (fun vs w hK => ⟨wants_none rfl, rho_in rfl (fv (hK 7 (by decide))), trivial⟩) rfl (fun wq hI => by exact run_load_cell rfl rfl rfl Tryd.underlying22 rfl (below_cell hI HCL.out)) ?_
              refine w_val [(106, _)] (_) (fun vs w hK => ⟨wants_none rfl, rho_in rfl (fv (hK 8 (by decide))), trivial⟩) rfl (fun wq hI => by exact run_conv_op rfl rfl (conv_rds (dst := 9) tb Tryd.underlying5 Tryd.underlying9 (rds_below HXX.out hI))) ?_
              refine w_val [(102, _), (107, _)] _ (fun vs w hK => ⟨wants_none rfl, rho_in rfl (fv (hK 4 (by decide))), rho_in rfl (fv (hK 9 (by decide))), trivial⟩) rfl (fun wq hI => run_neq_same rfl rfl rfl rfl) ?_
              refine w_end rfl rfl rfl (fun vs wq hI hF => ?_)
              simp only [List.reverse_cons, List.reverse_nil, List.nil_append, List.cons_append, finL_val, finL_of, finL_any, finL_app, finL_new, finL_gr, finL_row, finL_box, finL_nil, Act.put, List.setIfInBounds_toArray, List.set_cons_zero, List.set_cons_succ, Nat.reduceAdd]
              have HV5 := Lib.hid (below_then HV4.out HV4.out.size hI)
              clear hI hF
              go_wp2_with fail
              go_roundw
              case rel => exact ⟨i + 1, by omega, by go_num, HV5⟩
              case measure => simp [intOf]; omega
            · obtain rfl : i = nG := by omega
              have t5 : decide ((i : Int) < (i : Int)) = false := by simp
              go_wp2_with fail
              go_ret
              exact ⟨rfl, below_then HW6.out HW6.out.size HV4.out⟩
end Go.Proofs.YtakjmhcdmchgdaaDoor.Rec

