/- The walk of the law BloomSizes. -/
import Derived.Test.YtgnicgcdhldmmaaDoorBlmKeeps
import Derived.Test.YtgnicgcdhldmmaaDoorBlmMays
import Derived.Laws.MakeOwn
namespace Go.Proofs.YtgnicgcdhldmmaaDoor.Blm
set_option linter.unusedVariables false
set_option linter.unusedSimpArgs false
open Go.Proofs.YtgnicgcdhldmmaaDoor.Crc Go.Proofs.YtgnicgcdhldmmaaDoor.Kit Go.RowKit Go.Proofs.YtgnicgcdhldmmaaDoorW.PrintWords Go.Proofs.YtgnicgcdhldmmaaDoorW.PrintLast Go.Proofs.YtgnicgcdhldmmaaDoorW.PrintMore
/-- x & 3 -/
theorem and3 (x : Int) : Go.bits .and .i64 x 3 = (((x % 4).toNat : Nat) : Int) := by
  have h1 : (BitVec.ofInt 64 (3 : Int)).toNat = 2 ^ 2 - 1 := by decide
  show IntKind.i64.wrap ((BitVec.ofInt 64 x &&& BitVec.ofInt 64 3).toNat : Int) = _
  rw [BitVec.toNat_and, h1, Nat.and_two_pow_sub_one_eq_mod, BitVec.toNat_ofInt, IntKind.wrap_i64]
  have h2 : ((2 ^ 64 : Nat) : Int) = 18446744073709551616 := by decide
  have h3 : (2 : Nat) ^ 2 = 4 := by decide
  rw [h2, h3]
  omega
/-- The law's names. -/
def nsK (k : Nat) : List ByteArray := (List.range k).map fun i => strOfNums [((97 + i : Nat) : Int)]
theorem nsK_length (k : Nat) : (nsK k).length = k := by simp [nsK]
theorem nsK_succ (k : Nat) : nsK (k + 1) = nsK k ++ [strOfNums [((97 + k : Nat) : Int)]] := by simp [nsK, List.range_succ]
theorem nsK_size (k : Nat) : ∀ s ∈ nsK k, s.size = 1 := fun s hs => by
  obtain ⟨i, _, rfl⟩ := List.mem_map.1 hs
  simp [strOfNums, ByteArray.size]
theorem info9 : (Tryd.prog.info? 9).map (fun i => (i.zero, i.size)) = some (some (.string ByteArray.empty), 1) := by kernel_rfl
theorem made40 (W : World) (B : Nat) (hB : B ≤ W.heap.size) : ∃ cs : Array Value, (Instr.makeSlice 22 (.int .i64 0) (.int .i64 40)).run Tryd.prog W = .ok (.slice (some ⟨W.heap.size, 0, none⟩) 0 40) (W.alloc (.cells cs 9)) ∧ GS (W.alloc (.cells cs 9)) B (.slice (some ⟨W.heap.size, 0, none⟩) 0 40) [] := by
  obtain ⟨i, hi, hz⟩ := Option.map_eq_some_iff.1 info9
  simp only [Prod.mk.injEq] at hz
  have hb : i.bytes = 16 := by
    have : (Tryd.prog.info? 9).map (·.bytes) = some 16 := by kernel_rfl
    rw [hi] at this
    simpa using this
  refine ⟨_, run_makeSlice (P := Tryd.prog) (w := W) 22 9 i _ Tryd.underlying22 hi hz.1 .i64 .i64 0 40 (by omega) (by omega) (by rw [hz.2]; decide) (by rw [hb]; decide) (by omega), ?_⟩
  rw [hz.2]
  exact .inl (Kd.R_of_own (World.ownsRow_made W _ 40 hB (by decide) (size_madeCells _ _)) (fun _ _ => trivial))
theorem reg_6_5 : RegOk (opsOf Tryd.f6 5) [[], [0], [0, 1]] [] [some 21, some 22, some 0] := regOk (by kernel_rfl)
set_option maxRecDepth 20000 in
set_option maxHeartbeats 3200000 in
theorem sizes_any (n0 : Int) (A : Option Addr) (n c : Nat) (l : List Int) (w : World) (hT : Halves w) (_ : (Lit.int .i64 n0).wf = true) (hr : Rds .u8 w A n l) (hl : l.length = n) (hm : n * 1 ≤ 140737488351232) (hw : ∀ x ∈ l, (Lit.int .u8 x).wf = true) (hc : n ≤ c) :
    Calls Tryd.prog 6 #[.int .i64 n0, .slice A n c] w fun e w' => e = .returned (.bool true) ∧ Below w.heap.size w w' := by
  have hb := isByte_wf hw
  have HH := Lib.hid (head_any w hT)
  clear hw
  by_cases g1 : 100 < n
  · clear hl hr hb hT
    go_enter Tryd.func6, Tryd.ntmps6
    go_wp2_with fail
    refine HH.out.mono ?_
    rintro e w1 ⟨rfl, hB1⟩
    have HB1 := Lib.hid hB1
    clear hB1
    go_wp2_with fail
    go_ret
    exact ⟨rfl, HB1.out⟩
  have HP := Lib.hid (fun W (h : Below w.heap.size w W) => parse_any A n c l W (rds_below hr h) hl hb (by omega) hc)
  have HR := Lib.hid hr
  have HT := Lib.hid hT
  have HL := Lib.hid hl
  have HAN := Lib.hid (and3 n0)
  have hq3 : (n0 % 4).toNat ≤ 3 := by omega
  generalize (n0 % 4).toNat = q at HAN hq3
  clear hr hT hb
  go_enter Tryd.func6, Tryd.ntmps6
  go_wp2_with fail
  refine HH.out.mono ?_
  rintro e w1 ⟨rfl, hB1⟩
  have HB1 := Lib.hid hB1
  clear hB1
  go_upto_region 5 with fail
  refine plain_ _ (fun _ => True) reg_6_5 rfl inv0 (fun _ _ _ _ => trivial) (Below.refl _ _) trivial ?_
  refine w_move (.inl rfl) (fun vs w hK => ⟨wants_none rfl, rho_out rfl rfl⟩) ?_
  refine w_val [(21, _)] (_) (fun vs w hK => ⟨wants_none rfl, rho_in rfl (fv (hK 0 (memE rfl))), trivial⟩) rfl (fun wq hI => by exact op_and rfl rfl rfl HAN.out) ?_
  refine w_move (.inr rfl) (fun vs w hK => ⟨wants_none rfl, rho_in rfl (fv (hK 1 (memE rfl)))⟩) ?_
  refine w_end rfl rfl rfl (fun vs wq hI hF => ?_)
  simp only [List.reverse_cons, List.reverse_nil, List.nil_append, List.cons_append, finL_val, finL_of, finL_any, finL_app, finL_new, finL_gr, finL_row, finL_box, finL_nil, Act.put, List.setIfInBounds_toArray, List.set_cons_zero, List.set_cons_succ, Nat.reduceAdd]
  have HB2 := Lib.hid (below_then HB1.out HB1.out.size hI)
  clear hI hF HB1
  obtain ⟨w2, rfl⟩ : ∃ w2 : World, w2 = wq := ⟨_, rfl⟩
  obtain ⟨cs, hmk, hGS⟩ := made40 w2 w2.heap.size (Nat.le_refl _)
  have HG3 := Lib.hid hGS
  have HB3 := Lib.hid (below_alloc (Below.refl w2.heap.size w2) (.cells cs 9))
  clear hGS
  go_wp2_with fail
  generalize hw3 : w2.alloc (.cells cs 9) = w3 at *
  go_loopw [5, 6] (fun ns i wr => ∃ (k : Nat) (v : Value), k ≤ 7 + q ∧ v = ns ∧ i = .int .i64 k ∧ Hid (GS wr w2.heap.size v (nsK k)) ∧ Hid (Below w2.heap.size w2 wr)) (fun _ i _ => 7 + q - (intOf i).toNat)
  case atStart => exact ⟨0, _, by omega, rfl, rfl, HG3, HB3⟩
  case round =>
    obtain ⟨k, v, hk, rfl, rfl, HG, HB⟩ := hrel
    by_cases hlt : k < 7 + q
    · have hwx : IntKind.u8.wrap (97 + (k : Int)) = 97 + (k : Int) := by
        have h := u8_nat (97 + k) (by omega)
        rw [show ((97 + k : Nat) : Int) = 97 + (k : Int) by omega] at h
        exact h
      have hr1 : Rds .u8 (wr.alloc (.cells #[.int .u8 (97 + (k : Int))] 5)) (some ⟨wr.heap.size, 0, none⟩) 1 [97 + (k : Int)] := rds_lit wr 5 (0, 0) 0 [97 + (k : Int)] (by simp) 1 rfl
      have hcv : (convert 25 9 (.slice (some ⟨wr.heap.size, 0, none⟩) 1 1)).run Tryd.prog (wr.alloc (.cells #[.int .u8 (97 + (k : Int))] 5)) = .ok (.string (strOfNums [97 + (k : Int)])) (wr.alloc (.cells #[.int .u8 (97 + (k : Int))] 5)) := conv_rds tb Tryd.underlying5 Tryd.underlying9 hr1
      have hsn : nsK (k + 1) = nsK k ++ [strOfNums [97 + (k : Int)]] := by rw [nsK_succ, show ((97 + k : Nat) : Int) = 97 + (k : Int) by omega]
      have hba := below_alloc (Below.refl wr.heap.size wr) (.cells #[.int .u8 (97 + (k : Int))] 5)
      have HG4 := Lib.hid (gr_below HG.out hba)
      have HB4 := Lib.hid (below_then HB.out HB.out.size hba)
      have HSN := Lib.hid hsn
      generalize hss : strOfNums [97 + (k : Int)] = s at hcv HSN
      have hlk := nsK_length k
      have HLK := Lib.hid hlk
      clear hr1 hsn hba hss hlk
      go_wp2_with (at_builtin; refine gapp_one (enc := Value.string) (h1 := str_one) ts (p := s) rfl (.tmp 30) (.tmp 36) rfl rfl (by rw [size_alloc]; rfl) HG4.out HB4.out HB4.out.size ?cL ?_; (case cL => rw [HLK.out]; omega); intro v6 w6 ho hb6 hs1 hf; have HO6 : Hid (GS w6 w2.heap.size v6 (nsK (k + 1))) := Lib.hid (by rw [HSN.out]; exact ho); have HB6 : Hid (Below w2.heap.size w2 w6) := Lib.hid hb6; clear ho hb6 hs1 hf)
      go_roundw
      case rel => exact ⟨k + 1, _, by omega, rfl, by go_num, HO6, HB6⟩
      case measure => simp [intOf]; omega
    · obtain rfl : k = 7 + q := by omega
      obtain ⟨A7, n7, c7, rfl, h7c, HL7, h7m, hr7⟩ := gr_open HG.out
      have hn7 : n7 = 7 + q := by rw [← HL7.out, nsK_length]
      subst hn7
      have HBW := Lib.hid (below_then HB2.out HB2.out.size HB.out)
      have HMK := Lib.hid (fun W (h : Below wr.heap.size wr W) => make_any A7 (7 + q) c7 (nsK (7 + q)) W (HT.out.below (below_then HBW.out HBW.out.size h)) (rds_below hr7 h) (nsK_length _) (by omega) (fun s hs => by have := nsK_size _ s hs; omega))
      have hm8 : 8 ≤ nB (7 + q) := by unfold nB; omega
      have hm1 : nB (7 + q) ≤ 100 := by unfold nB; omega
      have hmax : mx 8 ((10 * ((7 : Int) + (q : Int)) + 7) / 8) = ((nB (7 + q) : Nat) : Int) := by unfold nB mx; split <;> omega
      have hok := mkF_ok (nB (7 + q)) (nsK (7 + q))
      generalize nB (7 + q) = m at HMK hm8 hm1 hmax hok
      generalize mkF m (nsK (7 + q)) = X at HMK hok
      have HMX := Lib.hid hmax
      clear hmax HG hr7
      go_wp2_with fail
      refine (HMK.out wr (Below.refl _ _)).mono ?_
      rintro e w4 ⟨g4, rfl, hO4, hB4⟩
      have HB4 := Lib.hid (below_alloc hB4 (.cells #[.slice (some ⟨g4, 0, none⟩) m m] 27))
      clear hO4 hB4
      go_upto_region 12 with fail
      generalize w4.heap.size = p4 at *
      generalize w4.alloc (.cells #[.slice (some ⟨g4, 0, none⟩) m m] 27) = w5 at *
      go_wp2_with fail
      refine (HMK.out w5 HB4.out).mono ?_
      rintro e w6 ⟨g6, rfl, hO6, hB6⟩
      have hbw6 := below_then HBW.out HBW.out.size (below_then HB4.out HB4.out.size hB6)
      have hx := bx_alloc hbw6 hO6
      clear hO6 hB6 hbw6
      go_upto_region 13 with fail
      generalize w6.heap.size = p6 at *
      generalize w6.alloc (.cells #[.slice (some ⟨g6, 0, none⟩) m m] 27) = w7 at *
      have HX := Lib.hid hx
      have c6 := hx.cell
      have HBY := Lib.hid (bytes_any (some ⟨g6, 0, none⟩) m m X w7 hx.row (by omega))
      clear hx
      go_wp2_with (first | (refine wpList_max2 rfl rfl rfl rfl HMX.out ?_) | fail)
      refine HBY.out.mono ?_
      rintro e w8 ⟨v, rfl, hO8, hB8⟩
      obtain ⟨A8, n8, c8, rfl, h8c, HL8, h8m, hr8⟩ := gr_open hO8
      have hn8 : n8 = m + 1 := by rw [← HL8.out, List.length_cons, hok.1]
      subst hn8
      have HB8 := Lib.hid (below_then HX.out.bel HX.out.bel.size hB8)
      have hne : ((m : Int) + 1 != 1 + (m : Int)) = false := by simp only [bne_eq_false_iff_eq]; omega
      clear hO8 hB8 hr8 c6 HMK
      go_wp2_with fail
      refine (HP.out w8 HB8.out).mono ?_
      rintro e w9 ⟨v, kk, rfl, hB9, hT9, hF9⟩
      have HB9 := Lib.hid (below_then HB8.out HB8.out.size hB9)
      clear hB9
      cases hF : isF l with
      | false =>
        obtain ⟨rfl, rfl⟩ := hF9 hF
        have HB10 := Lib.hid (below_alloc HB9.out (.cells #[.slice none 0 0] 27))
        clear hT9 hF9
        go_upto_region 18 with fail
        generalize w9.alloc (.cells #[.slice none 0 0] 27) = w10 at *
        unfold isF at hF
        rw [HL.out] at hF
        by_cases h9 : 9 ≤ n
        · rw [decide_eq_true h9, Bool.true_and] at hF
          have h6 := of_decide_eq_false hF
          obtain ⟨ad, rfl, hc0⟩ := rds_at 0 (rds_below HR.out HB10.out) 0 (by omega)
          rw [show ad.add 0 = ad by simp [Addr.add]] at hc0
          generalize l.getD 0 0 = x0 at hc0 h6
          have hne6 : (x0 == 6) = false := by simpa using h6
          clear hF
          go_wp2_with fail
          go_ret
          exact ⟨rfl, HB10.out⟩
        · clear hF
          have t9 : decide ((9 : Int) ≤ (n : Int)) = false := decide_eq_false (by omega)
          go_wp2_with fail
          go_ret
          exact ⟨rfl, HB10.out⟩
      | true =>
        obtain ⟨rfl, hO9⟩ := hT9 hF
        obtain ⟨A9, n9, c9, rfl, h9c, HL9, h9m, hr9⟩ := gr_open hO9
        have HB10 := Lib.hid (below_alloc HB9.out (.cells #[.slice A9 n9 c9] 27))
        clear hT9 hF9 hO9 hr9
        go_upto_region 18 with fail
        generalize w9.alloc (.cells #[.slice A9 n9 c9] 27) = w10 at *
        unfold isF at hF
        rw [HL.out, Bool.and_eq_true] at hF
        have h9 := of_decide_eq_true hF.1
        have h6 := of_decide_eq_true hF.2
        obtain ⟨ad, rfl, hc0⟩ := rds_at 0 (rds_below HR.out HB10.out) 0 (by omega)
        rw [show ad.add 0 = ad by simp [Addr.add], h6] at hc0
        clear hF h6
        go_wp2_with fail
        go_ret
        exact ⟨rfl, HB10.out⟩
end Go.Proofs.YtgnicgcdhldmmaaDoor.Blm

