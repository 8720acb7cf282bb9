/- The walk of the law BloomSeldom. -/
import Derived.Test.YtgnicgcdhldmmaaDoorBlmKeeps
import Derived.Test.YtgnicgcdhldmmaaDoorBlmS
import Derived.Test.YtgnicgcdhldmmaaDoorRep
namespace Go.Proofs.YtgnicgcdhldmmaaDoor.Blm
set_option linter.unusedVariables false
set_option linter.unusedSimpArgs false
open Go.Proofs.YtgnicgcdhldmmaaDoor.Crc Go.Proofs.YtgnicgcdhldmmaaDoor.Kit Go.RowKit Go.Proofs.YtgnicgcdhldmmaaDoorW.PrintWords Go.Proofs.YtgnicgcdhldmmaaDoorW.PrintLast Go.Proofs.YtgnicgcdhldmmaaDoorW.PrintMore
/-- x & 31 -/
theorem and31 (x : Int) : Go.bits .and .i64 x 31 = (((x % 32).toNat : Nat) : Int) := by
  have h1 : (BitVec.ofInt 64 (31 : Int)).toNat = 2 ^ 5 - 1 := by decide
  show IntKind.i64.wrap ((BitVec.ofInt 64 x &&& BitVec.ofInt 64 31).toNat : Int) = _
  rw [BitVec.toNat_and, h1, Nat.and_two_pow_sub_one_eq_mod, BitVec.toNat_ofInt, IntKind.wrap_i64]
  have h2 : ((2 ^ 64 : Nat) : Int) = 18446744073709551616 := by decide
  have h3 : (2 : Nat) ^ 5 = 32 := by decide
  rw [h2, h3]
  omega
def rep (c : UInt8) (i : Nat) : ByteArray := ⟨(Lib.repeatL [c] i).toArray⟩
theorem run_eq (p : ByteArray) (c : UInt8) (i : Nat) : run_ p c i = p ++ rep c i := rfl
theorem rep_size (c : UInt8) (i : Nat) : (rep c i).size = i := by
  unfold rep
  rw [repeat_one]
  simp [ByteArray.size]
theorem repX (i : Nat) (w : World) (hi : i ≤ 1000) : Calls Tryd.prog 15 #[.string ⟨#[120]⟩, .int .i64 i] w fun e w' => e = .returned (.string (rep 120 i)) ∧ Below w.heap.size w w' :=
  Tryd.repeat_any ⟨#[120]⟩ i w (by omega) (by show 1 * i ≤ _; omega)
theorem repY (i : Nat) (w : World) (hi : i ≤ 1000) : Calls Tryd.prog 15 #[.string ⟨#[121]⟩, .int .i64 i] w fun e w' => e = .returned (.string (rep 121 i)) ∧ Below w.heap.size w w' :=
  Tryd.repeat_any ⟨#[121]⟩ i w (by omega) (by show 1 * i ≤ _; omega)
theorem reg_7_3 : RegOk (opsOf Tryd.f7 3) [[], [0], [0, 1], [0, 1, 2]] [] [some 11, some 12, some 13, some 0] := regOk (by kernel_rfl)
theorem reg_7_16 : RegOk (opsOf Tryd.f7 16) [[], [], [1], [1, 2], [0, 1, 2, 3]] [] [some 37, some 38, some 39, some 40, some 41] := regOk (by kernel_rfl)
set_option maxRecDepth 20000 in
set_option maxHeartbeats 3200000 in
theorem seldom_any (n0 : Int) (w : World) (hT : Halves w) (_ : (Lit.int .i64 n0).wf = true) :
    Calls Tryd.prog 7 #[.int .i64 n0] w fun e w' => e = .returned (.bool true) ∧ Below w.heap.size w w' := by
  have HH := Lib.hid (head_any w hT)
  have HT := Lib.hid hT
  have HAN := Lib.hid (and31 n0)
  have hq3 : (n0 % 32).toNat < 32 := by omega
  generalize (n0 % 32).toNat = q at HAN hq3
  have HADD : Hid (IntKind.i64.wrap (20 + (q : Int)) = ((20 + q : Nat) : Int)) := Lib.hid (by rw [i64_id (by omega) (by omega)]; omega)
  have HFEW := Lib.hid (cntK_few q hq3)
  obtain ⟨n, hn⟩ : ∃ n, n = 20 + q := ⟨_, rfl⟩
  rw [← hn] at HADD HFEW
  have hn51 : n ≤ 51 := by omega
  clear hT hn
  go_enter Tryd.func7, Tryd.ntmps7
  go_wp2_with fail
  refine HH.out.mono ?_
  rintro e w1 ⟨rfl, hB1⟩
  have HB1 := Lib.hid hB1
  clear hB1
  go_upto_region 3 with fail
  refine plain_ _ (fun _ => True) reg_7_3 rfl inv0 (fun _ _ _ _ => trivial) (Below.refl _ _) trivial ?_
  refine w_move (.inl rfl) (fun vs w hK => ⟨wants_none rfl, rho_out rfl rfl⟩) ?_
  refine w_val [(11, _)] (_) (fun vs w hK => ⟨wants_none rfl, rho_in rfl (fv (hK 0 (memE rfl))), trivial⟩) rfl (fun wq hI => by exact op_and rfl rfl rfl HAN.out) ?_
  refine w_val [(12, _)] (_) (fun vs w hK => ⟨wants_none rfl, rho_in rfl (fv (hK 1 (memE rfl))), trivial⟩) rfl (fun wq hI => by exact run_int_add rfl rfl rfl HADD.out) ?_
  refine w_move (.inr rfl) (fun vs w hK => ⟨wants_none rfl, rho_in rfl (fv (hK 2 (memE rfl)))⟩) ?_
  refine w_end rfl rfl rfl (fun vs wq hI hF => ?_)
  simp only [List.reverse_cons, List.reverse_nil, List.nil_append, List.cons_append, finL_val, finL_of, finL_any, finL_app, finL_new, finL_gr, finL_row, finL_box, finL_nil, Act.put, List.setIfInBounds_toArray, List.set_cons_zero, List.set_cons_succ, Nat.reduceAdd]
  have HB2 := Lib.hid (below_then HB1.out HB1.out.size hI)
  clear hI hF HB1
  obtain ⟨w2, rfl⟩ : ∃ w2 : World, w2 = wq := ⟨_, rfl⟩
  have hO3 : GS (w2.alloc (.cells #[] 9)) w2.heap.size (.slice (some ⟨w2.heap.size, 0, none⟩) 0 0) (nsX 0) := .inl (own_e_lit 9 w2 w2.heap.size [] 0 rfl (Nat.le_refl _) (by simp))
  have HG3 := Lib.hid hO3
  have HB3 := Lib.hid (below_alloc (Below.refl w2.heap.size w2) (.cells #[] 9))
  clear hO3
  go_wp2_with fail
  generalize w2.alloc (.cells #[] 9) = w3 at *
  go_loopw [3, 4] (fun ns i wr => ∃ (k : Nat) (v : Value), k ≤ n ∧ v = ns ∧ i = .int .i64 k ∧ Hid (GS wr w2.heap.size v (nsX k)) ∧ Hid (Below w2.heap.size w2 wr)) (fun _ i _ => n - (intOf i).toNat)
  case atStart => exact ⟨0, _, by omega, rfl, rfl, HG3, HB3⟩
  case round =>
    obtain ⟨k, v, hk, rfl, rfl, HG, HB⟩ := hrel
    by_cases hlt : k < n
    · have HX := Lib.hid (repX k wr (by omega))
      have hsn : nsX (k + 1) = nsX k ++ [(⟨#[107, 101, 121]⟩ : ByteArray) ++ rep 120 k] := by rw [nsX_succ, run_eq]; rfl
      have HSN := Lib.hid hsn
      have hrs := rep_size 120 k
      have HLK := Lib.hid (nsX_length k)
      have hks : ((⟨#[107, 101, 121]⟩ : ByteArray)).size = 3 := rfl
      generalize rep 120 k = R at HX HSN hrs
      clear hsn
      go_wp2_with fail
      refine HX.out.mono ?_
      rintro e w6 ⟨rfl, hb6⟩
      have HG6 := Lib.hid (gr_below HG.out hb6)
      have HB6 := Lib.hid (below_then HB.out HB.out.size hb6)
      clear hb6 HX
      go_wp2_with (at_builtin; refine gapp_one (enc := Value.string) (h1 := str_one) ts (p := (⟨#[107, 101, 121]⟩ : ByteArray) ++ R) rfl (.tmp 20) (.tmp 24) rfl rfl rfl HG6.out HB6.out HB6.out.size ?cL ?_; (case cL => rw [HLK.out]; omega); intro v6 w7 ho hb7 hs1 hf; have HO7 : Hid (GS w7 w2.heap.size v6 (nsX (k + 1))) := Lib.hid (by rw [HSN.out]; exact ho); have HB7 : Hid (Below w2.heap.size w2 w7) := Lib.hid hb7; clear ho hb7 hs1 hf)
      go_roundw
      case rel => exact ⟨k + 1, _, by omega, rfl, by go_num, HO7, HB7⟩
      case measure => simp [intOf]; omega
    · obtain rfl : k = n := by omega
      obtain ⟨A7, n7, c7, rfl, h7c, HL7, h7m, hr7⟩ := gr_open HG.out
      obtain rfl : n7 = k := by rw [← HL7.out, nsX_length]
      have HBW := Lib.hid (below_then HB2.out HB2.out.size HB.out)
      have HMK := Lib.hid (make_any A7 n7 c7 (nsX n7) wr (HT.out.below HBW.out) hr7 (nsX_length _) (by omega) (fun s hs => by have := nsX_size _ s hs; omega))
      have hm1 : nB n7 ≤ 100 := by unfold nB; omega
      have hok := mkF_ok (nB n7) (nsX n7)
      generalize nB n7 = m at HMK hm1 hok HFEW
      generalize mkF m (nsX n7) = X at HMK hok HFEW
      clear HG hr7
      go_wp2_with fail
      refine HMK.out.mono ?_
      rintro e w4 ⟨g4, rfl, hO4, hB4⟩
      have hx := bx_alloc (below_then HBW.out HBW.out.size hB4) hO4
      clear hO4 hB4 HMK
      go_upto_region 10 with fail
      generalize w4.heap.size = p4 at *
      generalize w4.alloc (.cells #[.slice (some ⟨g4, 0, none⟩) m m] 27) = w5 at *
      have HX := Lib.hid hx
      have HMAY := Lib.hid (fun S W (h : Bx w p4 g4 m X W) (hs : S.size ≤ 140737488355328) => may_any (some ⟨g4, 0, none⟩) m m X S W (HT.out.below h.bel) h.row hok.1 hok.2 (by omega) hs)
      clear hx
      go_wp2_with fail
      go_loopw [7, 8] (fun hits i wr2 => ∃ k : Nat, k ≤ 200 ∧ hits = .int .i64 (cntK X k : Nat) ∧ i = .int .i64 k ∧ Hid (cntK X k ≤ k) ∧ Hid (Bx w p4 g4 m X wr2)) (fun _ i _ => 200 - (intOf i).toNat)
      case atStart => exact ⟨0, by omega, rfl, rfl, Lib.hid (Nat.le_refl _), HX⟩
      case round =>
        obtain ⟨j, hj, rfl, rfl, HCJ, HXr⟩ := hrel
        by_cases hlt2 : j < 200
        · have HY := Lib.hid (fun W => repY j W (by omega))
          have hsu := cntK_succ X j
          have hrs := rep_size 121 j
          have hre : run_ othP 121 j = (⟨#[111, 116, 104, 101, 114]⟩ : ByteArray) ++ rep 121 j := rfl
          rw [hre] at hsu
          have hks : ((⟨#[111, 116, 104, 101, 114]⟩ : ByteArray)).size = 5 := rfl
          generalize rep 121 j = R at HY hrs hsu
          obtain ⟨M, hM⟩ : ∃ M, mayF X (numsOf ((⟨#[111, 116, 104, 101, 114]⟩ : ByteArray) ++ R)) = M := ⟨_, rfl⟩
          rw [hM] at hsu
          have hmay := fun W (h : Bx w p4 g4 m X W) => HMAY.out ((⟨#[111, 116, 104, 101, 114]⟩ : ByteArray) ++ R) W h (by rw [ByteArray.size_append, hrs, hks]; omega)
          rw [hM] at hmay
          have HM := Lib.hid hmay
          have HSU := Lib.hid hsu
          have HRS := Lib.hid hrs
          have hcj := HCJ.out
          generalize cntK X j = cj at HSU hcj ⊢
          clear hM hmay hsu hre hrs hks
          go_upto_region 16 with fail
          refine draws_ _ (fun _ => True) (by kernel_rfl) reg_7_16 rfl inv0 (fun _ _ _ _ => trivial) (below_drew (Below.refl _ _)) trivial ?_
          refine w_val [(5, _)] (.agg #[.slice (some ⟨g4, 0, none⟩) m m]) (fun vs w hK => ⟨wants_none rfl, rho_out rfl rfl, trivial⟩) rfl (fun wq hI => by exact run_load_op rfl rfl (run_loadAt_mid wq _ 0 27 [.slice (some ⟨g4, 0, none⟩) m m] _ (range_block (HXr.out.below hI).box) Tryd.underlying27 rfl info27)) ?_
          refine w_move (.inl rfl) (fun vs w hK => ⟨wants_none rfl, rho_out rfl rfl⟩) ?_
          refine w_call [(38, _)] _ _ (by decide) (fun vs w hK => ⟨wants_none rfl, rho_in rfl (fv (hK 1 (memE rfl))), trivial⟩) rfl rfl Tryd.func15 (by kernel_rfl) rfl (fun wq hI => HY.out wq) (margs rfl) ?_
          refine w_val [(39, _)] (_) (fun vs w hK => ⟨wants_none rfl, rho_in rfl (fv (hK 2 (memE rfl))), trivial⟩) rfl (fun wq hI => by exact run_cat_op rfl rfl rfl (by rw [HRS.out, show ((⟨#[111, 116, 104, 101, 114]⟩ : ByteArray)).size = 5 from rfl]; omega)) ?_
          refine w_call [(37, _), (40, _)] _ _ (by decide) (fun vs w hK => ⟨wants_none rfl, rho_in rfl (fv (hK 0 (memE rfl))), rho_in rfl (fv (hK 3 (memE rfl))), trivial⟩) rfl rfl Tryd.func11 (by kernel_rfl) rfl (fun wq hI => HM.out wq (HXr.out.below hI)) (margs rfl) ?_
          refine w_end rfl rfl rfl (fun vs wq hI hF => ?_)
          simp only [List.reverse_cons, List.reverse_nil, List.nil_append, List.cons_append, finL_val, finL_of, finL_any, finL_app, finL_new, finL_gr, finL_row, finL_box, finL_nil, Act.put, List.setIfInBounds_toArray, List.set_cons_zero, List.set_cons_succ, Nat.reduceAdd]
          have HX9 := Lib.hid (HXr.out.below hI)
          clear hI hF
          cases M with
          | true =>
            have HS2 : Hid (cntK X (j + 1) = cj + 1) := Lib.hid (by rw [HSU.out]; rfl)
            go_wp2_with fail
            go_roundw
            case rel => exact ⟨j + 1, by omega, by rw [HS2.out]; go_num, by go_num, Lib.hid (by rw [HS2.out]; omega), HX9⟩
            case measure => simp [intOf]; omega
          | false =>
            have HS2 : Hid (cntK X (j + 1) = cj) := Lib.hid (by rw [HSU.out]; rfl)
            go_wp2_with fail
            go_roundw
            case rel => exact ⟨j + 1, by omega, by rw [HS2.out], by go_num, Lib.hid (by rw [HS2.out]; omega), HX9⟩
            case measure => simp [intOf]; omega
        · obtain rfl : j = 200 := by omega
          have hf := HFEW.out
          generalize cntK X 200 = ch at hf ⊢
          have hd : decide ((ch : Int) < 60) = true := decide_eq_true (by omega)
          go_wp2_with fail
          go_ret
          exact ⟨rfl, HXr.out.bel⟩
end Go.Proofs.YtgnicgcdhldmmaaDoor.Blm

