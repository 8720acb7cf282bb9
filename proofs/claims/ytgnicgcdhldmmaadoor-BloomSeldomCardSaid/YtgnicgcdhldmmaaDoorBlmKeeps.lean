/- The walk of the law BloomKeeps. -/
import Derived.Test.YtgnicgcdhldmmaaDoorBlmG
namespace Go.Proofs.YtgnicgcdhldmmaaDoor.Blm
set_option linter.unusedVariables false
set_option linter.unusedSimpArgs false
open Go.Proofs.YtgnicgcdhldmmaaDoor.Crc Go.Proofs.YtgnicgcdhldmmaaDoor.Kit Go.RowKit Go.Proofs.YtgnicgcdhldmmaaDoorW.PrintWords Go.Proofs.YtgnicgcdhldmmaaDoorW.PrintLast Go.Proofs.YtgnicgcdhldmmaaDoorW.PrintMore Go.ChangeShapes Go.WideShapes
instance : Inhabited ByteArray := ⟨ByteArray.empty⟩
theorem open_names {H : Type} {enc : TypeId × Value → H} {w : World} {base m : Nat} {held : Bool} {A : Option Addr} {n c : Nat} {x : DataW H × List MemPlace} (h : DataW.trod enc Tryd.prog w base (fun _ => true) held m 22 [.slice A n c] = some x) :
    ∃ xs, RdsS w A n xs ∧ n ≤ c ∧ ∀ z ∈ xs, z.size ≤ maxLen := by
  obtain ⟨xs, hS, hnc, hok⟩ := open_sts (fun s : ByteArray => [Value.string s]) (fun s => s.size ≤ maxLen) (k := 1) Tryd.underlying22 (by kernel_rfl) (fun cs m' y hy => by
    obtain ⟨a, e0, _, w0⟩ := DataW.trod_string Tryd.underlying9 hy
    exact ⟨a, e0, w0⟩) h
  refine ⟨xs, Kd.C_of_reads (d := (default : ByteArray)) ⟨hS.len, hS.max, fun hn => ?_⟩, hnc, hok⟩
  obtain ⟨ad, e, hc⟩ := hS.row hn
  refine ⟨ad, e, fun j hj => ?_⟩
  have hj2 : j < xs.length := by rw [hS.len]; exact hj
  have h2 := hc j xs[j] (List.getElem?_eq_getElem hj2) 0 _ rfl
  rw [Nat.mul_one] at h2
  rw [List.getD_eq_getElem?_getD, List.getElem?_eq_getElem hj2]
  have e0 : (ad.add j).add 0 = ad.add j := by simp [Addr.add]
  rw [e0] at h2
  exact h2
/-- A row of texts, the call's own. -/
abbrev GS (w : World) (B : Nat) (v : Value) (xs : List ByteArray) : Prop := GrE Value.string str_one 9 w B v xs
theorem ts : SlTy Tryd.prog 22 9 (.string ByteArray.empty) 16 := ⟨Tryd.underlying22, by kernel_rfl, rfl, by decide⟩
theorem reg_3_12 : RegOk (opsOf Tryd.f3 12) [[], [], [], [1, 2], [1, 2, 3], [0, 1, 2, 3, 4], [0, 1, 2, 3, 4, 5]] [] [some 28, some 29, some 30, some 31, some 32, some 33, some 34] := regOk (by kernel_rfl)
theorem reg_3_16 : RegOk (opsOf Tryd.f3 16) [[], [0], [0, 1], [0, 1, 2], [0, 1, 2, 3], [0, 1, 2, 3, 4], [0, 1, 2], [0, 1, 2, 3, 4, 6], [0, 1, 2, 3, 4, 6, 7], [0, 1, 2, 3, 4, 5, 6, 7, 8], [0, 1, 2, 3, 4, 5, 6, 7, 8, 9], [0, 1, 2, 3, 4, 5, 6, 7, 8, 9, 10]] [] [some 47, some 48, some 49, some 50, some 51, some 52, some 53, some 54, some 55, some 56, some 57, some 2] := regOk (by kernel_rfl)
set_option maxRecDepth 20000 in
set_option maxHeartbeats 3200000 in
theorem keeps_any (A : Option Addr) (n c : Nat) (names : List ByteArray) (w : World) (hT : Halves w) (hr : RdsS w A n names) (hnc : n ≤ c) (hok : ∀ s ∈ names, s.size ≤ maxLen) :
    Calls Tryd.prog 3 #[.slice A n c] w fun e w' => e = .returned (.bool true) ∧ Below w.heap.size w w' := by
  have hl := rds_len hr
  have hnm := rds_max hr
  have HH := Lib.hid (head_any w hT)
  go_enter Tryd.func3, Tryd.ntmps3
  go_wp2_with fail
  refine HH.out.mono ?_
  rintro e w1 ⟨rfl, hB1⟩
  have HG := Lib.hid (big_any A n c names w1 (rds_below hr hB1) hl hnm)
  have HB1 := Lib.hid hB1
  clear hB1
  go_wp2_with fail
  refine HG.out.mono ?_
  rintro e w2 ⟨b, rfl, rfl, hsm⟩
  cases b with
  | true =>
    go_wp2_with fail
    go_ret
    exact ⟨rfl, HB1.out⟩
  | false =>
    obtain ⟨hn60, hs200⟩ := hsm rfl
    have HM := Lib.hid (make_any A n c names w1 (hT.below HB1.out) (rds_below hr HB1.out) hl hn60 (fun s h => by have := hs200 s h; omega))
    go_wp2_with fail
    refine HM.out.mono ?_
    rintro e w3 ⟨g3, rfl, hO3, hB3⟩
    have hm8 : 8 ≤ nB n := by unfold nB; omega
    have hm1 : nB n ≤ 100 := by unfold nB; omega
    have hk := fun s hs => mkF_keeps (nB n) (by omega) names s hs
    have hok3 := mkF_ok (nB n) names
    generalize hmd : nB n = m at hO3 hm8 hm1 hk hok3 ⊢
    have HB3 := Lib.hid (below_then HB1.out HB1.out.size hB3)
    have HX := Lib.hid (bx_alloc HB3.out hO3)
    have HR := Lib.hid hr
    have HK := Lib.hid hk
    have HT := Lib.hid hT
    have HS2 := Lib.hid hs200
    clear hO3 hB3 hk hr hs200 hsm HG HM HH hT hok
    go_upto_region 8 with fail
    generalize hp3 : w3.heap.size = p3 at *
    generalize hW4 : w3.alloc (.cells #[.slice (some ⟨g3, 0, none⟩) m m] 27) = w4 at *
    have hO4 : GS (w4.alloc (.cells #[] 9)) w4.heap.size (.slice (some ⟨w4.heap.size, 0, none⟩) 0 0) [] := .inl (own_e_lit 9 w4 w4.heap.size [] 0 rfl (Nat.le_refl _) (by simp))
    have HO4 := Lib.hid hO4
    have HB4 := Lib.hid (below_alloc (Below.refl w4.heap.size w4) (.cells #[] 9))
    clear hO4
    go_wp2_with fail
    generalize w4.alloc (.cells #[] 9) = w5 at *
    go_loopw [5, 6] (fun bk i wr => ∃ (k : Nat) (v : Value), k ≤ n ∧ v = bk ∧ i = .int .i64 ((n : Int) - 1 - k) ∧ Hid (GS wr w4.heap.size v (names.reverse.take k)) ∧ Hid (Below w4.heap.size w4 wr)) (fun _ i _ => (intOf i + 1).toNat)
    case atStart => exact ⟨0, _, by omega, rfl, by simp, HO4, HB4⟩
    case round =>
      obtain ⟨k, v, hkn, rfl, rfl, HO, HB⟩ := hrel
      by_cases hlt : k < n
      · have t2 : decide ((n : Int) - 1 - k ≥ 0) = true := decide_eq_true (by omega)
        have t3 : decide ((0 : Int) ≤ (n : Int) - 1 - k) = true := decide_eq_true (by omega)
        obtain ⟨q, hq⟩ : ∃ q : Nat, q = n - 1 - k := ⟨_, rfl⟩
        have hqn : q < n := by omega
        have hqi : (n : Int) - 1 - k = (q : Int) := by omega
        rw [hqi] at t2 t3 ⊢
        obtain ⟨ad, rfl, _⟩ := rds_at default HR.out q hqn
        have hsq : ∀ W, Below w.heap.size w W → W.cell? (ad.add q) = some (.string (names.getD q default)) := fun W hb => by
          obtain ⟨ad2, e, hc⟩ := rds_at default (rds_below HR.out hb) q hqn
          injection e with e
          subst e
          exact hc
        have hmem : names.getD q default ∈ names := by
          rw [List.getD_eq_getElem?_getD, List.getElem?_eq_getElem (by omega)]
          exact List.getElem_mem _
        have htk : names.reverse.take (k + 1) = names.reverse.take k ++ [names.getD q default] := by
          rw [List.take_succ_eq_append_getElem (by rw [List.length_reverse]; omega)]
          congr 2
          rw [List.getElem_reverse, List.getD_eq_getElem?_getD, List.getElem?_eq_getElem (by omega)]
          simp only [Option.getD_some]
          congr 1
          omega
        have hmay := HK.out _ hmem
        have hss := HS2.out _ hmem
        generalize names.getD q default = s at hsq hmem htk hmay hss
        have HSQ := Lib.hid hsq
        have HTK := Lib.hid htk
        have HMY := Lib.hid hmay
        have hbw4 := HX.out.bel
        have hxr := HX.out.below HB.out
        have HXR := Lib.hid hxr
        have HQI := Lib.hid hqi
        clear hsq htk hmay hmem hxr hq hqi
        go_upto_region 12 with fail
        refine draws_ _ (fun _ => True) (by kernel_rfl) reg_3_12 rfl inv0 (fun _ _ _ _ => trivial) (below_drew (Below.refl _ _)) trivial ?_
        refine w_val [(3, _)] (.agg #[.slice (some ⟨g3, 0, none⟩) m m]) (fun vs w hK => ⟨wants_none rfl, rho_out rfl rfl, trivial⟩) rfl (fun wq hI => by exact run_load_op rfl rfl (run_loadAt_mid wq _ 0 27 [.slice (some ⟨g3, 0, none⟩) m m] _ (range_block (HXR.out.below hI).box) Tryd.underlying27 rfl info27)) ?_
        refine w_move (.inl rfl) (fun vs w hK => ⟨wants_none rfl, rho_out rfl rfl⟩) ?_
        refine w_move (.inl rfl) (fun vs w hK => ⟨wants_none rfl, rho_out rfl rfl⟩) ?_
        refine w_val [(29, _), (30, _)] (_) (fun vs w hK => ⟨wants_none rfl, rho_in rfl (fv (hK 1 (memE rfl))), rho_in rfl (fv (hK 2 (memE rfl))), trivial⟩) rfl (fun wq hI => by exact run_index_cell ts rfl rfl rfl rfl hqn) ?_
        refine w_val [(31, _)] (.string s) (fun vs w hK => ⟨wants_none rfl, rho_in rfl (fv (hK 3 (memE rfl))), trivial⟩) rfl (fun wq hI => by exact run_load_cell rfl rfl rfl Tryd.underlying9 rfl (HSQ.out wq (HXR.out.below hI).bel)) ?_
        refine w_call [(28, _), (32, _)] _ _ (by decide) (fun vs w hK => ⟨wants_none rfl, rho_in rfl (fv (hK 0 (memE rfl))), rho_in rfl (fv (hK 4 (memE rfl))), trivial⟩) rfl rfl Tryd.func11 (by kernel_rfl) rfl (fun wq hI => (by have h := may_any (some ⟨g3, 0, none⟩) m m (mkF m names) s wq (HT.out.below (HXR.out.below hI).bel) (HXR.out.below hI).row hok3.1 hok3.2 (by omega) (by omega); rw [HMY.out] at h; exact h)) (margs rfl) ?_
        refine w_val [(33, _)] (_) (fun vs w hK => ⟨wants_none rfl, rho_in rfl (fv (hK 5 (memE rfl))), trivial⟩) rfl (fun wq hI => by exact op_not rfl rfl rfl) ?_
        refine w_end rfl rfl rfl (fun vs wq hI hF => ?_)
        simp only [List.reverse_cons, List.reverse_nil, List.nil_append, List.cons_append, finL_val, finL_of, finL_any, finL_app, finL_new, finL_gr, finL_row, finL_box, finL_nil, Act.put, List.setIfInBounds_toArray, List.set_cons_zero, List.set_cons_succ, Nat.reduceAdd]
        have hc2 := HSQ.out wq (HXR.out.below hI).bel
        have HOq := Lib.hid (gr_below HO.out hI)
        have HBq := Lib.hid (below_then HB.out HB.out.size hI)
        have hlk : (names.reverse.take k).length ≤ 60 := by rw [List.length_take, List.length_reverse]; omega
        have HI := Lib.hid hI
        clear hI hF
        go_wp2_with (at_builtin; refine gapp_one (enc := Value.string) (h1 := str_one) ts (p := s) rfl (.tmp 35) (.tmp 40) rfl rfl rfl HOq.out HBq.out HBq.out.size ?cL ?_; (case cL => omega); intro v6 w6 ho hb6 hs1 hf; have HO6 : Hid (GS w6 w4.heap.size v6 (names.reverse.take (k + 1))) := Lib.hid (by rw [HTK.out]; exact ho); have HB6 : Hid (Below w4.heap.size w4 w6) := Lib.hid hb6; clear ho hb6 hs1 hf)
        go_roundw
        case rel => exact ⟨k + 1, _, by omega, rfl, by have h := HQI.out; simp only [Value.int.injEq, true_and]; omega, HO6, HB6⟩
        case measure => simp [intOf]
      · obtain rfl : k = n := by omega
        have t2 : decide ((k : Int) - 1 - k ≥ 0) = false := decide_eq_false (by omega)
        have t3 : decide ((0 : Int) ≤ (k : Int) - 1 - k) = false := decide_eq_false (by omega)
        rw [List.take_of_length_le (by rw [List.length_reverse]; omega)] at HO
        obtain ⟨A7, n7, c7, rfl, h7c, HL7, h7m, hr7⟩ := gr_open HO.out
        have hn7 : n7 = k := by rw [← HL7.out, List.length_reverse]; exact hl
        subst hn7
        have hxr := HX.out.below HB.out
        have hM2 := make_any A7 n7 c7 names.reverse wr (HT.out.below hxr.bel) hr7 HL7.out hn60 (fun s h => by have := HS2.out s (List.mem_reverse.1 h); omega)
        rw [hmd, mkF_reverse] at hM2
        have HM2 := Lib.hid hM2
        have HXR := Lib.hid hxr
        clear hM2 hxr hr7 HO HB
        go_wp2_with fail
        refine HM2.out.mono ?_
        rintro e w8 ⟨g8, rfl, hO8, hB8⟩
        have HB8 := Lib.hid (below_then HXR.out.bel HXR.out.bel.size hB8)
        have hx8 := HXR.out.below (below_then (Below.refl _ _) (Nat.le_refl _) hB8)
        have hx9 := hx8.below (below_alloc (Below.refl _ _) (.cells #[.slice (some ⟨g8, 0, none⟩) m m] 27))
        have hy9 := bx_alloc HB8.out hO8
        clear hO8 hB8 hx8
        go_upto_region 16 with fail
        generalize w8.heap.size = p8 at *
        generalize w8.alloc (.cells #[.slice (some ⟨g8, 0, none⟩) m m] 27) = w9 at *
        have HX9 := Lib.hid hx9
        have HY9 := Lib.hid hy9
        clear hx9 hy9
        have hbt : ∀ (p g : Nat) (wq : World), Bx w p g m (mkF m names) wq → Calls Tryd.prog 12 #[.agg #[.slice (some ⟨g, 0, none⟩) m m]] wq fun e w' => ∃ v, e = .returned v ∧ Below wq.heap.size wq w' ∧ (FW.row .u8 (6 :: mkF m names)).p v w' := fun p g wq h => (bytes_any (some ⟨g, 0, none⟩) m m (mkF m names) wq h.row (by omega)).mono fun e w' ⟨v, he, hO, hB⟩ => ⟨v, he, hB, isRow_gr hO⟩
        have HBT := Lib.hid hbt
        clear hbt
        refine draws_ _ (fun _ => True) (by kernel_rfl) reg_3_16 rfl inv0 (fun _ _ _ _ => trivial) (below_drew (Below.refl _ _)) trivial ?_
        refine w_move (.inl rfl) (fun vs w hK => ⟨wants_none rfl, rho_out rfl rfl⟩) ?_
        refine w_val [(47, _)] (.bool true) (fun vs w hK => ⟨wants_none rfl, rho_in rfl (fv (hK 0 (memE rfl))), trivial⟩) rfl (fun wq hI => by exact run_int_eql rfl rfl rfl rfl) ?_
        refine w_move (.inl rfl) (fun vs w hK => ⟨wants_none rfl, rho_in rfl (fv (hK 1 (memE rfl)))⟩) ?_
        refine w_val [(3, _)] (.agg #[.slice (some ⟨g3, 0, none⟩) m m]) (fun vs w hK => ⟨wants_g rfl (fv (hK 2 (memE rfl))), rho_out rfl rfl, trivial⟩) rfl (fun wq hI => by exact run_load_op rfl rfl (run_loadAt_mid wq _ 0 27 [.slice (some ⟨g3, 0, none⟩) m m] _ (range_block (HX9.out.below hI).box) Tryd.underlying27 rfl info27)) ?_
        refine w_callF (FW.row .u8 (6 :: mkF m names)) [(50, _)] _ (by decide) (fun vs w hK => ⟨wants_g rfl (fv (hK 2 (memE rfl))), rho_in rfl (fv (hK 3 (memE rfl))), trivial⟩) rfl rfl Tryd.func12 (by kernel_rfl) rfl (fun wq hI => HBT.out _ _ wq (HX9.out.below hI)) (margs rfl) ?_
        refine w_str (j := 4) (by decide) Tryd.underlying9 Tryd.underlying5 tb rfl rfl (fun vs w hK => wants_g rfl (fv (hK 2 (memE rfl)))) (fun vs w hK => hK 4 (memE rfl)) ?_
        refine w_val [(7, _)] (.agg #[.slice (some ⟨g8, 0, none⟩) m m]) (fun vs w hK => ⟨wants_g rfl (fv (hK 2 (memE rfl))), rho_out rfl rfl, trivial⟩) rfl (fun wq hI => by exact run_load_op rfl rfl (run_loadAt_mid wq _ 0 27 [.slice (some ⟨g8, 0, none⟩) m m] _ (range_block (HY9.out.below hI).box) Tryd.underlying27 rfl info27)) ?_
        refine w_callF (FW.row .u8 (6 :: mkF m names)) [(53, _)] _ (by decide) (fun vs w hK => ⟨wants_g rfl (fv (hK 2 (memE rfl))), rho_in rfl (fv (hK 6 (memE rfl))), trivial⟩) rfl rfl Tryd.func12 (by kernel_rfl) rfl (fun wq hI => HBT.out _ _ wq (HY9.out.below hI)) (margs rfl) ?_
        refine w_str (j := 7) (by decide) Tryd.underlying9 Tryd.underlying5 tb rfl rfl (fun vs w hK => wants_g rfl (fv (hK 2 (memE rfl)))) (fun vs w hK => hK 7 (memE rfl)) ?_
        refine w_val [(52, _), (55, _)] (.bool true) (fun vs w hK => ⟨wants_g rfl (fv (hK 2 (memE rfl))), rho_in rfl (fv (hK 5 (memE rfl))), rho_in rfl (fv (hK 8 (memE rfl))), trivial⟩) rfl (fun wq hI => by exact run_eql_same rfl rfl rfl rfl) ?_
        refine w_pick (b := true) rfl (fun vs w hK => ⟨wants_none rfl, (rho_in rfl (fv (hK 2 (memE rfl)))), (rho_in rfl (fv (hK 9 (memE rfl))))⟩) ?_
        refine w_move (.inr rfl) (fun vs w hK => ⟨wants_none rfl, rho_in rfl (fv (hK 10 (memE rfl)))⟩) ?_
        refine w_end rfl rfl rfl (fun vs wq hI hF => ?_)
        simp only [List.reverse_cons, List.reverse_nil, List.nil_append, List.cons_append, finL_val, finL_of, finL_any, finL_app, finL_new, finL_gr, finL_row, finL_box, finL_nil, Act.put, List.setIfInBounds_toArray, List.set_cons_zero, List.set_cons_succ, Nat.reduceAdd]
        have hbw := (HX9.out.below hI).bel
        have HBW := Lib.hid hbw
        clear hbw hI hF
        go_wp2_with fail
        go_ret
        exact ⟨rfl, HBW.out⟩
end Go.Proofs.YtgnicgcdhldmmaaDoor.Blm

