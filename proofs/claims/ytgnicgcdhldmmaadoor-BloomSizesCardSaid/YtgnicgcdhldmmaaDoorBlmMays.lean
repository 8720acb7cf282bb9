/- The walk of the law BloomMays. -/
import Derived.Test.YtgnicgcdhldmmaaDoorBlmH
namespace Go.Proofs.YtgnicgcdhldmmaaDoor.Blm
set_option linter.unusedVariables false
set_option linter.unusedSimpArgs false
open Go.Proofs.YtgnicgcdhldmmaaDoor.Crc Go.Proofs.YtgnicgcdhldmmaaDoor.Kit Go.RowKit Go.Proofs.YtgnicgcdhldmmaaDoorW.PrintWords Go.Proofs.YtgnicgcdhldmmaaDoorW.PrintLast Go.Proofs.YtgnicgcdhldmmaaDoorW.PrintMore
theorem op_bool_eql {P : Program} {o : Oper} {l : List (Nat × Value)} {x y : Operand} {t : TypeId} {m : Nat} {a b r : Bool} {w : World} (hu : P.underlying t = some .bool) (ho : o.op = .binOp .eql t x y m) (hx : lk l x = .bool a) (hy : lk l y = .bool b) (h : (a == b) = r) : (execOp (lk l) o).run P w = .ok (.value (.bool r)) w := by
  subst h
  have e : (Op.equal t (.bool a) (.bool b)).run P w = .ok (a == b) w := by
    show (Op.equalIn (9999 + 1) t _ _).run P w = _
    unfold Op.equalIn
    simp [Sem.run_bind, run_underlying hu]
  unfold execOp
  simp [ho, hx, hy, eqGuard, binOp, e]
/-- A filter of whatever row, in a variable. -/
structure By (w0 : World) (p : Nat) (A : Option Addr) (n c : Nat) (xs : List Int) (W : World) : Prop where
  bel : Below w0.heap.size w0 W
  box : W.heap[p]? = some (.cells #[.slice A n c] 27 (0, 0))
  row : Rds .u8 W A n xs
theorem By.below {w0 W W' : World} {p n c : Nat} {A : Option Addr} {xs : List Int} (h : By w0 p A n c xs W) (hb : Below W.heap.size W W') : By w0 p A n c xs W' :=
  ⟨below_then h.bel h.bel.size hb, by rw [hb.block p (mk_lt h.box)]; exact h.box, rds_below h.row hb⟩
theorem By.cell {w0 W : World} {p n c : Nat} {A : Option Addr} {xs : List Int} (h : By w0 p A n c xs W) : W.cell? ⟨p, 0, none⟩ = some (.slice A n c) := by simp [World.cell?, h.box]
theorem by_alloc {w0 w1 : World} {n c : Nat} {A : Option Addr} {xs : List Int} (hB : Below w0.heap.size w0 w1) (hO : Rds .u8 w1 A n xs) : By w0 w1.heap.size A n c xs (w1.alloc (.cells #[.slice A n c] 27)) :=
  ⟨below_alloc hB _, heap_alloc_new w1 _, rds_below hO (below_alloc (Below.refl _ _) _)⟩
theorem reg_5_15 : RegOk (opsOf Tryd.f5 15) [[], [0], [0, 1], [0, 1], [0, 1, 3], [0, 1, 3, 4], [0, 1, 2, 3, 4, 5], [0, 1, 2, 3, 4, 5, 6], [0, 1], [0, 1, 8], [0, 1, 8, 9], [0, 1, 2, 3, 4, 5, 6, 7, 8, 9, 10], [0, 1, 2, 3, 4, 5, 6, 7, 8, 9, 10, 11], [0, 1, 2, 3, 4, 5, 6, 7, 8, 9, 10, 11, 12], [0, 1, 2, 3, 4, 5, 6, 7, 8, 9, 10, 11, 12, 13], [0, 1, 2, 3, 4, 5, 6, 7, 8, 9, 10, 11, 12, 13, 14]] [] [some 54, some 55, some 56, some 57, some 58, some 59, some 60, some 61, some 62, some 63, some 64, some 65, some 66, some 67, some 68, some 8] := regOk (by kernel_rfl)
theorem reg_5_17 : RegOk (opsOf Tryd.f5 17) [[], [0], [0, 1], [0, 1, 2], [0, 1, 2], [0, 1, 2, 3, 4], [0, 1, 2], [0, 1, 2, 3, 4, 5, 6], [0, 1, 2, 3, 4, 5, 6, 7], [0, 1, 2, 3, 4, 5, 6, 7, 8], [0, 1, 2, 3, 4, 5, 6, 7, 8, 9], [0, 1, 2, 3, 4, 5, 6, 7, 8, 9, 10], [0, 1, 2, 3, 4, 5, 6, 7, 8, 9, 10, 11], [0, 1, 2, 3, 4, 5, 6, 7, 8, 9], [0, 1, 2, 3, 4, 5, 6, 7, 8, 9, 13], [0, 1, 2, 3, 4, 5, 6, 7, 8, 9, 10, 11, 12, 13, 14], [0, 1, 2, 3, 4, 5, 6, 7, 8, 9, 10, 11, 12, 13, 14, 15], [0, 1, 2, 3, 4, 5, 6, 7, 8, 9, 10, 11, 12, 13, 14, 15, 16]] [] [some 70, some 71, some 72, some 73, some 74, some 75, some 76, some 77, some 78, some 79, some 80, some 81, some 82, some 83, some 84, some 85, some 86, some 4] := regOk (by kernel_rfl)
set_option maxRecDepth 20000 in
set_option maxHeartbeats 3200000 in
theorem mays_any (A : Option Addr) (n c : Nat) (l : List Int) (S : ByteArray) (w : World) (hT : Halves w) (hr : Rds .u8 w A n l) (hl : l.length = n) (hm : n * 1 ≤ 140737488351232) (hw : ∀ x ∈ l, (Lit.int .u8 x).wf = true) (hc : n ≤ c) (hs : S.size ≤ 140737488351232) :
    Calls Tryd.prog 5 #[.slice A n c, .string S] w fun e w' => e = .returned (.bool true) ∧ Below w.heap.size w w' := by
  have hb := isByte_wf hw
  have HH := Lib.hid (head_any w hT)
  clear hw
  by_cases g1 : 500 < n
  · clear hl hr hb hT
    go_enter Tryd.func5, Tryd.ntmps5
    go_wp2_with fail
    refine HH.out.mono ?_
    rintro e w1 ⟨rfl, hB1⟩
    have HB1 := Lib.hid hB1
    clear hB1
    go_wp2_with fail
    go_ret
    exact ⟨rfl, HB1.out⟩
  by_cases g2 : 300 < S.size
  · clear hl hr hb hT
    go_enter Tryd.func5, Tryd.ntmps5
    go_wp2_with fail
    refine HH.out.mono ?_
    rintro e w1 ⟨rfl, hB1⟩
    have HB1 := Lib.hid hB1
    clear hB1
    go_wp2_with fail
    go_ret
    exact ⟨rfl, HB1.out⟩
  have HP := Lib.hid (fun W (h : Below w.heap.size w W) => parse_any A n c l W (rds_below hr h) hl hb (by omega) hc)
  have HR := Lib.hid hr
  have HT := Lib.hid hT
  have HL := Lib.hid hl
  have HBY := Lib.hid hb
  clear hr hT hb
  go_enter Tryd.func5, Tryd.ntmps5
  go_wp2_with fail
  refine HH.out.mono ?_
  rintro e w1 ⟨rfl, hB1⟩
  have HB1 := Lib.hid hB1
  clear hB1
  go_wp2_with fail
  refine (HP.out w1 HB1.out).mono ?_
  rintro e w3 ⟨v, k, rfl, hB3, hT3, hF3⟩
  have HB3 := Lib.hid (below_then HB1.out HB1.out.size hB3)
  clear hB3
  cases hF : isF l with
  | false =>
    obtain ⟨rfl, rfl⟩ := hF3 hF
    have hy := by_alloc (c := 0) HB3.out (rds_nil w3 none : Rds .u8 w3 none 0 [])
    have hmf : mayF [] (numsOf S) = false := mayK_false _ _ 0 (by omega) (by simp [mayK])
    have hmay := fun W (h : By w w3.heap.size none 0 0 [] W) => may_any none 0 0 [] S W (HT.out.below h.bel) h.row rfl (fun x hx => by cases hx) (by omega) (by omega)
    rw [hmf] at hmay
    have HM := Lib.hid hmay
    clear hmay hT3 hF3 hmf HP
    go_upto_region 6 with fail
    generalize w3.heap.size = p3 at *
    generalize w3.alloc (.cells #[.slice none 0 0] 27) = w4 at *
    have hcell := hy.cell
    have HY := Lib.hid hy
    clear hy
    unfold isF at hF
    rw [HL.out] at hF
    by_cases h9 : 9 ≤ n
    · rw [decide_eq_true h9, Bool.true_and] at hF
      have h6 := of_decide_eq_false hF
      obtain ⟨ad, rfl, hc0⟩ := rds_at 0 (rds_below HR.out HY.out.bel) 0 (by omega)
      rw [show ad.add 0 = ad by simp [Addr.add]] at hc0
      generalize l.getD 0 0 = x0 at hc0 h6
      have hne : (x0 == 6) = false := by simpa using h6
      clear hF
      go_wp2_with fail
      refine (HM.out w4 HY.out).mono ?_
      rintro e w5 ⟨rfl, hB5⟩
      have HB5 := Lib.hid (below_then HY.out.bel HY.out.bel.size hB5)
      clear hB5
      go_wp2_with fail
      go_ret
      exact ⟨rfl, HB5.out⟩
    · clear hF
      have t9 : decide ((9 : Int) ≤ (n : Int)) = false := decide_eq_false (by omega)
      go_wp2_with fail
      refine (HM.out w4 HY.out).mono ?_
      rintro e w5 ⟨rfl, hB5⟩
      have HB5 := Lib.hid (below_then HY.out.bel HY.out.bel.size hB5)
      clear hB5
      go_wp2_with fail
      go_ret
      exact ⟨rfl, HB5.out⟩
  | true =>
    obtain ⟨rfl, hO3⟩ := hT3 hF
    obtain ⟨A3, n3, c3, rfl, h3c, HL3, h3m, hr3⟩ := gr_open hO3
    have hn3 : n3 = n - 1 := by rw [← HL3.out, List.length_drop, hl]
    subst hn3
    have hy := by_alloc (c := c3) HB3.out hr3
    clear hT3 hF3 HP hO3 hr3
    go_upto_region 6 with fail
    generalize w3.heap.size = p3 at *
    generalize w3.alloc (.cells #[.slice A3 (n - 1) c3] 27) = w4 at *
    have HY := Lib.hid hy
    clear hy
    unfold isF at hF
    rw [HL.out, Bool.and_eq_true] at hF
    have h9 := of_decide_eq_true hF.1
    have h6 := of_decide_eq_true hF.2
    obtain ⟨ad, rfl, hc0⟩ := rds_at 0 (rds_below HR.out HY.out.bel) 0 (by omega)
    rw [show ad.add 0 = ad by simp [Addr.add], h6] at hc0
    have hbits := refbits_any S (by omega) (n - 1) (by omega) w4
    rw [show ((n - 1 : Nat) : Int) = (n : Int) - 1 by omega] at hbits
    have HBI := Lib.hid hbits
    have H6 := Lib.hid h6
    clear hF hbits h6
    go_wp2_with fail
    refine HBI.out.mono ?_
    rintro e w5 ⟨v5, rfl, hO5, hB5⟩
    obtain ⟨A5, n5, c5, rfl, h5c, HL5, h5m, hr5⟩ := gr_open hO5
    obtain rfl : n5 = 6 := by rw [← HL5.out, plcs_length]
    have HY5 := Lib.hid (HY.out.below hB5)
    have HR5 := Lib.hid hr5
    have hxl : (l.drop 1).length = n - 1 := by rw [List.length_drop, hl]
    have HXL := Lib.hid hxl
    have hxb : Crc.isByte (l.drop 1) := fun x hx => HBY.out x (List.mem_of_mem_drop hx)
    have HXB := Lib.hid hxb
    have hget : ∀ q, l.getD (1 + q) 0 = (l.drop 1).getD q 0 := fun q => by
      rw [List.getD_eq_getElem?_getD, List.getD_eq_getElem?_getD, List.getElem?_drop]
    have HGET := Lib.hid hget
    have hrec : l = 6 :: l.drop 1 := by
      have h6 := H6.out
      cases l with
      | nil => simp at hl; omega
      | cons a t =>
        have : a = 6 := by simpa using h6
        rw [this]
        rfl
    have HREC := Lib.hid hrec
    have hmz : mayK (l.drop 1) (numsOf S) 0 = true := by rw [mayK_zero, hxl, decide_eq_true (by omega)]
    have HMZ := Lib.hid hmz
    clear hO5 hB5 hr5 hxl hxb hget hmz hrec hl
    go_wp2_with fail
    go_loopw [8, 50] (fun want i wr => ∃ k : Nat, k ≤ 6 ∧ i = .int .i64 k ∧ want = .bool (mayK (l.drop 1) (numsOf S) k) ∧ Hid (Below w5.heap.size w5 wr)) (fun _ i _ => 6 - (intOf i).toNat)
    case atStart => exact ⟨0, by omega, rfl, by rw [HMZ.out], Lib.hid (Below.refl _ _)⟩
    case round =>
      obtain ⟨k, hk, rfl, rfl, HB⟩ := hrel
      by_cases hlt : k < 6
      · obtain ⟨ad5, rfl, hc5⟩ := rds_at 0 (rds_below HR5.out HB.out) k hlt
        rw [plcs_getD _ _ _ _ hlt] at hc5
        have hpos := plc_lt (numsOf S) (8 * (n - 1)) k (by omega)
        have hsu := mayK_succ (l.drop 1) (numsOf S) k
        rw [HXL.out] at hsu
        generalize plc (numsOf S) (8 * (n - 1)) k = pos at hc5 hpos hsu
        have HYr := Lib.hid (HY5.out.below HB.out)
        have hq := tdiv8 pos (by omega)
        have hrm := tmod8 pos
        have hk8 : pos % 8 < 8 := Nat.mod_lt _ (by omega)
        have hltq : 1 + pos / 8 < n := by omega
        have hrow : ∀ W, Below w.heap.size w W → W.cell? (ad.add (1 + pos / 8)) = some (.int .u8 ((l.drop 1).getD (pos / 8) 0)) := fun W hW => by
          obtain ⟨ad2, e, h2⟩ := rds_at 0 (rds_below HR.out hW) (1 + pos / 8) hltq
          injection e with e
          subst e
          rw [HGET.out] at h2
          exact h2
        have hby := byte_getD HXB.out (pos / 8)
        obtain ⟨bv, hbv⟩ : ∃ bv, bitv (l.drop 1) pos = bv := ⟨_, rfl⟩
        have hbv2 : decide (((l.drop 1).getD (pos / 8) 0).toNat / 2 ^ (pos % 8) % 2 = 1) = bv := hbv
        rw [hbv] at hsu
        generalize (l.drop 1).getD (pos / 8) 0 = ob at hby hrow hbv2
        obtain ⟨x, rfl⟩ := Int.eq_ofNat_of_zero_le hby.1
        rw [Int.toNat_natCast] at hbv2
        have hsh := shr8 x (pos % 8) hk8
        have hxk : x / 2 ^ (pos % 8) < 256 := Nat.lt_of_le_of_lt (Nat.div_le_self _ _) (by omega)
        have han := and1 _ hxk
        have heq : ((((x / 2 ^ (pos % 8) % 2 : Nat) : Int) == 1) : Bool) = bv := by
          rw [← hbv2]
          by_cases h : x / 2 ^ (pos % 8) % 2 = 1
          · rw [h]; rfl
          · rw [decide_eq_false h]
            simp only [beq_eq_false_iff_ne]
            omega
        have hcu : IntKind.u64.wrap ((pos % 8 : Nat) : Int) = ((pos % 8 : Nat) : Int) := u64_nat _ (by omega)
        have hadd : IntKind.i64.wrap (1 + ((pos / 8 : Nat) : Int)) = ((1 + pos / 8 : Nat) : Int) := by rw [i64_id (by omega) (by omega)]; omega
        generalize x / 2 ^ (pos % 8) % 2 = bt at han heq
        generalize x / 2 ^ (pos % 8) = sh at hsh han
        generalize pos / 8 = qq at *
        generalize pos % 8 = rr at *
        generalize mayK (l.drop 1) (numsOf S) k = G at hsu ⊢
        have HQ := Lib.hid hq
        have HRM := Lib.hid hrm
        have HSH := Lib.hid hsh
        have HAN := Lib.hid han
        have HEQ := Lib.hid heq
        have HROW := Lib.hid hrow
        have HCU := Lib.hid hcu
        have HADD := Lib.hid hadd
        have HSU := Lib.hid hsu
        clear hq hrm hsh han hby heq hbv2 hbv hrow hcu hadd hsu
        go_upto_region 15 with fail
        refine plain_ _ (fun _ => True) reg_5_15 rfl inv0 (fun _ _ _ _ => trivial) (Below.refl _ _) trivial ?_
        refine w_move (.inl rfl) (fun vs w hK => ⟨wants_none rfl, rho_out rfl rfl⟩) ?_
        refine w_move (.inl rfl) (fun vs w hK => ⟨wants_none rfl, rho_in rfl (fv (hK 0 (memE rfl)))⟩) ?_
        refine w_moveG (.inl rfl) (fun vs w hK => wantsT rfl (fv (hK 1 (memE rfl)))) (fun hG vs w hK => (rho_out rfl rfl)) ?_
        refine w_moveG (.inl rfl) (fun vs w hK => wantsT rfl (fv (hK 1 (memE rfl)))) (fun hG vs w hK => (rho_out rfl rfl)) ?_
        refine w_valG [(57, _)] (_) (fun vs w hK => wantsT rfl (fv (hK 1 (memE rfl)))) (fun hG vs w hK => ⟨(rho_in rfl (fvg (hK 3 (memE rfl)) hG)), trivial⟩) rfl (fun hG wq hI => by exact op_quo rfl rfl rfl (by decide) HQ.out) ?_
        refine w_valG [(58, _)] (_) (fun vs w hK => wantsT rfl (fv (hK 1 (memE rfl)))) (fun hG vs w hK => ⟨(rho_in rfl (fvg (hK 4 (memE rfl)) hG)), trivial⟩) rfl (fun hG wq hI => by exact run_int_add rfl rfl rfl HADD.out) ?_
        refine w_valG [(56, _), (59, _)] (_) (fun vs w hK => wantsT rfl (fv (hK 1 (memE rfl)))) (fun hG vs w hK => ⟨(rho_in rfl (fvg (hK 2 (memE rfl)) hG)), (rho_in rfl (fvg (hK 5 (memE rfl)) hG)), trivial⟩) rfl (fun hG wq hI => by exact run_index_cell tb rfl rfl rfl rfl hltq) ?_
        refine w_valG [(60, _)] (.int .u8 (x : Int)) (fun vs w hK => wantsT rfl (fv (hK 1 (memE rfl)))) (fun hG vs w hK => ⟨(rho_in rfl (fvg (hK 6 (memE rfl)) hG)), trivial⟩) rfl (fun hG wq hI => by exact run_load_cell rfl rfl rfl Tryd.underlying5 rfl (HROW.out wq (HYr.out.below hI).bel)) ?_
        refine w_moveG (.inl rfl) (fun vs w hK => wantsT rfl (fv (hK 1 (memE rfl)))) (fun hG vs w hK => (rho_out rfl rfl)) ?_
        refine w_valG [(62, _)] (_) (fun vs w hK => wantsT rfl (fv (hK 1 (memE rfl)))) (fun hG vs w hK => ⟨(rho_in rfl (fvg (hK 8 (memE rfl)) hG)), trivial⟩) rfl (fun hG wq hI => by exact op_rem rfl rfl rfl (by decide) HRM.out) ?_
        refine w_valG [(63, _)] (_) (fun vs w hK => wantsT rfl (fv (hK 1 (memE rfl)))) (fun hG vs w hK => ⟨(rho_in rfl (fvg (hK 9 (memE rfl)) hG)), trivial⟩) rfl (fun hG wq hI => by exact op_conv_int rfl Tryd.underlying3 Tryd.underlying35 rfl HCU.out) ?_
        refine w_valG [(61, _), (64, _)] (_) (fun vs w hK => wantsT rfl (fv (hK 1 (memE rfl)))) (fun hG vs w hK => ⟨(rho_in rfl (fvg (hK 7 (memE rfl)) hG)), (rho_in rfl (fvg (hK 10 (memE rfl)) hG)), trivial⟩) rfl (fun hG wq hI => by exact op_shr rfl rfl rfl (Int.natCast_nonneg _) HSH.out) ?_
        refine w_valG [(65, _)] (_) (fun vs w hK => wantsT rfl (fv (hK 1 (memE rfl)))) (fun hG vs w hK => ⟨(rho_in rfl (fvg (hK 11 (memE rfl)) hG)), trivial⟩) rfl (fun hG wq hI => by exact op_and rfl rfl rfl HAN.out) ?_
        refine w_valG [(66, _)] (_) (fun vs w hK => wantsT rfl (fv (hK 1 (memE rfl)))) (fun hG vs w hK => ⟨(rho_in rfl (fvg (hK 12 (memE rfl)) hG)), trivial⟩) rfl (fun hG wq hI => by exact run_int_eql rfl rfl rfl HEQ.out) ?_
        refine w_and rfl (fun vs w hK => wants_none rfl) (fun vs w hK => (rho_in rfl (fv (hK 1 (memE rfl))))) (fun hB vs w hK => (rho_in rfl (fvg (hK 13 (memE rfl)) hB))) ?_
        refine w_move (.inr rfl) (fun vs w hK => ⟨wants_none rfl, rho_in rfl (fv (hK 14 (memE rfl)))⟩) ?_
        refine w_endM [false, false, false, false, false, false, false, false, false, false, false, false, false, false, false, true] rfl rfl rfl (fun vs wq hI hF => ?_)
        simp only [List.reverse_cons, List.reverse_nil, List.nil_append, List.cons_append, finL_val, finL_of, finL_any, finL_app, finL_new, finL_gr, finL_row, finL_box, finL_nil, Act.put, List.setIfInBounds_toArray, List.set_cons_zero, List.set_cons_succ, Nat.reduceAdd, maskF, finL_imp, Bool.not_false, Bool.not_true, Bool.true_and, Bool.false_and]
        have HB7 := Lib.hid (below_then HB.out HB.out.size hI)
        clear hI hF
        go_wp2_with fail
        go_roundw
        case rel => exact ⟨k + 1, by omega, by go_num, by rw [HSU.out], HB7⟩
        case measure => simp [intOf]; omega
      · obtain rfl : k = 6 := by omega
        have HYr := Lib.hid (HY5.out.below HB.out)
        obtain ⟨M, hM⟩ : ∃ M, mayF (l.drop 1) (numsOf S) = M := ⟨_, rfl⟩
        have hM2 : mayK (l.drop 1) (numsOf S) 6 = M := hM
        have hmay := fun W (h : By w p3 A3 (n - 1) c3 (l.drop 1) W) => may_any A3 (n - 1) c3 (l.drop 1) S W (HT.out.below h.bel) h.row HXL.out HXB.out (by omega) (by omega)
        rw [hM] at hmay
        have HMAY := Lib.hid hmay
        rw [hM2]
        have hbt : ∀ (W : World), By w p3 A3 (n - 1) c3 (l.drop 1) W → Calls Tryd.prog 12 #[.agg #[.slice A3 (n - 1) c3]] W fun e w' => ∃ v, e = .returned v ∧ Below W.heap.size W w' ∧ (FW.row .u8 (6 :: l.drop 1)).p v w' := fun W h => (bytes_any A3 (n - 1) c3 (l.drop 1) W h.row (by omega)).mono fun e w' ⟨v, he, hO, hB⟩ => ⟨v, he, hB, isRow_gr hO⟩
        have HBT := Lib.hid hbt
        have HST : Hid (strOfNums (6 :: l.drop 1) = strOfNums l) := Lib.hid (congrArg strOfNums HREC.out.symm)
        clear hmay hM hM2 hbt
        go_upto_region 17 with fail
        refine draws_ _ (fun _ => True) (by kernel_rfl) reg_5_17 rfl inv0 (fun _ _ _ _ => trivial) (below_drew (Below.refl _ _)) trivial ?_
        refine w_move (.inl rfl) (fun vs w hK => ⟨wants_none rfl, rho_out rfl rfl⟩) ?_
        refine w_val [(70, _)] (.bool true) (fun vs w hK => ⟨wants_none rfl, rho_in rfl (fv (hK 0 (memE rfl))), trivial⟩) rfl (fun wq hI => by exact run_int_eql rfl rfl rfl rfl) ?_
        refine w_move (.inl rfl) (fun vs w hK => ⟨wants_none rfl, rho_in rfl (fv (hK 1 (memE rfl)))⟩) ?_
        refine w_val [(5, _)] (.agg #[.slice A3 (n - 1) c3]) (fun vs w hK => ⟨wants_g rfl (fv (hK 2 (memE rfl))), rho_out rfl rfl, trivial⟩) rfl (fun wq hI => by exact run_load_op rfl rfl (run_loadAt_mid wq _ 0 27 [.slice A3 (n - 1) c3] _ (range_block (HYr.out.below hI).box) Tryd.underlying27 rfl info27)) ?_
        refine w_move (.inl rfl) (fun vs w hK => ⟨wants_g rfl (fv (hK 2 (memE rfl))), rho_out rfl rfl⟩) ?_
        refine w_call [(73, _), (74, _)] _ _ (by decide) (fun vs w hK => ⟨wants_g rfl (fv (hK 2 (memE rfl))), rho_in rfl (fv (hK 3 (memE rfl))), rho_in rfl (fv (hK 4 (memE rfl))), trivial⟩) rfl rfl Tryd.func11 (by kernel_rfl) rfl (fun wq hI => HMAY.out wq (HYr.out.below hI)) (margs rfl) ?_
        refine w_move (.inl rfl) (fun vs w hK => ⟨wants_g rfl (fv (hK 2 (memE rfl))), rho_out rfl rfl⟩) ?_
        refine w_val [(75, _), (76, _)] (.bool true) (fun vs w hK => ⟨wants_g rfl (fv (hK 2 (memE rfl))), rho_in rfl (fv (hK 5 (memE rfl))), rho_in rfl (fv (hK 6 (memE rfl))), trivial⟩) rfl (fun wq hI => by exact op_bool_eql Tryd.underlying4 rfl rfl rfl (by simp)) ?_
        refine w_pick (b := true) rfl (fun vs w hK => ⟨wants_none rfl, (rho_in rfl (fv (hK 2 (memE rfl)))), (rho_in rfl (fv (hK 7 (memE rfl))))⟩) ?_
        refine w_move (.inl rfl) (fun vs w hK => ⟨wants_none rfl, rho_in rfl (fv (hK 8 (memE rfl)))⟩) ?_
        refine w_val [(5, _)] (.agg #[.slice A3 (n - 1) c3]) (fun vs w hK => ⟨wants_g rfl (fv (hK 9 (memE rfl))), rho_out rfl rfl, trivial⟩) rfl (fun wq hI => by exact run_load_op rfl rfl (run_loadAt_mid wq _ 0 27 [.slice A3 (n - 1) c3] _ (range_block (HYr.out.below hI).box) Tryd.underlying27 rfl info27)) ?_
        refine w_callF (FW.row .u8 (6 :: l.drop 1)) [(80, _)] _ (by decide) (fun vs w hK => ⟨wants_g rfl (fv (hK 9 (memE rfl))), rho_in rfl (fv (hK 10 (memE rfl))), trivial⟩) rfl rfl Tryd.func12 (by kernel_rfl) rfl (fun wq hI => HBT.out wq (HYr.out.below hI)) (margs rfl) ?_
        refine w_str (j := 11) (by decide) Tryd.underlying9 Tryd.underlying5 tb rfl rfl (fun vs w hK => wants_g rfl (fv (hK 9 (memE rfl)))) (fun vs w hK => hK 11 (memE rfl)) ?_
        refine w_move (.inl rfl) (fun vs w hK => ⟨wants_g rfl (fv (hK 9 (memE rfl))), rho_out rfl rfl⟩) ?_
        refine w_val [(83, _)] (.string (strOfNums l)) (fun vs w hK => ⟨wants_g rfl (fv (hK 9 (memE rfl))), rho_in rfl (fv (hK 13 (memE rfl))), trivial⟩) rfl (fun wq hI => by exact run_conv_op rfl rfl (conv_rds tb Tryd.underlying5 Tryd.underlying9 (rds_below HR.out (HYr.out.below hI).bel))) ?_
        refine w_val [(82, _), (84, _)] (.bool true) (fun vs w hK => ⟨wants_g rfl (fv (hK 9 (memE rfl))), rho_in rfl (fv (hK 12 (memE rfl))), rho_in rfl (fv (hK 14 (memE rfl))), trivial⟩) rfl (fun wq hI => by exact run_eql_same rfl rfl rfl HST.out) ?_
        refine w_pick (b := true) rfl (fun vs w hK => ⟨wants_none rfl, (rho_in rfl (fv (hK 9 (memE rfl)))), (rho_in rfl (fv (hK 15 (memE rfl))))⟩) ?_
        refine w_move (.inr rfl) (fun vs w hK => ⟨wants_none rfl, rho_in rfl (fv (hK 16 (memE rfl)))⟩) ?_
        refine w_end rfl rfl rfl (fun vs wq hI hF => ?_)
        simp only [List.reverse_cons, List.reverse_nil, List.nil_append, List.cons_append, finL_val, finL_of, finL_any, finL_app, finL_new, finL_gr, finL_row, finL_box, finL_nil, Act.put, List.setIfInBounds_toArray, List.set_cons_zero, List.set_cons_succ, Nat.reduceAdd]
        have HB9 := Lib.hid (HYr.out.below hI).bel
        clear hI hF
        go_wp2_with fail
        go_ret
        exact ⟨rfl, HB9.out⟩
end Go.Proofs.YtgnicgcdhldmmaaDoor.Blm

