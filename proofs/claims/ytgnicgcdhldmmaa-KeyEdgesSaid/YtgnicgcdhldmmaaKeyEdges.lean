/- The walk of the law KeyEdges. -/
import Derived.Test.YtgnicgcdhldmmaaKeyPuts
import Derived.Test.YtgnicgcdhldmmaaRep
namespace Go.Proofs.Ytgnicgcdhldmmaa.Key
set_option linter.unusedVariables false
set_option linter.unusedSimpArgs false
open Go.Proofs.Ytgnicgcdhldmmaa.Kit Go.Proofs.Ytgnicgcdhldmmaa.Num Go.RowKit Go.Proofs.YtgnicgcdhldmmaaW.PrintWords Go.Proofs.YtgnicgcdhldmmaaW.PrintLast Go.Proofs.YtgnicgcdhldmmaaW.PrintMore NumPure
/-- x & 3 -/
theorem and3 (x : Int) : Go.bits .and .i64 x 3 = (((x % 4).toNat : Nat) : Int) := by
  have h1 : (BitVec.ofInt 64 (3 : Int)).toNat = 2 ^ 2 - 1 := by decide
  show IntKind.i64.wrap ((BitVec.ofInt 64 x &&& BitVec.ofInt 64 3).toNat : Int) = _
  rw [BitVec.toNat_and, h1, Nat.and_two_pow_sub_one_eq_mod, BitVec.toNat_ofInt, IntKind.wrap_i64]
  have h2 : ((2 ^ 64 : Nat) : Int) = 18446744073709551616 := by decide
  have h3 : (2 : Nat) ^ 2 = 4 := by decide
  rw [h2, h3]
  omega
def rep (c : UInt8) (i : Nat) : ByteArray := ⟨(Lib.repeatL [c] i).toArray⟩
theorem rep_size (c : UInt8) (i : Nat) : (rep c i).size = i := by
  have := Lib.repeatL_length [c] i
  unfold rep
  show (Lib.repeatL [c] i).toArray.size = i
  rw [List.size_toArray, this]
  simp
theorem repK (i : Nat) (w : World) (hi : i ≤ 100000) (j : Int) (hj : j = (i : Int)) : Calls Try.prog 17 #[.string ⟨#[107]⟩, .int .i64 j] w fun e w' => e = .returned (.string (rep 107 i)) ∧ Below w.heap.size w w' := by
  subst hj
  exact Try.repeat_any ⟨#[107]⟩ i w (by omega) (by show 1 * i ≤ _; omega)
theorem repV (i : Nat) (w : World) (hi : i ≤ 100000) (j : Int) (hj : j = (i : Int)) : Calls Try.prog 17 #[.string ⟨#[118]⟩, .int .i64 j] w fun e w' => e = .returned (.string (rep 118 i)) ∧ Below w.heap.size w w' := by
  subst hj
  exact Try.repeat_any ⟨#[118]⟩ i w (by omega) (by show 1 * i ≤ _; omega)
theorem reg_8_19 : RegOk (opsOf Try.f8 19) [[], [0], [0, 1], [0, 1, 2], [0, 1, 2], [0, 1, 2, 3, 4], [0, 1, 2, 3, 4, 5], [0, 1, 2, 3, 4, 5, 6], [0, 1, 2, 3, 4, 5, 6, 7], [0, 1, 2, 3, 4, 5, 6, 7], [0, 1, 2, 3, 4, 5, 6, 7, 9], [0, 1, 2, 3, 4, 5, 6, 7, 9, 10], [0, 1, 2, 3, 4, 5, 6, 7, 8, 9, 10, 11], [0, 1, 2, 3, 4, 5, 6, 7, 8, 9, 10, 11, 12], [0, 1, 2, 3, 4, 5, 6, 7, 8, 9, 10, 11, 12, 13]] [] [some 57, some 58, some 59, some 60, some 61, some 62, some 63, some 64, some 65, some 66, some 67, some 68, some 69, some 70, some 8] := regOk (by kernel_rfl)
set_option maxRecDepth 20000 in
set_option maxHeartbeats 1600000 in
theorem edges_any (a0 b0 c0 : Int) (d : Bool) (w : World) (_ : (Lit.int .i64 a0).wf = true) (_ : (Lit.int .i64 b0).wf = true) (_ : (Lit.int .i64 c0).wf = true) :
    Calls Try.prog 8 #[.int .i64 a0, .int .i64 b0, .int .i64 c0, .bool d] w fun e w' => e = .returned (.bool true) ∧ Below w.heap.size w w' := by
  have hA := and3 a0
  have hB := and3 b0
  have hC := and3 c0
  have lA : (a0 % 4).toNat ≤ 3 := by omega
  have lB : (b0 % 4).toNat ≤ 3 := by omega
  have lC : (c0 % 4).toNat ≤ 3 := by omega
  generalize (a0 % 4).toNat = A at hA lA
  generalize (b0 % 4).toNat = B at hB lB
  generalize (c0 % 4).toNat = C at hC lC
  obtain ⟨b, bi, hbd, hbe, hbi, HV⟩ : ∃ (b : Nat) (bi : Int), Hid (d = true → b = 0) ∧ Hid (d = false → b = 65534 + B) ∧ Hid ((d = true → bi = 0) ∧ (d = false → bi = 65534 + (B : Int))) ∧ Hid (∀ W, Calls Try.prog 17 #[.string ⟨#[118]⟩, .int .i64 bi] W fun e w' => e = .returned (.string (rep 118 b)) ∧ Below W.heap.size W w') := by
    cases d
    · exact ⟨65534 + B, 65534 + (B : Int), Lib.hid (fun h => by cases h), Lib.hid (fun _ => rfl), Lib.hid ⟨fun h => (by cases h), fun _ => rfl⟩, Lib.hid fun W => repV _ W (by omega) _ (by omega)⟩
    · exact ⟨0, 0, Lib.hid (fun _ => rfl), Lib.hid (fun h => by cases h), Lib.hid ⟨fun _ => rfl, fun h => (by cases h)⟩, Lib.hid fun W => repV _ W (by omega) _ rfl⟩
  have HK := Lib.hid (fun W => repK (126 + A) W (by omega) (126 + (A : Int)) (by omega))
  have hks := rep_size 107 (126 + A)
  have hvs := rep_size 118 b
  have hb5 : b ≤ 65537 := by
    cases d
    · have := hbe.out rfl; omega
    · have := hbd.out rfl; omega
  generalize rep 107 (126 + A) = K at HK hks
  generalize rep 118 b = V at HV hvs
  obtain ⟨x, hx⟩ : ∃ x : Ent, x = ⟨K, 72057594037927934 + C, d, V⟩ := ⟨_, rfl⟩
  have hxo : x.ok := by rw [hx]; exact ⟨by show 72057594037927934 + C < _; omega, by show K.size ≤ _; omega, by show V.size ≤ _; omega⟩
  have hck : x.check = if 1 < C then 1 else if 128 < 126 + A ∨ 65536 < b then 6 else 0 := by
    rw [hx]
    unfold Ent.check
    simp only [hks, hvs]
    have hdv : ¬ (d = true ∧ b ≠ 0) := fun h => h.2 (hbd.out h.1)
    by_cases h1 : 1 < C
    · rw [if_pos (.inr (.inl (by omega))), if_pos h1]
    · rw [if_neg (fun h => h.elim (fun h => by omega) (fun h => h.elim (fun h => by omega) hdv)), if_neg h1]
  have HCK := Lib.hid (fun W => check_any x hxo W)
  have HH := Lib.hid (head_any w)
  have HPUT := Lib.hid (fun wq => entPut_any x hxo (by rw [hx]; show K.size ≤ _; omega) (by rw [hx]; show V.size ≤ _; omega) (.slice none 0 0) [] wq wq (gr_nil _ _ _) (Below.refl _ _) (by simp))
  have HXX := Lib.hid hx
  have HCC := Lib.hid hck
  clear hck hxo
  have hcl : x.cells.toArray = #[.string K, .int .u64 (72057594037927934 + (C : Int)), .bool d, .string V] := by rw [hx]; rfl
  have HCL := Lib.hid hcl
  clear hcl hx
  cases d
  all_goals
    (first
      | (have hbv := hbe.out rfl; have hbj := hbi.out.2 rfl)
      | (have hbv := hbd.out rfl; have hbj := hbi.out.1 rfl))
    subst hbj
    clear hbd hbe hbi
    go_enter Try.func8, Try.ntmps8
    go_wp2_with fail
    refine HH.out.mono ?_
    rintro e w1 ⟨rfl, hB1⟩
    have HB1 := Lib.hid hB1
    clear hB1
    go_wp2_with fail
    refine (HK.out w1).mono ?_
    rintro e w2 ⟨rfl, hB2⟩
    have HB2 := Lib.hid (below_then HB1.out HB1.out.size hB2)
    clear hB2
    go_wp2_with fail
    refine (HV.out w2).mono ?_
    rintro e w3 ⟨rfl, hB3⟩
    have HB3 := Lib.hid (below_then HB2.out HB2.out.size hB3)
    clear hB3 HV HK HH HB1 HB2
    go_upto_region 9 with fail
    rw [← HCL.out]
    have hx4 : (w3.alloc (.cells x.cells.toArray 24)).heap[w3.heap.size]? = some (.cells x.cells.toArray 24) := heap_alloc_new w3 _
    have hb4 := below_then HB3.out HB3.out.size (below_alloc (Below.refl w3.heap.size w3) (.cells x.cells.toArray 24))
    generalize w3.alloc (.cells x.cells.toArray 24) = w4 at hx4 hb4 ⊢
    generalize w3.heap.size = p at hx4 ⊢
    have HX4 := Lib.hid hx4
    have HB4 := Lib.hid hb4
    clear hx4 hb4 HB3
    have HI24 : Hid ((Try.prog.info? 24).map (·.size) = some x.cells.length) := Lib.hid (by show _ = some 4; kernel_rfl)
    by_cases h1 : 1 < C
    · by_cases hA2 : 128 < 126 + A
      · by_cases hB2 : 65536 < b
        · (try (exfalso; omega))
          all_goals
            have hce : ((x.check : Nat) : Int) = 1 := by rw [HCC.out, if_pos h1]; rfl
            go_wp2_with (refine wpList_load_box rfl 24 (.tmp 10) rfl p x.cells rfl HX4.out Try.underlying24 rfl HI24.out ?_)
            refine (HCK.out w4).mono ?_
            rintro e w5 ⟨rfl, hB5⟩
            have HB5 := Lib.hid (below_then HB4.out HB4.out.size hB5)
            clear hB5
            rw [hce]
            go_wp2_with fail
            go_ret
            exact ⟨rfl, HB5.out⟩
        · (try (exfalso; omega))
          all_goals
            have hce : ((x.check : Nat) : Int) = 1 := by rw [HCC.out, if_pos h1]; rfl
            go_wp2_with (refine wpList_load_box rfl 24 (.tmp 10) rfl p x.cells rfl HX4.out Try.underlying24 rfl HI24.out ?_)
            refine (HCK.out w4).mono ?_
            rintro e w5 ⟨rfl, hB5⟩
            have HB5 := Lib.hid (below_then HB4.out HB4.out.size hB5)
            clear hB5
            rw [hce]
            go_wp2_with fail
            go_ret
            exact ⟨rfl, HB5.out⟩
      · by_cases hB2 : 65536 < b
        · (try (exfalso; omega))
          all_goals
            have hce : ((x.check : Nat) : Int) = 1 := by rw [HCC.out, if_pos h1]; rfl
            go_wp2_with (refine wpList_load_box rfl 24 (.tmp 10) rfl p x.cells rfl HX4.out Try.underlying24 rfl HI24.out ?_)
            refine (HCK.out w4).mono ?_
            rintro e w5 ⟨rfl, hB5⟩
            have HB5 := Lib.hid (below_then HB4.out HB4.out.size hB5)
            clear hB5
            rw [hce]
            go_wp2_with fail
            go_ret
            exact ⟨rfl, HB5.out⟩
        · (try (exfalso; omega))
          all_goals
            have hce : ((x.check : Nat) : Int) = 1 := by rw [HCC.out, if_pos h1]; rfl
            go_wp2_with (refine wpList_load_box rfl 24 (.tmp 10) rfl p x.cells rfl HX4.out Try.underlying24 rfl HI24.out ?_)
            refine (HCK.out w4).mono ?_
            rintro e w5 ⟨rfl, hB5⟩
            have HB5 := Lib.hid (below_then HB4.out HB4.out.size hB5)
            clear hB5
            rw [hce]
            go_wp2_with fail
            go_ret
            exact ⟨rfl, HB5.out⟩
    · by_cases hA2 : 128 < 126 + A
      · by_cases hB2 : 65536 < b
        · (try (exfalso; omega))
          all_goals
            have hce : ((x.check : Nat) : Int) = 6 := by rw [HCC.out, if_neg h1, if_pos (by omega)]; rfl
            go_wp2_with (refine wpList_load_box rfl 24 (.tmp 10) rfl p x.cells rfl HX4.out Try.underlying24 rfl HI24.out ?_)
            refine (HCK.out w4).mono ?_
            rintro e w5 ⟨rfl, hB5⟩
            have HB5 := Lib.hid (below_then HB4.out HB4.out.size hB5)
            clear hB5
            rw [hce]
            go_wp2_with fail
            go_ret
            exact ⟨rfl, HB5.out⟩
        · (try (exfalso; omega))
          all_goals
            have hce : ((x.check : Nat) : Int) = 6 := by rw [HCC.out, if_neg h1, if_pos (by omega)]; rfl
            go_wp2_with (refine wpList_load_box rfl 24 (.tmp 10) rfl p x.cells rfl HX4.out Try.underlying24 rfl HI24.out ?_)
            refine (HCK.out w4).mono ?_
            rintro e w5 ⟨rfl, hB5⟩
            have HB5 := Lib.hid (below_then HB4.out HB4.out.size hB5)
            clear hB5
            rw [hce]
            go_wp2_with fail
            go_ret
            exact ⟨rfl, HB5.out⟩
      · by_cases hB2 : 65536 < b
        · (try (exfalso; omega))
          all_goals
            have hce : ((x.check : Nat) : Int) = 6 := by rw [HCC.out, if_neg h1, if_pos (by omega)]; rfl
            go_wp2_with (refine wpList_load_box rfl 24 (.tmp 10) rfl p x.cells rfl HX4.out Try.underlying24 rfl HI24.out ?_)
            refine (HCK.out w4).mono ?_
            rintro e w5 ⟨rfl, hB5⟩
            have HB5 := Lib.hid (below_then HB4.out HB4.out.size hB5)
            clear hB5
            rw [hce]
            go_wp2_with fail
            go_ret
            exact ⟨rfl, HB5.out⟩
        · have hc0 : x.check = 0 := by rw [HCC.out, if_neg h1, if_neg (by omega)]
          have hce : ((x.check : Nat) : Int) = 0 := by rw [hc0]; rfl
          go_wp2_with (refine wpList_load_box rfl 24 (.tmp 10) rfl p x.cells rfl HX4.out Try.underlying24 rfl HI24.out ?_)
          refine (HCK.out w4).mono ?_
          rintro e w5 ⟨rfl, hB5⟩
          have HB5 := Lib.hid (below_then HB4.out HB4.out.size hB5)
          have HX5 := Lib.hid (box_below HX4.out hB5)
          have HCE := Lib.hid hce
          have hge : getE x.putL = (x, x.putL.length, 0) := by have := getE_putL hc0 []; rwa [List.append_nil] at this
          have hsm := putL_small hc0
          have HGE := Lib.hid hge
          clear hB5 HX4 HB4
          rw [hce]
          clear hce hge hc0 hA2 hB2 h1
          go_wp2_with (refine wpList_load_box rfl 24 (.tmp 10) rfl p x.cells rfl HX5.out Try.underlying24 rfl HI24.out ?_)
          refine (HPUT.out w5).mono ?_
          rintro e w6 ⟨v6, rfl, hA6⟩
          obtain ⟨A6, n6, c6, rfl, h6c, HL6, h6m, hr6⟩ := gr_open hA6.own
          rw [List.nil_append] at hr6 HL6
          have hg6 := get_ent_any A6 n6 c6 x.putL w6 hr6 HL6.out (by have := HL6.out; omega) h6c (putL_byte x)
          rw [HGE.out] at hg6
          have HG6 := Lib.hid hg6
          have HB6 := Lib.hid (below_then HB5.out HB5.out.size hA6.bel)
          have HX6 := Lib.hid (box_below HX5.out hA6.bel)
          clear hg6 hr6 hA6 HX5 HB5
          go_wp2_with fail
          refine HG6.out.mono ?_
          rintro e w7 ⟨rfl, hB7⟩
          have HB7 := Lib.hid (below_then HB6.out HB6.out.size hB7)
          have HX7 := Lib.hid (box_below HX6.out hB7)
          clear hB7 HB6 HX6 HG6
          go_upto_region 19 with (refine wpList_store_box rfl 24 (.tmp 12) (.tmp 54) rfl w7.heap.size x.cells rfl rfl (heap_alloc_new w7 _) rfl HI24.out rfl ?_; intro w8 hs8; have HS8 := Lib.hid hs8; clear hs8)
          have hb8 : Below w7.heap.size w7 w8 := HS8.out.then_ (below_alloc (Below.refl _ _) _) (Nat.le_refl _)
          have HB8 := Lib.hid (below_then HB7.out HB7.out.size hb8)
          have HX8 := Lib.hid (box_below HX7.out hb8)
          have HY8 := Lib.hid HS8.out.at_
          have hlen : (([] : List Int) ++ x.putL).length = x.putL.length := by simp
          have HLEN := Lib.hid hlen
          have heq : x.eqb x = true := by unfold Ent.eqb; simp
          have HEQ := Lib.hid heq
          clear hb8 HS8 HB7 HX7 hlen heq
          generalize w7.heap.size = q8 at HY8 ⊢
          have hn6 : (n6 : Int) = (x.putL.length : Int) := by rw [HL6.out]
          refine plain_ (fun wq => Below w8.heap.size w8 wq) (fun _ => True) reg_8_19 rfl inv0 (fun _ _ _ _ => trivial) (Below.refl _ _) trivial ?_
          refine w_move (.inl rfl) (fun vs w hK => ⟨wants_none rfl, rho_out rfl rfl⟩) ?_
          refine w_val [(57, _)] (_) (fun vs w hK => ⟨wants_none rfl, rho_in rfl (fv (hK 0 (by decide))), trivial⟩) rfl (fun wq hI => by exact run_int_eql rfl rfl rfl rfl) ?_
          refine w_as (c' := .bool true) (rfl) ?_
          refine w_move (.inl rfl) (fun vs w hK => ⟨wants_none rfl, rho_in rfl (fv (hK 1 (by decide)))⟩) ?_
          refine w_valG [(12, _)] (_) (fun vs w hK => wantsT rfl (fv (hK 2 (by decide)))) (fun hG vs w hK => ⟨(rho_out rfl rfl), trivial⟩) rfl (fun hG wq hI => by exact run_load_op rfl rfl (load_ent (box_below HY8.out hI))) ?_
          refine w_valG [(10, _)] (_) (fun vs w hK => wantsT rfl (fv (hK 2 (by decide)))) (fun hG vs w hK => ⟨(rho_out rfl rfl), trivial⟩) rfl (fun hG wq hI => by exact run_load_op rfl rfl (load_ent (box_below HX8.out hI))) ?_
          refine w_valG [(60, _), (61, _)] (_) (fun vs w hK => wantsT rfl (fv (hK 2 (by decide)))) (fun hG vs w hK => ⟨(rho_in rfl (fvg (hK 3 (by decide)) hG)), (rho_in rfl (fvg (hK 4 (by decide)) hG)), trivial⟩) rfl (fun hG wq hI => by exact op_ent_eql rfl rfl rfl HEQ.out) ?_
          refine w_and rfl (fun vs w hK => wants_none rfl) (fun vs w hK => (rho_in rfl (fv (hK 2 (by decide))))) (fun hB vs w hK => (rho_in rfl (fvg (hK 5 (by decide)) hB))) ?_
          refine w_as (c' := .bool true) (rfl) ?_
          refine w_move (.inl rfl) (fun vs w hK => ⟨wants_none rfl, rho_in rfl (fv (hK 6 (by decide)))⟩) ?_
          refine w_moveG (.inl rfl) (fun vs w hK => wantsT rfl (fv (hK 7 (by decide)))) (fun hG vs w hK => (rho_out rfl rfl)) ?_
          refine w_valG [(10, _)] (_) (fun vs w hK => wantsT rfl (fv (hK 7 (by decide)))) (fun hG vs w hK => ⟨(rho_out rfl rfl), trivial⟩) rfl (fun hG wq hI => by exact run_load_op rfl rfl (load_ent (box_below HX8.out hI))) ?_
          refine w_any (FW.new .u8 5 w8 ([] ++ x.putL)) (.inl rfl) (fun vs wq hI hK => ?_) ?_
          · refine ob_call [(66, _)] _ (wants_g rfl (fv (hK 7 (by decide)))) ⟨rho_in rfl (fvg (hK 9 (by decide)) rfl), trivial⟩ rfl rfl Try.func15 (by kernel_rfl) rfl (margs rfl) ((HPUT.out wq).mono ?_)
            rintro e w9 ⟨v9, rfl, hA⟩
            exact ⟨v9, rfl, hA.bel, ⟨gr_lower hA.own hI.size, below_then hI hI.size hA.bel⟩⟩
          refine w_any (FW.val (.int .i64 ((x.putL.length : Nat) : Int))) (.inl rfl) (fun vs wq hI hK => ?_) ?_
          · have hA : New .u8 5 w8 ([] ++ x.putL) (vs 10) wq := hK 10 (by decide)
            obtain ⟨A9, n9, c9, e9, h9c, HL9, h9m, hr9⟩ := gr_open hA.own
            exact ob_run [(67, _)] (wants_g rfl (fv (hK 7 (by decide)))) ⟨rho_in rfl e9, trivial⟩ rfl (run_len_sl rfl Try.underlying33 rfl (by rw [← HL9.out, HLEN.out])) ⟨Below.refl _ _, rfl⟩
          refine w_valG [(65, _), (68, _)] (_) (fun vs w hK => wantsT rfl (fv (hK 7 (by decide)))) (fun hG vs w hK => ⟨(rho_in rfl (fvg (hK 8 (by decide)) hG)), (rho_in rfl (fv (hK 11 (by decide)))), trivial⟩) rfl (fun hG wq hI => by exact run_int_eql rfl rfl rfl (r := true) (by simp)) ?_
          refine w_and rfl (fun vs w hK => wants_none rfl) (fun vs w hK => (rho_in rfl (fv (hK 7 (by decide))))) (fun hB vs w hK => (rho_in rfl (fvg (hK 12 (by decide)) hB))) ?_
          refine w_as (c' := .bool true) (rfl) ?_
          refine w_move (.inr rfl) (fun vs w hK => ⟨wants_none rfl, rho_in rfl (fv (hK 13 (by decide)))⟩) ?_
          refine w_endM [false, false, false, false, false, false, false, false, false, false, false, false, false, false, true] rfl rfl rfl (fun vs wq hI hF => ?_)
          simp only [List.reverse_cons, List.reverse_nil, List.nil_append, List.cons_append, finL_val, finL_of, finL_any, finL_app, finL_new, finL_gr, finL_row, finL_box, finL_nil, Act.put, List.setIfInBounds_toArray, List.set_cons_zero, List.set_cons_succ, Nat.reduceAdd, maskF, finL_imp, Bool.not_false, Bool.not_true, Bool.true_and, Bool.false_and]
          have HB9 := Lib.hid (below_then HB8.out HB8.out.size hI)
          clear hI hF
          go_wp2_with fail
          go_ret
          exact ⟨rfl, HB9.out⟩
end Go.Proofs.Ytgnicgcdhldmmaa.Key

