/- The laws' helpers of layer 12: head, big, same; what All and Make tell of a page. -/
import Derived.Test.YtnkeijdpjcclcaaPgE
import Derived.Test.YtnkeijdpjcclcaaWEqStruct
namespace Go.Proofs.Ytnkeijdpjcclcaa.Pg
set_option linter.unusedVariables false
set_option linter.unusedSimpArgs false
open Go.Proofs.Ytnkeijdpjcclcaa.Kit Go.Proofs.Ytnkeijdpjcclcaa.Num Go.RowKit Go.Proofs.YtnkeijdpjcclcaaW.PrintWords Go.Proofs.YtnkeijdpjcclcaaW.PrintLast Go.Proofs.YtnkeijdpjcclcaaW.PrintMore NumPure
theorem nn_inj {ps qs : List PB} (h : nn ps = nn qs) : ps = qs := by
  unfold nn at h
  induction ps generalizing qs with
  | nil =>
    cases qs with
    | nil => rfl
    | cons q qs => simp at h
  | cons p ps ih =>
    cases qs with
    | nil => simp at h
    | cons q qs =>
      simp only [List.map_cons, List.cons.injEq, Prod.mk.injEq] at h
      obtain ⟨⟨h1, h2⟩, h3⟩ := h
      rw [ih h3, show p = q from Prod.ext (numsOf_inj h1) (numsOf_inj h2)]
/-- All of a page: its pairs. -/
theorem all_page (bv wv : Value) (ps : List PB) (w : World) (B : Nat) (hg : Good (nn ps) ps.length) (h1 : Gr .u8 5 w B bv (bodyAt (nn ps) ps.length)) {B2 : Nat} {ws : List Int} (h2 : Gr .i64 3 w B2 wv ws) :
    Calls Try.prog 21 #[.agg #[bv, wv]] w fun e w' => ∃ v, e = .returned v ∧ OwnK encP 2 30 w' w.heap.size v ps ∧ Below w.heap.size w w' := by
  obtain ⟨Ab, nb, cb, rfl, hbc, HLb, hbm, hrb⟩ := gr_open h1
  obtain ⟨Aw, nw, cw, rfl, _⟩ := gr_open h2
  have hg' : Good (nn ps) (nn ps).length := by rw [nn_length]; exact hg
  have hbf := body_fit hg
  have hl := HLb.out
  have hby : Byte (bodyAt (nn ps) ps.length) := by
    have := (page_byte (nn_byte ps)).take (bodyAt (nn ps) ps.length).length
    rw [show pageOf (nn ps) = bodyAt (nn ps) (nn ps).length ++ (wholeAt (nn ps) (nn ps).length ++ le (cntAt (nn ps).length) 4) by unfold pageOf; rw [List.append_assoc], nn_length, List.take_left] at this
    exact this
  have hch := page_chain hg'
  rw [nn_length] at hch
  refine (all_any Ab nb cb Aw nw cw _ w hrb hby hbc (by omega)).mono ?_
  rintro e w' ⟨hb, v, rfl, hp⟩
  rcases hp with ⟨a, last, ps2, k1, k2, k3⟩ | ⟨_, a, last, out, k1, k2, k3⟩
  · have := (chain_end k1 hch (.inl k2) (.inl (Nat.le_refl _))).2.2
    obtain rfl := nn_inj this
    exact ⟨v, rfl, k3, hb⟩
  · have := (chain_end k1 hch (.inr k3) (.inl (Nat.le_refl _))).1
    omega
/-- Make of a page's pairs: the page. -/
theorem make_page (A : Option Addr) (n c : Nat) (ps : List PB) (w : World) (hr : Sts encP 2 w A n ps) (hg : Good (nn ps) ps.length) (hsz : ∀ p ∈ ps, p.1.size ≤ 1000000 ∧ p.2.size ≤ 1000000) :
    Calls Try.prog 16 #[.slice A n c] w fun e w' => ∃ v, e = .returned (.tuple #[v, .int .i64 0]) ∧ Gr .u8 5 w' w.heap.size v (pageOf (nn ps)) ∧ Below w.heap.size w w' := by
  have h1 := body_len (nn ps) ps.length
  have h2 := body_fit hg
  refine (make_any A n c ps w hr (by rw [← hr.len]; omega) hsz).mono ?_
  rintro e w' ⟨hb, v, ex, rfl, hp⟩
  rcases hp with ⟨rfl, _, k⟩ | ⟨_, _, k, hk, _, h⟩ | ⟨_, _, k, hk, _, _, h⟩
  · exact ⟨v, rfl, k, hb⟩
  · exact absurd (hg k (by rwa [nn_length] at hk)).1 h
  · exact absurd (hg k (by rwa [nn_length] at hk)).2 h
theorem toList_beq (a b : ByteArray) : (a.toList == b.toList) = decide (a = b) := by
  rw [Bool.eq_iff_iff, beq_iff_eq, decide_eq_true_iff]
  exact ⟨fun h => numsOf_inj (by unfold numsOf; rw [h]), fun h => by rw [h]⟩
theorem pair_equalIn (d : Nat) (p q : PB) (w : World) : (Op.equalIn (d + 1 + 1) 30 (.agg (encP p).toArray) (.agg (encP q).toArray)).run Try.prog w = .ok (decide (p = q)) w := by
  obtain ⟨a, b⟩ := p
  obtain ⟨a2, b2⟩ := q
  have e : decide ((a, b) = (a2, b2)) = (decide (a = a2) && decide (b = b2)) := by
    rw [Bool.eq_iff_iff]; simp
  rw [e, ← toList_beq, ← toList_beq]
  change (Op.equalIn (d + 1 + 1) 30 (.agg #[.string a, .string b]) (.agg #[.string a2, .string b2])).run Try.prog w = _
  refine eqA_of Try.underlying30 (by kernel_rfl) (eqf_cons rfl ?_ ?_ (run_equalIn_string w d 9 a a2 Try.underlying9) (eqf_last rfl ?_ ?_ (run_equalIn_string w d 9 b b2 Try.underlying9)))
  all_goals go_simp
theorem op_pair_neq {o : Oper} {l : List (Nat × Value)} {x y : Operand} {m : Nat} {p q : PB} {r : Bool} {w : World} (ho : o.op = .binOp .neq 30 x y m) (hx : lk l x = .agg (encP p).toArray) (hy : lk l y = .agg (encP q).toArray) (h : (!decide (p = q)) = r) : (execOp (lk l) o).run Try.prog w = .ok (.value (.bool r)) w := by
  subst h
  exact op_agg_neq ho hx hy (by kernel_rfl) (pair_equalIn 9998 p q w)
theorem reg_20_6 : RegOk (opsOf Try.f20 6) [[], [], [0, 1], [0, 1, 2], [], [], [4, 5], [4, 5, 6], [0, 1, 2, 3, 4, 5, 6, 7]] [] [some 16, some 17, some 18, some 19, some 20, some 21, some 22, some 23, some 24] := regOk (by kernel_rfl)
set_option maxRecDepth 20000 in
set_option maxHeartbeats 1600000 in
theorem same_any (A : Option Addr) (n c : Nat) (A2 : Option Addr) (n2 c2 : Nat) (ps qs : List PB) (w : World) (h1 : Sts encP 2 w A n ps) (h2 : Sts encP 2 w A2 n2 qs) :
    Calls Try.prog 20 #[.slice A n c, .slice A2 n2 c2] w fun e w' => e = .returned (.bool (decide (ps = qs))) ∧ Below w.heap.size w w' := by
  have HL1 := Lib.hid h1.len
  have HL2 := Lib.hid h2.len
  have H1 := Lib.hid h1
  have H2 := Lib.hid h2
  have hm := h1.max
  clear h1 h2
  by_cases hne : n = n2
  · subst hne
    have t0 : (((n : Nat) : Int) != ((n : Nat) : Int)) = false := by simp
    go_enter Try.func20, Try.ntmps20
    go_wp2_with fail
    go_loopw [13] (fun i wr => ∃ k : Nat, k ≤ n ∧ i = .int .i64 k ∧ Hid (∀ j, j < k → ps[j]? = qs[j]?) ∧ Hid (Below w.heap.size w wr)) (fun i _ => n - (intOf i).toNat)
    case atStart => exact ⟨0, by omega, rfl, Lib.hid (fun j hj => absurd hj (by omega)), Lib.hid (Below.refl _ _)⟩
    case round =>
      obtain ⟨k, hk, rfl, HE, HW⟩ := hrel
      by_cases hlt : k < n
      · have t1 : decide ((k : Int) < (n : Int)) = true := decide_eq_true (by omega)
        obtain ⟨ad, rfl, hc1⟩ := (sts_below H1.out HW.out).row (by omega)
        obtain ⟨ad2, rfl, hc2⟩ := (sts_below H2.out HW.out).row (by omega)
        obtain ⟨p, hp⟩ : ∃ p : PB, ps[k]? = some p := ⟨_, List.getElem?_eq_getElem (by rw [HL1.out]; exact hlt)⟩
        obtain ⟨q, hq⟩ : ∃ p : PB, qs[k]? = some p := ⟨_, List.getElem?_eq_getElem (by rw [HL2.out]; exact hlt)⟩
        have HC1 := Lib.hid (hc1 k p hp)
        have HC2 := Lib.hid (hc2 k q hq)
        have HP := Lib.hid hp
        have HQ := Lib.hid hq
        obtain ⟨D, hD⟩ : ∃ D, (!decide (p = q)) = D := ⟨_, rfl⟩
        have HD := Lib.hid hD
        clear hc1 hc2 hp hq hD
        go_upto_region 6 with fail
        refine draws_ (fun wq => Below wr.heap.size wr wq) (fun _ => True) (by kernel_rfl) reg_20_6 rfl inv0 (fun _ _ _ _ => trivial) (below_drew (Below.refl _ _)) trivial ?_
        refine w_move (.inl rfl) (fun vs w hK => ⟨wants_none rfl, rho_out rfl rfl⟩) ?_
        refine w_move (.inl rfl) (fun vs w hK => ⟨wants_none rfl, rho_out rfl rfl⟩) ?_
        refine w_val [(16, _), (17, _)] (_) (fun vs w hK => ⟨wants_none rfl, rho_in rfl (fv (hK 0 (memE rfl))), rho_in rfl (fv (hK 1 (memE rfl))), trivial⟩) rfl (fun wq hI => by exact op_index_st sts22 rfl rfl rfl rfl hlt) ?_
        refine w_val [(18, _)] (.agg (encP p).toArray) (fun vs w hK => ⟨wants_none rfl, rho_in rfl (fv (hK 2 (memE rfl))), trivial⟩) rfl (fun wq hI => by exact op_load_at rfl _ (encP p) rfl (fun j v hv => below_cell hI (HC1.out j v hv)) Try.underlying30 rfl info30) ?_
        refine w_move (.inl rfl) (fun vs w hK => ⟨wants_none rfl, rho_out rfl rfl⟩) ?_
        refine w_move (.inl rfl) (fun vs w hK => ⟨wants_none rfl, rho_out rfl rfl⟩) ?_
        refine w_val [(20, _), (21, _)] (_) (fun vs w hK => ⟨wants_none rfl, rho_in rfl (fv (hK 4 (memE rfl))), rho_in rfl (fv (hK 5 (memE rfl))), trivial⟩) rfl (fun wq hI => by exact op_index_st sts22 rfl rfl rfl rfl hlt) ?_
        refine w_val [(22, _)] (.agg (encP q).toArray) (fun vs w hK => ⟨wants_none rfl, rho_in rfl (fv (hK 6 (memE rfl))), trivial⟩) rfl (fun wq hI => by exact op_load_at rfl _ (encP q) rfl (fun j v hv => below_cell hI (HC2.out j v hv)) Try.underlying30 rfl info30) ?_
        refine w_val [(19, _), (23, _)] (_) (fun vs w hK => ⟨wants_none rfl, rho_in rfl (fv (hK 3 (memE rfl))), rho_in rfl (fv (hK 7 (memE rfl))), trivial⟩) rfl (fun wq hI => by exact op_pair_neq rfl rfl rfl HD.out) ?_
        refine w_end rfl rfl rfl (fun vs wq hI hF => ?_)
        simp only [List.reverse_cons, List.reverse_nil, List.nil_append, List.cons_append, finL_val, finL_of, finL_any, finL_app, finL_new, finL_gr, finL_row, finL_box, finL_nil, Act.put, List.setIfInBounds_toArray, List.set_cons_zero, List.set_cons_succ, Nat.reduceAdd]
        have HW2 := Lib.hid (below_then HW.out HW.out.size hI)
        clear hI hF HC1 HC2
        cases D with
        | true =>
          have HF : Hid (decide (ps = qs) = false) := Lib.hid (decide_eq_false (fun h => by
            have h1 := HD.out
            have h2 := HP.out
            rw [h, HQ.out] at h2
            injection h2 with h2
            rw [h2] at h1
            simp at h1))
          go_wp2_with fail
          go_ret
          exact ⟨by rw [HF.out]; rfl, HW2.out⟩
        | false =>
          have hpq : p = q := by have := HD.out; simpa using this
          subst hpq
          have HE2 : Hid (∀ j, j < k + 1 → ps[j]? = qs[j]?) := Lib.hid (fun j hj => by
            rcases Nat.lt_or_ge j k with g | g
            · exact HE.out j g
            · obtain rfl : j = k := by omega
              rw [HP.out, HQ.out])
          go_wp2_with fail
          go_roundw
          case rel => exact ⟨k + 1, by omega, by go_num, HE2, HW2⟩
          case measure => simp [intOf]; omega
      · obtain rfl : k = n := by omega
        have HF : Hid (decide (ps = qs) = true) := Lib.hid (decide_eq_true (List.ext_getElem? fun i => by
          rcases Nat.lt_or_ge i k with g | g
          · exact HE.out i g
          · rw [List.getElem?_eq_none (by rw [HL1.out]; exact g), List.getElem?_eq_none (by rw [HL2.out]; exact g)]))
        go_wp2_with fail
        go_ret
        exact ⟨by rw [HF.out]; rfl, HW.out⟩
  · have t0 : (((n : Nat) : Int) != ((n2 : Nat) : Int)) = true := by simp only [bne_iff_ne]; omega
    have HF : Hid (decide (ps = qs) = false) := Lib.hid (decide_eq_false (fun h => by
      have := HL1.out
      rw [h, HL2.out] at this
      exact hne this.symm))
    clear hne
    go_enter Try.func20, Try.ntmps20
    go_wp2_with fail
    go_ret
    exact ⟨by rw [HF.out]; rfl, Below.refl _ _⟩
theorem reg_15_6 : RegOk (opsOf Try.f15 6) [[], [0], [0, 1], [0, 1, 2], [0, 1, 2, 3], [0, 1, 2, 3, 4], [0, 1, 2, 3, 4, 5], [0, 1, 2, 3, 4, 5, 6], [0, 1, 2, 3, 4, 5, 6, 7], [0, 1, 2, 3, 4, 5, 6, 7, 8]] [] [some 14, some 15, some 16, some 17, some 18, some 19, some 20, some 21, some 22, some 23] := regOk (by kernel_rfl)
set_option maxRecDepth 20000 in
set_option maxHeartbeats 1600000 in
theorem big_any (A : Option Addr) (n c : Nat) (ps : List PB) (w : World) (hr : Sts encP 2 w A n ps) :
    Calls Try.prog 15 #[.slice A n c] w fun e w' => ∃ B, e = .returned (.bool B) ∧ Below w.heap.size w w' ∧ (B = false → n ≤ 60 ∧ ∀ p ∈ ps, p.1.size ≤ 300 ∧ p.2.size ≤ 300) := by
  have HL := Lib.hid hr.len
  have HR := Lib.hid hr
  have hm := hr.max
  clear hr
  by_cases hbig : 60 < n
  · have t0 : decide ((60 : Int) < (n : Int)) = true := decide_eq_true (by omega)
    clear hbig
    go_enter Try.func15, Try.ntmps15
    go_wp2_with fail
    go_ret
    exact ⟨true, rfl, Below.refl _ _, fun h => by cases h⟩
  · have t0 : decide ((60 : Int) < (n : Int)) = false := decide_eq_false (by omega)
    go_enter Try.func15, Try.ntmps15
    go_wp2_with fail
    go_loopw [10] (fun i wr => ∃ k : Nat, k ≤ n ∧ i = .int .i64 k ∧ Hid (∀ p ∈ ps.take k, p.1.size ≤ 300 ∧ p.2.size ≤ 300) ∧ Hid (Below w.heap.size w wr)) (fun i _ => n - (intOf i).toNat)
    case atStart => exact ⟨0, by omega, rfl, Lib.hid (fun p hp => by simp at hp), Lib.hid (Below.refl _ _)⟩
    case round =>
      obtain ⟨k, hk, rfl, HE, HW⟩ := hrel
      by_cases hlt : k < n
      · have t1 : decide ((k : Int) < (n : Int)) = true := decide_eq_true (by omega)
        obtain ⟨ad, rfl, hc1⟩ := (sts_below HR.out HW.out).row (by omega)
        obtain ⟨⟨nm, vl⟩, hp⟩ : ∃ p : PB, ps[k]? = some p := ⟨_, List.getElem?_eq_getElem (by rw [HL.out]; exact hlt)⟩
        have hcell := hc1 k _ hp
        have HTK : Hid (ps.take (k + 1) = ps.take k ++ [(nm, vl)]) := Lib.hid (by
          rw [List.take_succ_eq_append_getElem (by rw [HL.out]; exact hlt)]
          rw [List.getElem?_eq_getElem (by rw [HL.out]; exact hlt)] at hp
          injection hp with hp
          rw [hp])
        obtain ⟨D, hD⟩ : ∃ D, (decide (((nm.size : Nat) : Int) > 300) || decide (((vl.size : Nat) : Int) > 300)) = D := ⟨_, rfl⟩
        have HD := Lib.hid hD
        clear hc1 hp hD
        go_upto_region 6 with (first
          | (refine wpList_index_st rfl 22 _ _ rfl sts22 rfl rfl rfl hlt ?_)
          | (refine wpList_load_at rfl 30 _ rfl _ [.string nm, .string vl] rfl hcell Try.underlying30 rfl info30 ?_)
          | (refine wpList_store_box rfl 30 (.tmp 4) (.tmp 13) rfl wr.heap.size [.string nm, .string vl] rfl rfl (heap_alloc_new wr _) rfl info30 rfl ?_; intro w1 hs1; have HS1 := Lib.hid hs1; clear hs1))
        have HX1 := Lib.hid HS1.out.at_
        have HW1 := Lib.hid (below_then HW.out HW.out.size (HS1.out.then_ (below_alloc (Below.refl _ _) _) (Nat.le_refl _)))
        clear HS1 hcell
        generalize wr.heap.size = b1 at HX1 ⊢
        refine plain_ (fun wq => Below w1.heap.size w1 wq) (fun _ => True) reg_15_6 rfl inv0 (fun _ _ _ _ => trivial) (Below.refl _ _) trivial ?_
        refine w_val [(4, _)] _ (fun vs w hK => ⟨wants_none rfl, rho_out rfl rfl, trivial⟩) rfl (fun wq hI => by simp only [execOp, Option.map_some, Option.map_none, lk_tmp, lk_const, lkT_cons, ↓reduceIte, Nat.reduceEqDiff]; go_simp; (first | done | rfl)) ?_
        refine w_val [(14, _)] (_) (fun vs w hK => ⟨wants_none rfl, rho_in rfl (fv (hK 0 (memE rfl))), trivial⟩) rfl (fun wq hI => by exact run_load_cell (ad := ⟨b1, 0, none⟩) (v := .string nm) rfl rfl rfl Try.underlying9 rfl (below_cell hI (by simp [World.cell?, HX1.out]))) ?_
        refine w_val [(15, _)] (_) (fun vs w hK => ⟨wants_none rfl, rho_in rfl (fv (hK 1 (memE rfl))), trivial⟩) rfl (fun wq hI => by exact run_len_str rfl Try.underlying9 rfl rfl) ?_
        refine w_val [(16, _)] (_) (fun vs w hK => ⟨wants_none rfl, rho_in rfl (fv (hK 2 (memE rfl))), trivial⟩) rfl (fun wq hI => by exact run_int_gtr rfl rfl rfl rfl) ?_
        refine w_move (.inl rfl) (fun vs w hK => ⟨wants_none rfl, rho_in rfl (fv (hK 3 (memE rfl)))⟩) ?_
        refine w_valG [(4, _)] (_) (fun vs w hK => wantsF rfl (fv (hK 4 (memE rfl)))) (fun hG vs w hK => ⟨(rho_out rfl rfl), trivial⟩) rfl (fun hG wq hI => by simp only [execOp, Option.map_some, Option.map_none, lk_tmp, lk_const, lkT_cons, ↓reduceIte, Nat.reduceEqDiff]; go_simp; (first | done | rfl)) ?_
        refine w_valG [(19, _)] (_) (fun vs w hK => wantsF rfl (fv (hK 4 (memE rfl)))) (fun hG vs w hK => ⟨(rho_in rfl (fvg (hK 5 (memE rfl)) hG)), trivial⟩) rfl (fun hG wq hI => by exact run_load_cell (ad := ⟨b1, 1, none⟩) (v := .string vl) rfl rfl rfl Try.underlying9 rfl (below_cell hI (by simp [World.cell?, HX1.out]))) ?_
        refine w_valG [(20, _)] (_) (fun vs w hK => wantsF rfl (fv (hK 4 (memE rfl)))) (fun hG vs w hK => ⟨(rho_in rfl (fvg (hK 6 (memE rfl)) hG)), trivial⟩) rfl (fun hG wq hI => by exact run_len_str rfl Try.underlying9 rfl rfl) ?_
        refine w_valG [(21, _)] (_) (fun vs w hK => wantsF rfl (fv (hK 4 (memE rfl)))) (fun hG vs w hK => ⟨(rho_in rfl (fvg (hK 7 (memE rfl)) hG)), trivial⟩) rfl (fun hG wq hI => by exact run_int_gtr rfl rfl rfl rfl) ?_
        refine w_or rfl (fun vs w hK => wants_none rfl) (fun vs w hK => (rho_in rfl (fv (hK 4 (memE rfl))))) (fun hB vs w hK => (rho_in rfl (fvg (hK 8 (memE rfl)) (gnot hB)))) ?_
        refine w_as (c' := .bool D) (congrArg Value.bool HD.out) ?_
        refine w_endM [false, false, false, false, false, false, false, false, false, true] rfl rfl rfl (fun vs wq hI hF => ?_)
        simp only [List.reverse_cons, List.reverse_nil, List.nil_append, List.cons_append, finL_val, finL_of, finL_any, finL_app, finL_new, finL_gr, finL_row, finL_box, finL_nil, Act.put, List.setIfInBounds_toArray, List.set_cons_zero, List.set_cons_succ, Nat.reduceAdd, maskF, finL_imp, Bool.not_false, Bool.not_true, Bool.true_and, Bool.false_and]
        have HW2 := Lib.hid (below_then HW1.out HW1.out.size hI)
        clear hI hF HX1 HW1
        cases D with
        | true =>
          go_wp2_with fail
          go_ret
          exact ⟨true, rfl, HW2.out, fun h => by cases h⟩
        | false =>
          have HE2 : Hid (∀ p ∈ ps.take (k + 1), p.1.size ≤ 300 ∧ p.2.size ≤ 300) := Lib.hid (fun p hp => by
            rw [HTK.out] at hp
            rcases List.mem_append.1 hp with hp | hp
            · exact HE.out p hp
            · rw [List.mem_singleton.1 hp]
              have h := HD.out
              rw [Bool.or_eq_false_iff] at h
              have h1 := of_decide_eq_false h.1
              have h2 := of_decide_eq_false h.2
              exact ⟨by show nm.size ≤ 300; omega, by show vl.size ≤ 300; omega⟩)
          go_wp2_with fail
          go_roundw
          case rel => exact ⟨k + 1, by omega, by go_num, HE2, HW2⟩
          case measure => simp [intOf]; omega
      · obtain rfl : k = n := by omega
        have HF : Hid (∀ p ∈ ps, p.1.size ≤ 300 ∧ p.2.size ≤ 300) := Lib.hid (by have := HE.out; rwa [List.take_of_length_le (by rw [HL.out]; omega)] at this)
        go_wp2_with fail
        go_ret
        exact ⟨false, rfl, HW.out, fun _ => ⟨by omega, HF.out⟩⟩
/-- The document's page. -/
def ps1 : List PB := [(⟨#[97]⟩, ⟨#[120]⟩)]
theorem nn1 : nn ps1 = [([97], [120])] := by
  have h1 : numsOf ⟨#[97]⟩ = [97] := by rw [numsOf_data]; rfl
  have h2 : numsOf ⟨#[120]⟩ = [120] := by rw [numsOf_data]; rfl
  simp only [ps1, nn, List.map_cons, List.map_nil, h1, h2]
theorem page0 : pageOf (nn []) = [0, 0, 0, 0] := rfl
theorem page1 : pageOf (nn ps1) = [0, 1, 1, 97, 120, 0, 0, 0, 0, 1, 0, 0, 0] := by
  rw [nn1]
  have h0 : put7 0 = [0] := put7_small (by omega)
  have h1 : put7 1 = [1] := put7_small (by omega)
  simp only [pageOf, List.length_cons, List.length_nil, bodyAt, wholeAt, rowOf, sameAt, nmAt, vlAt, cntAt, List.getD_cons_zero, h0, h1, Nat.zero_mod, if_true, List.drop_zero, Nat.sub_zero, Nat.zero_add, ↓reduceIte]
  rfl
theorem good1 : Good (nn ps1) ps1.length := by
  intro j hj
  have : j = 0 := by have : j < 1 := hj; omega
  subst this
  refine ⟨.inl rfl, ?_⟩
  have h := page_length (nn ps1)
  rw [page1] at h
  unfold Fit
  simp at h
  have h2 : (nn ps1).length = 1 := by rw [nn1]; rfl
  rw [h2] at h
  show (bodyAt (nn ps1) 1).length ≤ 262144
  omega
theorem str0 : strOfNums (pageOf (nn [])) = ⟨#[0, 0, 0, 0]⟩ := by rw [page0]; rfl
theorem str1 : strOfNums (pageOf (nn ps1)) = ⟨#[0, 1, 1, 97, 120, 0, 0, 0, 0, 1, 0, 0, 0]⟩ := by rw [page1]; rfl
theorem lit30 (a b : ByteArray) : Try.prog.built 30 [(0, .string a), (1, .string b)] = some [Value.string a, .string b].toArray := by kernel_rfl
end Go.Proofs.Ytnkeijdpjcclcaa.Pg

