/- The contracts of (page.Page).read and All. -/
import Derived.Test.YtnkeijdpjcclcaaPgC
namespace Go.Proofs.Ytnkeijdpjcclcaa.Pg
set_option linter.unusedVariables false
set_option linter.unusedSimpArgs false
open Go.Proofs.Ytnkeijdpjcclcaa.Kit Go.Proofs.Ytnkeijdpjcclcaa.Num Go.RowKit Go.Proofs.YtnkeijdpjcclcaaW.PrintWords Go.Proofs.YtnkeijdpjcclcaaW.PrintLast Go.Proofs.YtnkeijdpjcclcaaW.PrintMore NumPure
theorem et30 : EType Try.prog 22 30 2 32 (.agg #[.string ⟨#[]⟩, .string ⟨#[]⟩]) := ⟨Try.underlying22, by kernel_rfl, rfl, by decide⟩
theorem fill30 (a b : ByteArray) : Instr.fill (fun i => some (i * 2, 2)) ((Array.range (1 * 2)).map ((Value.agg #[.string ⟨#[]⟩, .string ⟨#[]⟩]).cells[· % (Value.agg #[.string ⟨#[]⟩, .string ⟨#[]⟩]).cells.size]!)) [(0, .agg [Value.string a, .string b].toArray)] = some [Value.string a, .string b].toArray := by
  simp [Instr.fill, Value.cells, Array.range]
  rfl
theorem box_cells {w : World} {g : Nat} {cs : List Value} {t : TypeId} {fr : Nat × Nat} (h : w.heap[g]? = some (.cells cs.toArray t fr)) : ∀ j v, cs[j]? = some v → w.cell? ((⟨g, 0, none⟩ : Addr).add j) = some v := by
  intro j v hv
  rw [Go.Proofs.YtnkeijdpjcclcaaW.PrintWords.add_plain]
  simp only [World.cell?, h]
  simpa using hv
/-- What read tells. -/
def ReadPost (xs : List Int) (st : Nat) (w : World) (e : Ending) (w' : World) : Prop := Below w.heap.size w w' ∧ ∃ (v : Value) (ex : Nat), e = .returned (.tuple #[v, .int .i64 ex]) ∧
  ((ex = 0 ∧ ∃ (a : Nat) (last : List Int) (ps : List PB), Chain xs st a last (nn ps) ∧ xs.length ≤ a ∧ OwnK encP 2 30 w' w.heap.size v ps) ∨
   (ex = 2 ∧ v = .slice none 0 0 ∧ ∃ (a : Nat) (last : List Int) (out : List PR), Chain xs st a last out ∧ a < xs.length ∧ oneP xs a last = none))
theorem reg_48_3 : RegOk (opsOf Try.f48 3) [[], [], [1], [1, 2], [0, 1, 2, 3], [0, 1, 2, 3, 4], [0, 1, 2, 3, 4, 5], [0, 1, 2, 3, 4, 5, 6], [0, 1, 2, 3, 4, 5], [0, 1, 2, 3, 4, 5, 6, 7, 8], [0, 1, 2, 3, 4, 5, 6, 7, 8, 9]] [] [some 13, some 14, some 15, some 16, some 17, some 18, some 19, some 20, some 21, some 22, some 23] := regOk (by kernel_rfl)
theorem reg_48_7 : RegOk (opsOf Try.f48 7) [[], [], [1], [0, 1, 2], [], [4], [], [0, 1, 2, 3], [0, 1, 2, 3, 4, 5, 7], [0, 1, 2, 3, 4, 5, 6, 7, 8]] [3, 7] [some 35, some 36, some 37, some 38, some 39, some 40, some 41, some 8, some 9, some 1] := regOk (by kernel_rfl)
set_option maxRecDepth 20000 in
set_option maxHeartbeats 3200000 in
theorem read_any (Ab : Option Addr) (nb cb : Nat) (Aw : Option Addr) (nw cw : Nat) (xs : List Int) (st : Nat) (w : World) (hr : Rds .u8 w Ab nb xs) (hb : Byte xs) (hnc : nb ≤ cb) (hn : nb ≤ 1000000) (ha : st ≤ nb) :
    Calls Try.prog 48 #[.agg #[.slice Ab nb cb, .slice Aw nw cw], .int .i64 (st : Nat), .int .i64 (-1)] w (ReadPost xs st w) := by
  have hxl := rds_len hr
  have HR := Lib.hid hr
  have HB := Lib.hid hb
  have HXL := Lib.hid hxl
  go_enter Try.func48, Try.ntmps48
  go_wp2_with fail
  have hx1 : (w.alloc (.cells #[.slice Ab nb cb, .slice Aw nw cw] 36)).heap[w.heap.size]? = some (.cells #[.slice Ab nb cb, .slice Aw nw cw] 36 (0, 0)) := heap_alloc_new w _
  have hb1 : Below w.heap.size w (w.alloc (.cells #[.slice Ab nb cb, .slice Aw nw cw] 36)) := below_alloc (Below.refl _ _) _
  have HX1 := Lib.hid hx1
  have HB1 := Lib.hid hb1
  clear hx1 hb1 hr hb hxl
  generalize w.alloc (.cells #[.slice Ab nb cb, .slice Aw nw cw] 36) = w1 at HX1 HB1 ⊢
  generalize hBd : w.heap.size = B at HX1 ⊢
  have HBD := Lib.hid hBd
  clear hBd
  go_loopw [1, 8, 9] (fun aa out la wr => ∃ (a : Nat) (s : ByteArray) (v : Value) (ps : List PB), aa = .int .i64 a ∧ la = .string s ∧ out = v ∧ Hid (Chain xs st a (numsOf s) (nn ps)) ∧ Hid (OwnK encP 2 30 wr w1.heap.size v ps) ∧ Hid (Below w1.heap.size w1 wr)) (fun aa _ _ _ => nb - (intOf aa).toNat)
  case atStart => exact ⟨st, ⟨#[]⟩, _, [], rfl, rfl, rfl, Lib.hid (by rw [numsOf_empty]; exact Chain.nil), Lib.hid (ownk_nil _ _ _ _ _), Lib.hid (Below.refl _ _)⟩
  case round =>
    obtain ⟨a, s, v, ps, rfl, rfl, hv, HC, HO, HW⟩ := hrel
    subst hv
    have hcl := chain_le HC.out (by rw [HXL.out]; exact ha)
    have hal : a ≤ nb := by have := hcl.1; rw [HXL.out] at this; exact this
    have hpl : 3 * ps.length ≤ nb := by have := hcl.2.1; rw [nn_length] at this; omega
    have hsl : s.size ≤ 1000000 := by have := hcl.2.2.1; rw [numsOf_length] at this; omega
    have HX := Lib.hid (box_stays HX1.out HW.out)
    have hX : wr.cell? ⟨B, 0, none⟩ = some (.slice Ab nb cb) := by simp [World.cell?, HX.out]
    obtain ⟨Ao, no, co, rfl, hoc, HOL, hom, _⟩ := ownk_open encP_len HO.out
    obtain ⟨D, hD⟩ : ∃ D, decide (((a : Nat) : Int) < ((nb : Nat) : Int)) = D := ⟨_, rfl⟩
    have HD := Lib.hid hD
    clear hD hcl
    go_upto_region 3 with fail
    refine plain_ (fun wq => Below wr.heap.size wr wq) (fun _ => True) reg_48_3 rfl inv0 (fun _ _ _ _ => trivial) (Below.refl _ _) trivial ?_
    refine w_move (.inl rfl) (fun vs w hK => ⟨wants_none rfl, rho_out rfl rfl⟩) ?_
    refine w_val [(3, _)] _ (fun vs w hK => ⟨wants_none rfl, rho_out rfl rfl, trivial⟩) rfl (fun wq hI => by simp only [execOp, Option.map_some, Option.map_none, lk_tmp, lk_const, lkT_cons, ↓reduceIte, Nat.reduceEqDiff]; go_simp; (first | done | rfl)) ?_
    refine w_val [(14, _)] (_) (fun vs w hK => ⟨wants_none rfl, rho_in rfl (fv (hK 1 (memE rfl))), trivial⟩) rfl (fun wq hI => by exact run_load_cell (ad := ⟨B, 0, none⟩) (v := .slice Ab nb cb) rfl rfl rfl Try.underlying25 rfl (below_cell hI hX)) ?_
    refine w_val [(15, _)] (_) (fun vs w hK => ⟨wants_none rfl, rho_in rfl (fv (hK 2 (memE rfl))), trivial⟩) rfl (fun wq hI => by exact run_len_sl rfl Try.underlying25 rfl rfl) ?_
    refine w_val [(13, _), (16, _)] (_) (fun vs w hK => ⟨wants_none rfl, rho_in rfl (fv (hK 0 (memE rfl))), rho_in rfl (fv (hK 3 (memE rfl))), trivial⟩) rfl (fun wq hI => by exact run_int_lss rfl rfl rfl rfl) ?_
    refine w_move (.inl rfl) (fun vs w hK => ⟨wants_none rfl, rho_in rfl (fv (hK 4 (memE rfl)))⟩) ?_
    refine w_moveG (.inl rfl) (fun vs w hK => wantsT rfl (fv (hK 5 (memE rfl)))) (fun hG vs w hK => (rho_out rfl rfl)) ?_
    refine w_valG [(19, _)] (_) (fun vs w hK => wantsT rfl (fv (hK 5 (memE rfl)))) (fun hG vs w hK => ⟨(rho_in rfl (fvg (hK 6 (memE rfl)) hG)), trivial⟩) rfl (fun hG wq hI => by exact run_len_sl rfl Try.underlying22 rfl rfl) ?_
    refine w_moveG (.inl rfl) (fun vs w hK => wantsT rfl (fv (hK 5 (memE rfl)))) (fun hG vs w hK => (rho_out rfl rfl)) ?_
    refine w_valG [(20, _), (21, _)] (_) (fun vs w hK => wantsT rfl (fv (hK 5 (memE rfl)))) (fun hG vs w hK => ⟨(rho_in rfl (fvg (hK 7 (memE rfl)) hG)), (rho_in rfl (fvg (hK 8 (memE rfl)) hG)), trivial⟩) rfl (fun hG wq hI => by exact run_int_neq (r := true) rfl rfl rfl (by simp only [bne_iff_ne]; omega)) ?_
    refine w_and rfl (fun vs w hK => wants_none rfl) (fun vs w hK => (rho_in rfl (fv (hK 5 (memE rfl))))) (fun hB vs w hK => (rho_in rfl (fvg (hK 9 (memE rfl)) hB))) ?_
    refine w_as (c' := .bool D) (congrArg Value.bool (by rw [Bool.and_true]; exact HD.out)) ?_
    refine w_endM [false, false, false, false, false, false, false, false, false, false, true] rfl rfl rfl (fun vs wq hI hF => ?_)
    simp only [List.reverse_cons, List.reverse_nil, List.nil_append, List.cons_append, finL_val, finL_of, finL_any, finL_app, finL_new, finL_gr, finL_row, finL_box, finL_nil, Act.put, List.setIfInBounds_toArray, List.set_cons_zero, List.set_cons_succ, Nat.reduceAdd, maskF, finL_imp, Bool.not_false, Bool.not_true, Bool.true_and, Bool.false_and]
    have HO2 := Lib.hid (ownk_below HO.out hI)
    have HW2 := Lib.hid (below_then HW.out HW.out.size hI)
    have HX2 := Lib.hid (box_stays HX.out hI)
    clear hI hF hX HX HO HW
    obtain ⟨w2, rfl⟩ : ∃ w2 : World, w2 = wq := ⟨_, rfl⟩
    cases D with
    | true =>
      have hlt : a < nb := by have := of_decide_eq_true HD.out; omega
      have hbw := below_then HB1.out HB1.out.size HW2.out
      have HBW := Lib.hid hbw
      have C1 := Lib.hid (one_any Ab nb cb Aw nw cw xs a s w2 (rds_below HR.out hbw) HB.out hnc hn hal hsl)
      clear hbw
      go_wp2_with (first | (refine wpList_load_box rfl 36 (.tmp 3) rfl B [.slice Ab nb cb, .slice Aw nw cw] rfl HX2.out Try.underlying36 rfl info36 ?_) | fail)
      refine C1.out.mono ?_
      rintro e w3 ⟨hb3, hpost⟩
      have HO3 := Lib.hid (ownk_below HO2.out hb3)
      have HW3 := Lib.hid (below_then HW2.out HW2.out.size hb3)
      clear hb3 HO2 HW2 HX2 C1
      rcases hpost with ⟨nm, vl, nx, rfl, ho⟩ | ⟨rfl, ho⟩
      · have hok := oneP_ok ho
        have HON := Lib.hid ho
        have hnx : nx ≤ nb := by have := hok.2.1; rw [HXL.out] at this; exact this
        have hnx2 : a + 3 ≤ nx := hok.1
        clear ho hok
        go_upto_region 7 with (first | (refine wpList_store_box rfl 30 (.tmp 10) (.tmp 29) rfl w3.heap.size [.string nm, .string vl] rfl rfl (heap_alloc_new w3 _) rfl info30 rfl ?_; intro w4 hs4; have HS4 := Lib.hid hs4; clear hs4) | fail)
        have hb4 : Below w3.heap.size w3 w4 := HS4.out.then_ (below_alloc (Below.refl _ _) _) (Nat.le_refl _)
        have HNE : Hid ((Value.slice Ao no co).ownBlock ≠ some w3.heap.size) := Lib.hid (fun h => by have := ownk_lt HO3.out _ h; omega)
        have HJ0 : Hid (OwnK encP 2 30 w4.drew w1.heap.size (.slice Ao no co) ps) := Lib.hid (ownk_below HO3.out (below_drew hb4))
        have HI0 : Hid (Keeps w1 w3.heap.size (.cells [Value.string nm, .string vl].toArray 30 (0, 0)) w4.drew) := Lib.hid ⟨below_drew (below_then HW3.out HW3.out.size hb4), HS4.out.at_⟩
        clear hb4 HS4 HO3 HW3
        generalize w3.heap.size = b4 at HNE HI0 ⊢
        refine draws_ (Keeps w1 b4 (.cells [Value.string nm, .string vl].toArray 30 (0, 0))) (fun W => OwnK encP 2 30 W w1.heap.size (.slice Ao no co) ps) (by kernel_rfl) reg_48_7 rfl keeps_below (fun W W' h k => ownk_below h k) HI0.out HJ0.out ?_
        refine w_move (.inl rfl) (fun vs w hK => ⟨wants_none rfl, rho_out rfl rfl⟩) ?_
        refine w_val [(10, _)] (.agg [Value.string nm, .string vl].toArray) (fun vs w hK => ⟨wants_none rfl, rho_out rfl rfl, trivial⟩) rfl (fun wq hI => by exact op_load_at rfl ⟨b4, 0, none⟩ [.string nm, .string vl] rfl (box_cells hI.at_) Try.underlying30 rfl info30) ?_
        refine w_any (FW.of (fun v' W => ∃ g, v' = .slice (some ⟨g, 0, none⟩) 1 1 ∧ W.heap[g]? = some (.cells [Value.string nm, .string vl].toArray 30 (0, 0))) (fun _ _ _ h hb => h.elim fun g h => ⟨g, h.1, box_stays h.2 hb⟩)) (by decide) (fun vs wq hI hK => ?_) ?_
        · exact ob_run [(36, _)] (wants_none rfl) ⟨rho_in rfl (fv (hK 1 (memE rfl))), trivial⟩ rfl (op_lit1 et30 (by decide) rfl rfl (fill30 _ _)) ⟨below_alloc (Below.refl _ _) _, _, rfl, heap_alloc_new _ _⟩
        refine w_lin (FW.of (fun v' W => OwnK encP 2 30 W w1.heap.size v' (ps ++ [(nm, vl)])) (fun _ _ _ h hb => ownk_below h hb)) (by decide) (fun vs wq hI hJ hK => ?_) ?_
        · have hA := hJ (by decide) (by decide)
          obtain ⟨g, e1, e2⟩ : ∃ g, vs 2 = .slice (some ⟨g, 0, none⟩) 1 1 ∧ wq.heap[g]? = some (.cells [Value.string nm, .string vl].toArray 30 (0, 0)) := hK 2 (memE rfl)
          obtain ⟨v1, w5, hrun, k1, k2⟩ := ownk_run (ys := [(nm, vl)]) (c := 1) encP_len encP_one et30 22 hA (sts_one encP_len rfl e2) hI.bel.size (by omega) (by omega)
          exact ob_run [(35, _), (37, .slice (some ⟨g, 0, none⟩) 1 1)] (wants_none rfl) ⟨rho_in rfl (fv (hK 0 (memE rfl))), rho_in rfl e1, trivial⟩ rfl (run_append_op rfl rfl rfl hrun) ⟨⟨hI.bel.grown k2.grown hI.bel.size (ownk_base hA), by rw [k2.grown.block b4 (mk_lt hI.at_) (Ne.symm HNE.out)]; exact hI.at_⟩, k1⟩
        refine w_val [(10, _)] _ (fun vs w hK => ⟨wants_none rfl, rho_out rfl rfl, trivial⟩) rfl (fun wq hI => by simp only [execOp, Option.map_some, Option.map_none, lk_tmp, lk_const, lkT_cons, ↓reduceIte, Nat.reduceEqDiff]; go_simp; (first | done | rfl)) ?_
        refine w_val [(39, _)] (_) (fun vs w hK => ⟨wants_none rfl, rho_in rfl (fv (hK 4 (memE rfl))), trivial⟩) rfl (fun wq hI => by exact run_load_cell (ad := ⟨b4, 0, none⟩) (v := .string nm) rfl rfl rfl Try.underlying9 rfl (by simp [World.cell?, hI.at_])) ?_
        refine w_move (.inl rfl) (fun vs w hK => ⟨wants_none rfl, rho_out rfl rfl⟩) ?_
        refine w_lin (FW.of (fun v' W => OwnK encP 2 30 W w1.heap.size v' (ps ++ [(nm, vl)])) (fun _ _ _ h hb => ownk_below h hb)) (by decide) (fun vs wq hI hJ hK => ?_) ?_
        · exact ob_copy (.inr rfl) (wants_none rfl) (rho_in rfl rfl) ⟨hI, hK 3 (memE rfl)⟩
        refine w_move (.inr rfl) (fun vs w hK => ⟨wants_none rfl, rho_in rfl (fv (hK 5 (memE rfl)))⟩) ?_
        refine w_move (.inr rfl) (fun vs w hK => ⟨wants_none rfl, rho_in rfl (fv (hK 6 (memE rfl)))⟩) ?_
        refine w_end rfl rfl rfl (fun vs wq hI hF => ?_)
        simp only [List.reverse_cons, List.reverse_nil, List.nil_append, List.cons_append, finL_val, finL_of, finL_any, finL_app, finL_new, finL_gr, finL_row, finL_box, finL_nil, Act.put, List.setIfInBounds_toArray, List.set_cons_zero, List.set_cons_succ, Nat.reduceAdd]
        have HO7 : Hid (OwnK encP 2 30 wq w1.heap.size (vs 7) (ps ++ [(nm, vl)])) := Lib.hid (hF 7 (by decide) rfl)
        have HW7 := Lib.hid hI.bel
        clear hI hF HI0 HJ0
        go_wp2_with fail
        go_roundw
        case rel => exact ⟨nx, nm, _, ps ++ [(nm, vl)], rfl, rfl, rfl, Lib.hid (by rw [nn_append]; exact Chain.snoc _ nx HC.out (by rw [HXL.out]; exact hlt) HON.out), HO7, HW7⟩
        case measure => simp [intOf]; omega
      · have HON := Lib.hid ho
        clear ho
        go_wp2_with (first | (refine wpList_store_box rfl 30 (.tmp 10) (.tmp 29) rfl w3.heap.size [.string ⟨#[]⟩, .string ⟨#[]⟩] rfl rfl (heap_alloc_new w3 _) rfl info30 rfl ?_; intro w4 hs4; have HS4 := Lib.hid hs4; clear hs4) | fail)
        have hb4 : Below w3.heap.size w3 w4 := HS4.out.then_ (below_alloc (Below.refl _ _) _) (Nat.le_refl _)
        have HW4 := Lib.hid (below_then HB1.out HB1.out.size (below_then HW3.out HW3.out.size hb4))
        clear hb4 HS4
        go_ret2
        exact ⟨HW4.out, _, 2, rfl, .inr ⟨rfl, rfl, _, _, _, HC.out, by rw [HXL.out]; exact hlt, HON.out⟩⟩
    | false =>
      have hge : ¬ a < nb := by have := of_decide_eq_false HD.out; omega
      have HW3 := Lib.hid (below_then HB1.out HB1.out.size HW2.out)
      have HO3 := Lib.hid (ownk_lower HO2.out HB1.out.size)
      go_wp2_with fail
      go_ret2
      exact ⟨HW3.out, _, 0, rfl, .inl ⟨rfl, _, _, ps, HC.out, by rw [HXL.out]; omega, HO3.out⟩⟩
end Go.Proofs.Ytnkeijdpjcclcaa.Pg

