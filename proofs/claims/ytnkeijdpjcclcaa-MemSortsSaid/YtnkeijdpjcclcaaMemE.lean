/- mem.Sorted of ints: Put, a new one, none. -/
import Derived.Test.YtnkeijdpjcclcaaMemD
namespace Go.Proofs.Ytnkeijdpjcclcaa.Mem
set_option linter.unusedVariables false
set_option linter.unusedSimpArgs false
open Go.Proofs.Ytnkeijdpjcclcaa.Kit Go.RowKit Go.Proofs.YtnkeijdpjcclcaaW.PrintWords Go.Proofs.YtnkeijdpjcclcaaW.PrintLast Go.Proofs.YtnkeijdpjcclcaaW.PrintMore
theorem op_lit1v {P : Program} {o : Oper} {l : List (Nat × Value)} {x : Operand} {t e : TypeId} {k bytes : Nat} {z v : Value} {w : World} (T : EType P t e k bytes z) (hk24 : k ≤ 16777216) (ho : o.op = .buildSlice t 1 #[(0, x)]) {cs : List Value} (hx : lk l x = v)
    (hfill : Instr.fill (fun i => some (i * k, k)) ((Array.range (1 * k)).map (z.cells[· % z.cells.size]!)) [(0, v)] = some cs.toArray) :
    (execOp (lk l) o).run P w = .ok (.value (.slice (some ⟨w.heap.size, 0, none⟩) 1 1)) (w.alloc (.cells cs.toArray e)) := by
  have hi := T.info
  have hp := T.pos
  cases hq : P.info? e with
  | none => rw [hq] at hi; simp at hi
  | some i =>
    rw [hq] at hi
    simp only [Option.map_some, Option.some.injEq, Prod.mk.injEq] at hi
    obtain ⟨i1, i2, i3⟩ := hi
    have hrun := run_buildSlice (P := P) w t e 1 #[(0, v)] cs.toArray i z T.und hq i1 (by rw [i2]; omega) (by rw [i2]; omega) (by rw [i2]; exact hfill)
    unfold execOp
    simp only [ho, Sem.run_bind, List.map_toArray, List.map_cons, List.map_nil, hx, hrun, Result.andThen_ok, Sem.run_pure]
theorem fillI (x : Int) : Instr.fill (fun i => some (i * kI, kI)) ((Array.range (1 * kI)).map ((Value.int .i64 0).cells[· % (Value.int .i64 0).cells.size]!)) [(0, .int .i64 x)] = some (encI x).toArray := by
  simp [Instr.fill, Value.cells, Array.range, kI]
  rfl
theorem reg_26_3 : RegOk (opsOf Try.f26 3) [[], [0], [0, 1], [0, 1, 2], [], [], [5], [5, 6], [5, 6, 7], [0, 1, 2, 3, 4, 5, 6, 7, 8], [0, 1, 2, 3, 4, 5, 6, 7, 8, 9], [0, 1, 2, 3, 4, 5, 6, 7, 8, 9, 10], [0, 1, 2, 3, 4, 5, 6, 7, 8, 9, 10], [0, 1, 2, 3, 4, 5, 6, 7, 8, 9, 10, 11], [0, 1, 2, 3, 4, 5, 6, 7, 8, 9, 10, 11, 12, 13]] [] [some 10, some 11, some 12, some 13, some 14, some 15, some 16, some 17, some 18, some 19, some 9, some 20, some 21, some 5, some 6] := regOk (by kernel_rfl)
theorem reg_26_5 : RegOk (opsOf Try.f26 5) [[], [0], [0, 1], [0, 1, 2], [], [], [0, 1, 2, 3, 4, 5], [0, 1, 2, 3, 4, 5, 6]] [7] [some 23, some 24, some 25, some 26, some 27, some 28, some 29, none] := regOk (by kernel_rfl)
theorem reg_26_6 : RegOk (opsOf Try.f26 6) [[], [], [1], [1, 2], [1, 2, 3], [], [], [6], [1, 2, 3, 4, 5, 6, 7], [0, 1, 2, 3, 4, 5, 6, 7, 8], [0, 1, 2, 3, 4, 5, 6, 7, 8, 9], [0, 1, 2, 3, 4, 5, 6, 7, 8, 9, 10]] [8, 11] [some 30, some 31, some 32, some 33, some 34, some 35, some 36, some 37, some 38, some 39, some 40, none] := regOk (by kernel_rfl)
set_option maxRecDepth 20000 in
set_option maxHeartbeats 1600000 in
theorem putI_any (w : World) {B p : Nat} {v : Value} {xs : List Int} (x : Int) (h : SOI w B p v xs) (hB : B ≤ w.heap.size) (hn : xs.length ≤ 1000000) (hr : ∀ y ∈ xs, rng y) (hx : rng x) (hm : Mono ordI xs x) : Calls Try.prog 26 #[.pointer (some ⟨p, 0, none⟩), .int .i64 x] w fun e w' => e = .returned (.bool (hit ordI xs x)) ∧ ∃ v', SOI w' B p v' (putL xs x) ∧ Gr2 w w' p v.ownBlock ∧ Goes w v v' := by
  have HSO := Lib.hid h
  obtain ⟨A, n, c, rfl, hnc, HL, hmx, hs⟩ := ownk_open encI_len h.own
  have hl := HL.out
  have HBX := Lib.hid h.box
  have HS := Lib.hid hs
  have hne := h.ne
  have hbase := h.base
  have hlt := ownk_lt h.own
  have hpl := pos_le ordI xs x
  have HC := Lib.hid (fun W (hW : Below w.heap.size w W) => bsfI_any A n c xs x W (by omega) (sts_below HS.out hW) hm (fun y W hy => order_any y x W (by have := hr y hy; unfold rng at this; omega) (by unfold rng at hx; omega)))
  have hpt : hit ordI xs x = true → pos ordI xs x < n := fun h => by
    unfold hit at h
    cases hq : xs[pos ordI xs x]? with
    | none => rw [hq] at h; cases h
    | some y => rw [← hl]; exact (List.getElem?_eq_some_iff.1 hq).1
  obtain ⟨ys, hys⟩ : ∃ ys, putL xs x = ys := ⟨_, rfl⟩
  rw [hys]
  unfold putL at hys
  clear h hs hr hx hm
  generalize pos ordI xs x = po at *
  generalize hit ordI xs x = T at *
  have HYS := Lib.hid hys
  clear hys
  go_enter Try.func26, Try.ntmps26
  go_upto_region 3 with fail
  refine draws_ (fun wq => Below w.heap.size w wq) (fun _ => True) (by kernel_rfl) reg_26_3 rfl inv0 (fun _ _ _ _ => trivial) (below_drew (Below.refl _ _)) trivial ?_
  refine w_move (.inl rfl) (fun vs w hK => ⟨wants_none rfl, rho_out rfl rfl⟩) ?_
  refine w_val [(10, _)] _ (fun vs w hK => ⟨wants_none rfl, rho_in rfl (fv (hK 0 (memE rfl))), trivial⟩) rfl (fun wq hI => by simp only [execOp, Option.map_some, Option.map_none, lk_tmp, lk_const, lkT_cons, ↓reduceIte, Nat.reduceEqDiff]; go_simp; (first | done | rfl)) ?_
  refine w_val [(11, _)] (_) (fun vs w hK => ⟨wants_none rfl, rho_in rfl (fv (hK 1 (memE rfl))), trivial⟩) rfl (fun wq hI => by exact op_field rfl rfl Try.underlying88 rfl rfl rfl info34 (by decide)) ?_
  refine w_val [(12, _)] (.slice A n c) (fun vs w hK => ⟨wants_none rfl, rho_in rfl (fv (hK 2 (memE rfl))), trivial⟩) rfl (fun wq hI => by exact run_load_cell (ad := ⟨p, 1, none⟩) rfl rfl rfl Try.underlying34 rfl (by have := box_stays HBX.out hI; simp [World.cell?, this])) ?_
  refine w_move (.inl rfl) (fun vs w hK => ⟨wants_none rfl, rho_out rfl rfl⟩) ?_
  refine w_move (.inl rfl) (fun vs w hK => ⟨wants_none rfl, rho_out rfl rfl⟩) ?_
  refine w_val [(15, _)] _ (fun vs w hK => ⟨wants_none rfl, rho_in rfl (fv (hK 5 (memE rfl))), trivial⟩) rfl (fun wq hI => by simp only [execOp, Option.map_some, Option.map_none, lk_tmp, lk_const, lkT_cons, ↓reduceIte, Nat.reduceEqDiff]; go_simp; (first | done | rfl)) ?_
  refine w_val [(16, _)] (_) (fun vs w hK => ⟨wants_none rfl, rho_in rfl (fv (hK 6 (memE rfl))), trivial⟩) rfl (fun wq hI => by exact op_field rfl rfl Try.underlying88 rfl rfl rfl info50 (by decide)) ?_
  refine w_val [(17, _)] (.func (.func 25) #[] #[]) (fun vs w hK => ⟨wants_none rfl, rho_in rfl (fv (hK 7 (memE rfl))), trivial⟩) rfl (fun wq hI => by exact run_load_cell (ad := ⟨p, 0, none⟩) rfl rfl rfl Try.underlying50 rfl (by have := box_stays HBX.out hI; simp [World.cell?, this])) ?_
  refine w_call [(13, _), (14, _), (18, _)] _ _ (by decide) (fun vs w hK => ⟨wants_none rfl, rho_in rfl (fv (hK 3 (memE rfl))), rho_in rfl (fv (hK 4 (memE rfl))), rho_in rfl (fv (hK 8 (memE rfl))), trivial⟩) rfl rfl Try.func55 (by kernel_rfl) rfl (fun wq hI => HC.out wq hI) (margs rfl) ?_
  refine w_move (.inl rfl) (fun vs w hK => ⟨wants_none rfl, rho_in rfl (fv (hK 9 (memE rfl)))⟩) ?_
  refine w_val [(9, _)] _ (fun vs w hK => ⟨wants_none rfl, rho_in rfl (fv (hK 10 (memE rfl))), trivial⟩) rfl (fun wq hI => by simp only [execOp, Option.map_some, Option.map_none, lk_tmp, lk_const, lkT_cons, ↓reduceIte, Nat.reduceEqDiff]; go_simp; (first | done | rfl)) ?_
  refine w_val [(9, _)] _ (fun vs w hK => ⟨wants_none rfl, rho_in rfl (fv (hK 10 (memE rfl))), trivial⟩) rfl (fun wq hI => by simp only [execOp, Option.map_some, Option.map_none, lk_tmp, lk_const, lkT_cons, ↓reduceIte, Nat.reduceEqDiff]; go_simp; (first | done | rfl)) ?_
  refine w_move (.inr rfl) (fun vs w hK => ⟨wants_none rfl, rho_in rfl (fv (hK 11 (memE rfl)))⟩) ?_
  refine w_move (.inr rfl) (fun vs w hK => ⟨wants_none rfl, rho_in rfl (fv (hK 12 (memE rfl)))⟩) ?_
  refine w_end rfl rfl rfl (fun vs wq hI hF => ?_)
  simp only [List.reverse_cons, List.reverse_nil, List.nil_append, List.cons_append, finL_val, finL_of, finL_any, finL_app, finL_new, finL_gr, finL_row, finL_box, finL_nil, Act.put, List.setIfInBounds_toArray, List.set_cons_zero, List.set_cons_succ, Nat.reduceAdd]
  have HW := Lib.hid hI
  have HS1 := Lib.hid (soi_below HSO.out hI)
  clear hI hF HC
  obtain ⟨w1, rfl⟩ : ∃ w1 : World, w1 = wq := ⟨_, rfl⟩
  have hw1 := HW.out.size
  cases T with
  | true =>
    have hpn := hpt rfl
    obtain ⟨g, cap, cur, e1, hBg, hg, hnc2, hcm, hcl, hct⟩ := own_block HS1.out.own (by omega)
    rw [hl] at e1 hct hnc2
    injection e1 with e1 e2 e3
    subst e1 e3
    have hys := HYS.out
    rw [if_pos rfl] at hys
    have hgp : g ≠ p := fun e => hne (by rw [e]; rfl)
    have HG := Lib.hid hg
    have HCT := Lib.hid hct
    have HCL := Lib.hid hcl
    have HY := Lib.hid hys
    have hpc : po * kI < cur.length := by
      rw [hcl]
      exact Nat.mul_lt_mul_of_pos_right (by omega) (by decide)
    clear hg hct hcl hys hpt HYS HSO HBX HS
    go_upto_region 5 with fail
    refine plain_ (fun W => Gr2 w W p (some g)) (fun W => W.heap[g]? = some (.cells cur.toArray 3 (0, 0)) ∧ W.heap[p]? = some (.cells [Value.func (.func 25) #[] #[], .slice (some ⟨g, 0, none⟩) n c].toArray 88 (0, 0))) reg_26_5 rfl (fun _ _ h k => gr2_then h k) (fun _ _ h k => ⟨box_stays h.1 k, box_stays h.2 k⟩) (gr2_below HW.out) ⟨HG.out, HS1.out.box⟩ ?_
    refine w_move (.inl rfl) (fun vs w hK => ⟨wants_none rfl, rho_out rfl rfl⟩) ?_
    refine w_val [(23, _)] _ (fun vs w hK => ⟨wants_none rfl, rho_in rfl (fv (hK 0 (memE rfl))), trivial⟩) rfl (fun wq hI => by simp only [execOp, Option.map_some, Option.map_none, lk_tmp, lk_const, lkT_cons, ↓reduceIte, Nat.reduceEqDiff]; go_simp; (first | done | rfl)) ?_
    refine w_val [(24, _)] (_) (fun vs w hK => ⟨wants_none rfl, rho_in rfl (fv (hK 1 (memE rfl))), trivial⟩) rfl (fun wq hI => by exact op_field rfl rfl Try.underlying88 rfl rfl rfl info34 (by decide)) ?_
    refine w_anyJ (.val (.slice (some ⟨g, 0, none⟩) n c)) (by decide) (fun vs wq hI hJ hK => ?_) ?_
    · have hA := (hJ (by decide)).2
      exact ob_run [(25, .pointer (some ⟨p, 1, none⟩))] (wants_none rfl) ⟨rho_in rfl (fv (hK 2 (memE rfl))), trivial⟩ rfl (run_load_cell (ad := ⟨p, 1, none⟩) rfl rfl rfl Try.underlying34 rfl (by simp [World.cell?, hA])) ⟨Below.refl _ _, rfl⟩
    refine w_move (.inl rfl) (fun vs w hK => ⟨wants_none rfl, rho_out rfl rfl⟩) ?_
    refine w_move (.inl rfl) (fun vs w hK => ⟨wants_none rfl, rho_out rfl rfl⟩) ?_
    refine w_val [(26, _), (27, _)] (.pointer (some ⟨g, po * kI, none⟩)) (fun vs w hK => ⟨wants_none rfl, rho_in rfl (fv (hK 3 (memE rfl))), rho_in rfl (fv (hK 4 (memE rfl))), trivial⟩) rfl (fun wq hI => by (have h := op_index_st (P := Try.prog) (l := [(26, .slice (some ⟨g, 0, none⟩) n c), (27, .int .i64 (po : Nat))]) (o := { dst := some 29, op := Op.indexAddr 34 (Operand.tmp 26) (Operand.tmp 27), type := 0, pos := "", after := #[], guard := none }) (w := wq) stI rfl rfl rfl rfl hpn; rw [Go.Proofs.YtnkeijdpjcclcaaW.PrintWords.add_plain] at h; exact h)) ?_
    refine w_lin (FW.of (fun _ W => SOI W B p (.slice (some ⟨g, 0, none⟩) n c) ys) (fun _ _ _ h hb => soi_below h hb)) (by decide) (fun vs wq hI hJ hK => ?_) ?_
    · obtain ⟨hA, hA2⟩ := hJ (by decide) (by decide)
      exact ob_store_blk [(29, .pointer (some ⟨g, po * kI, none⟩)), (28, .int .i64 x)] (wants_none rfl) ⟨rho_in rfl (fv (hK 6 (memE rfl))), rho_in rfl (fv (hK 5 (memE rfl))), trivial⟩ rfl rfl rfl rfl rfl hA hpc info3 (fun w' hs => ⟨gr2_setr hI hs, by rw [hs.other p (Ne.symm hgp)]; exact hA2, by
        have hcur : cur = xs.flatMap encI ++ cur.drop (n * kI) := by rw [← HCT.out, List.take_append_drop]
        have hfl : (xs.flatMap encI).length = n * kI := by rw [flat_length encI_len, hl]
        have hset : cur.set (po * kI) (.int .i64 x) = ys.flatMap encI ++ cur.drop (n * kI) := by
          conv => lhs; rw [hcur]
          rw [List.set_append_left _ _ (by rw [hfl]; exact Nat.mul_lt_mul_of_pos_right hpn (by decide)), ← flat_set, HY.out]
        have hyl : ys.length = n := by rw [← HY.out, List.length_set, hl]
        have h := own_cells (enc := encI) (k := kI) (e := 3) (W := w') (g := g) (cap := c) (B := B) (ys := ys) (R := cur.drop (n * kI)) encI_len (by rw [← hset]; exact hs.at_) (by rw [← hset, List.length_set, HCL.out]) (by omega) hcm hBg
        rw [hyl] at h
        exact h, hne, hbase⟩)
    refine w_end rfl rfl rfl (fun vs wq hI hF => ?_)
    simp only [List.reverse_cons, List.reverse_nil, List.nil_append, List.cons_append, finL_val, finL_of, finL_any, finL_app, finL_new, finL_gr, finL_row, finL_box, finL_nil, Act.put, List.setIfInBounds_toArray, List.set_cons_zero, List.set_cons_succ, Nat.reduceAdd]
    have HI2 := Lib.hid hI
    have HF2 : Hid (SOI wq B p (.slice (some ⟨g, 0, none⟩) n c) ys) := Lib.hid (hF 7 (by decide) rfl)
    clear hI hF
    go_wp2_with fail
    go_ret
    exact ⟨rfl, _, HF2.out, HI2.out, .inl rfl⟩
  | false =>
    have hys := HYS.out
    rw [if_neg (by decide)] at hys
    have HY := Lib.hid hys
    clear hys hpt HYS HSO HBX HS
    go_upto_region 6 with fail
    refine plain_ (fun W => Gr2 w W p (Value.slice A n c).ownBlock) (fun W => SOI W B p (.slice A n c) xs ∧ w.heap.size ≤ W.heap.size) reg_26_6 rfl (fun _ _ h k => gr2_then h k) (fun _ _ h k => ⟨soi_below h.1 k, Nat.le_trans h.2 k.size⟩) (gr2_below HW.out) ⟨HS1.out, hw1⟩ ?_
    refine w_move (.inl rfl) (fun vs w hK => ⟨wants_none rfl, rho_out rfl rfl⟩) ?_
    refine w_move (.inl rfl) (fun vs w hK => ⟨wants_none rfl, rho_out rfl rfl⟩) ?_
    refine w_val [(31, _)] _ (fun vs w hK => ⟨wants_none rfl, rho_in rfl (fv (hK 1 (memE rfl))), trivial⟩) rfl (fun wq hI => by simp only [execOp, Option.map_some, Option.map_none, lk_tmp, lk_const, lkT_cons, ↓reduceIte, Nat.reduceEqDiff]; go_simp; (first | done | rfl)) ?_
    refine w_val [(32, _)] (_) (fun vs w hK => ⟨wants_none rfl, rho_in rfl (fv (hK 2 (memE rfl))), trivial⟩) rfl (fun wq hI => by exact op_field rfl rfl Try.underlying88 rfl rfl rfl info34 (by decide)) ?_
    refine w_anyJ (.val (.slice A n c)) (by decide) (fun vs wq hI hJ hK => ?_) ?_
    · have hA := (hJ (by decide)).1.box
      exact ob_run [(33, .pointer (some ⟨p, 1, none⟩))] (wants_none rfl) ⟨rho_in rfl (fv (hK 3 (memE rfl))), trivial⟩ rfl (run_load_cell (ad := ⟨p, 1, none⟩) rfl rfl rfl Try.underlying34 rfl (by simp [World.cell?, hA])) ⟨Below.refl _ _, rfl⟩
    refine w_move (.inl rfl) (fun vs w hK => ⟨wants_none rfl, rho_out rfl rfl⟩) ?_
    refine w_move (.inl rfl) (fun vs w hK => ⟨wants_none rfl, rho_out rfl rfl⟩) ?_
    refine w_anyJ (FW.of (fun v' W => ∃ b, v' = .slice (some ⟨b, 0, none⟩) 1 1 ∧ w.heap.size ≤ b ∧ W.heap[b]? = some (.cells (encI x).toArray 3 (0, 0))) (fun _ _ _ h hb => h.elim fun b h => ⟨b, h.1, h.2.1, box_stays h.2.2 hb⟩)) (by decide) (fun vs wq hI hJ hK => ?_) ?_
    · have hA := (hJ (by decide)).2
      exact ob_run [(36, .int .i64 x)] (wants_none rfl) ⟨rho_in rfl (fv (hK 6 (memE rfl))), trivial⟩ rfl (op_lit1v (v := .int .i64 x) (cs := encI x) etI (by decide) rfl rfl (fillI x)) ⟨below_alloc (Below.refl _ _) _, _, rfl, hA, heap_alloc_new _ _⟩
    refine w_lin (FW.of (fun v' W => OwnK encI kI 3 W B v' ys ∧ v'.ownBlock ≠ some p ∧ Goes w (.slice A n c) v' ∧ W.heap[p]? = some (.cells [Value.func (.func 25) #[] #[], .slice A n c].toArray 88 (0, 0))) (fun _ _ _ h hb => ⟨ownk_below h.1 hb, h.2.1, h.2.2.1, box_stays h.2.2.2 hb⟩)) (by decide) (fun vs wq hI hJ hK => ?_) ?_
    · obtain ⟨hA, hA2⟩ := hJ (by decide) (by decide)
      obtain ⟨b, e7, hb7, hc7⟩ : ∃ b, vs 7 = .slice (some ⟨b, 0, none⟩) 1 1 ∧ w.heap.size ≤ b ∧ wq.heap[b]? = some (.cells (encI x).toArray 3 (0, 0)) := hK 7 (memE rfl)
      refine ob_call [(34, .slice A n c), (35, .int .i64 (po : Nat)), (37, .slice (some ⟨b, 0, none⟩) 1 1)] _ (wants_none rfl) ⟨rho_in rfl (fv (hK 4 (memE rfl))), rho_in rfl (fv (hK 5 (memE rfl))), rho_in rfl e7, trivial⟩ rfl rfl Try.func56 (by kernel_rfl) rfl (margs rfl) ((insI_any (.slice A n c) xs po x b wq hA.own hc7 (fun e => by have := hlt b e; omega) hpl (by omega) hn).mono ?_)
      rintro e w' ⟨v1, rfl, k1, k2⟩
      rw [HY.out] at k1
      refine ⟨v1, rfl, gr2_grown hI k2.grown, k1, ?_, ?_, ?_⟩
      · rcases k2.at_ with g | ⟨b, g, hb⟩
        · rw [g]; exact hne
        · rw [g]
          intro he
          injection he with he
          have := mk_lt hA.box
          omega
      · rcases k2.at_ with g | ⟨b, g, hb⟩
        · exact .inl g
        · exact .inr ⟨b, g, by omega⟩
      · rw [k2.grown.block p (mk_lt hA.box) (Ne.symm hne)]
        exact hA.box
    refine w_val [(30, _)] _ (fun vs w hK => ⟨wants_none rfl, rho_in rfl (fv (hK 0 (memE rfl))), trivial⟩) rfl (fun wq hI => by simp only [execOp, Option.map_some, Option.map_none, lk_tmp, lk_const, lkT_cons, ↓reduceIte, Nat.reduceEqDiff]; go_simp; (first | done | rfl)) ?_
    refine w_val [(39, _)] (_) (fun vs w hK => ⟨wants_none rfl, rho_in rfl (fv (hK 9 (memE rfl))), trivial⟩) rfl (fun wq hI => by exact op_field rfl rfl Try.underlying88 rfl rfl rfl info34 (by decide)) ?_
    refine w_lin (FW.of (fun _ W => ∃ v', SOI W B p v' ys ∧ Goes w (.slice A n c) v') (fun _ _ _ h hb => h.elim fun v' h => ⟨v', soi_below h.1 hb, h.2⟩)) (by decide) (fun vs wq hI hJ hK => ?_) ?_
    · obtain ⟨k1, k2, k3, k4⟩ : OwnK encI kI 3 wq B (vs 8) ys ∧ (vs 8).ownBlock ≠ some p ∧ Goes w (.slice A n c) (vs 8) ∧ wq.heap[p]? = some (.cells [Value.func (.func 25) #[] #[], .slice A n c].toArray 88 (0, 0)) := hK 8 (memE rfl)
      obtain ⟨A8, n8, c8, e8, _⟩ := ownk_open encI_len k1
      exact ob_store_blk [(40, .pointer (some ⟨p, 1, none⟩)), (38, vs 8)] (wants_none rfl) ⟨rho_in rfl (fv (hK 10 (memE rfl))), rho_in rfl rfl, trivial⟩ rfl rfl rfl rfl (by rw [e8]; rfl) k4 (by show 1 < 2; omega) info34 (fun w' hs => ⟨gr2_set hI hs, vs 8, ⟨hs.at_, ownk_move k1 (fun j hj => hs.other j (fun e => k2 (by rw [hj, e]))), k2, hbase⟩, k3⟩)
    refine w_end rfl rfl rfl (fun vs wq hI hF => ?_)
    simp only [List.reverse_cons, List.reverse_nil, List.nil_append, List.cons_append, finL_val, finL_of, finL_any, finL_app, finL_new, finL_gr, finL_row, finL_box, finL_nil, Act.put, List.setIfInBounds_toArray, List.set_cons_zero, List.set_cons_succ, Nat.reduceAdd]
    have HI2 := Lib.hid hI
    have HF2 : Hid (∃ v', SOI wq B p v' ys ∧ Goes w (.slice A n c) v') := Lib.hid (hF 11 (by decide) rfl)
    clear hI hF
    go_wp2_with fail
    go_ret
    obtain ⟨v', h1, h2⟩ := HF2.out
    exact ⟨rfl, v', h1, HI2.out, h2⟩
theorem op_func_nil {P : Program} {o : Oper} {l : List (Nat × Value)} {x : Operand} {t : TypeId} {m : Nat} {f : Fn} {ta cp : Array Value} {w : World} {ps rs : Array TypeId} {vd : Bool} (ho : o.op = .binOp .eql t x (.const .nilFunc) m) (hx : lk l x = .func f ta cp) (hu : P.underlying t = some (.func ps rs vd)) : (execOp (lk l) o).run P w = .ok (.value (.bool false)) w := by
  have he : ∀ d, (Op.equalIn (d + 1) t (.func f ta cp) .nilFunc).run P w = .ok false w := fun d => by simp [Op.equalIn, run_underlying hu]
  have e2 : (Op.equal t (.func f ta cp) .nilFunc).run P w = .ok false w := he 9999
  have e3 : (binOp .eql t (.func f ta cp) .nilFunc).run P w = .ok (.bool false) w := by
    show ((do pure (.bool (← Op.equal t (.func f ta cp) .nilFunc)) : Sem Value)).run P w = _
    simp only [Sem.run_bind, e2, Result.andThen_ok, Sem.run_pure]
  have hy : lk l (.const .nilFunc) = .nilFunc := rfl
  have hg : eqGuard .eql t x (.const .nilFunc) (.func f ta cp) .nilFunc = pure () := rfl
  unfold execOp
  simp only [ho, hx, hy, hg, Sem.run_bind, Result.andThen_ok, e3, Sem.run_pure]
theorem op_nil_nil {P : Program} {o : Oper} {l : List (Nat × Value)} {x : Operand} {t : TypeId} {m : Nat} {w : World} {ps rs : Array TypeId} {vd : Bool} (ho : o.op = .binOp .eql t x (.const .nilFunc) m) (hx : lk l x = .nilFunc) (hu : P.underlying t = some (.func ps rs vd)) : (execOp (lk l) o).run P w = .ok (.value (.bool true)) w := by
  have he : ∀ d, (Op.equalIn (d + 1) t (.nilFunc) .nilFunc).run P w = .ok true w := fun d => by simp [Op.equalIn, run_underlying hu]
  have e2 : (Op.equal t (.nilFunc) .nilFunc).run P w = .ok true w := he 9999
  have e3 : (binOp .eql t (.nilFunc) .nilFunc).run P w = .ok (.bool true) w := by
    show ((do pure (.bool (← Op.equal t (.nilFunc) .nilFunc)) : Sem Value)).run P w = _
    simp only [Sem.run_bind, e2, Result.andThen_ok, Sem.run_pure]
  have hy : lk l (.const .nilFunc) = .nilFunc := rfl
  have hg : eqGuard .eql t x (.const .nilFunc) (.nilFunc) .nilFunc = pure () := rfl
  unfold execOp
  simp only [ho, hx, hy, hg, Sem.run_bind, Result.andThen_ok, e3, Sem.run_pure]
theorem reg_24_1 : RegOk (opsOf Try.f24 1) [[], [0]] [] [some 3, some 4] := regOk (by kernel_rfl)
theorem newI_any (w : World) : Calls Try.prog 24 #[.func (.func 25) #[] #[]] w fun e w' => e = .returned (.pointer (some ⟨w'.heap.size - 1, 0, none⟩)) ∧ w.heap.size ≤ w'.heap.size - 1 ∧ SOI w' w.heap.size (w'.heap.size - 1) (.slice none 0 0) [] ∧ Below w.heap.size w w' := by
  go_enter Try.func24, Try.ntmps24
  go_upto_region 1 with fail
  refine plain_ (fun wq => Below w.heap.size w wq) (fun _ => True) reg_24_1 rfl inv0 (fun _ _ _ _ => trivial) (Below.refl _ _) trivial ?_
  refine w_move (.inl rfl) (fun vs w hK => ⟨wants_none rfl, rho_out rfl rfl⟩) ?_
  refine w_val [(3, _)] (.bool false) (fun vs w hK => ⟨wants_none rfl, rho_in rfl (fv (hK 0 (memE rfl))), trivial⟩) rfl (fun wq hI => by exact op_func_nil rfl rfl Try.underlying50) ?_
  refine w_end rfl rfl rfl (fun vs wq hI hF => ?_)
  simp only [List.reverse_cons, List.reverse_nil, List.nil_append, List.cons_append, finL_val, finL_of, finL_any, finL_app, finL_new, finL_gr, finL_row, finL_box, finL_nil, Act.put, List.setIfInBounds_toArray, List.set_cons_zero, List.set_cons_succ, Nat.reduceAdd]
  have HW := Lib.hid hI
  clear hI hF
  obtain ⟨w1, rfl⟩ : ∃ w1 : World, w1 = wq := ⟨_, rfl⟩
  go_wp2_with fail
  go_ret
  have hs : (w1.alloc (.cells #[Value.func (.func 25) #[] #[], .slice none 0 0] 88)).heap.size = w1.heap.size + 1 := Array.size_push _
  have hb := HW.out.size
  rw [hs, Nat.add_sub_cancel]
  exact ⟨rfl, hb, ⟨heap_alloc_new w1 _, ownk_nil _ _ _ _ _, by simp [Value.ownBlock], hb⟩, below_then HW.out hb (below_alloc (Below.refl _ _) _)⟩
theorem newNil_any (w : World) : Calls Try.prog 24 #[.nilFunc] w fun e w' => e = .returned (.pointer none) ∧ Below w.heap.size w w' := by
  go_enter Try.func24, Try.ntmps24
  go_upto_region 1 with fail
  refine plain_ (fun wq => Below w.heap.size w wq) (fun _ => True) reg_24_1 rfl inv0 (fun _ _ _ _ => trivial) (Below.refl _ _) trivial ?_
  refine w_move (.inl rfl) (fun vs w hK => ⟨wants_none rfl, rho_out rfl rfl⟩) ?_
  refine w_val [(3, _)] (.bool true) (fun vs w hK => ⟨wants_none rfl, rho_in rfl (fv (hK 0 (memE rfl))), trivial⟩) rfl (fun wq hI => by exact op_nil_nil rfl rfl Try.underlying50) ?_
  refine w_end rfl rfl rfl (fun vs wq hI hF => ?_)
  simp only [List.reverse_cons, List.reverse_nil, List.nil_append, List.cons_append, finL_val, finL_of, finL_any, finL_app, finL_new, finL_gr, finL_row, finL_box, finL_nil, Act.put, List.setIfInBounds_toArray, List.set_cons_zero, List.set_cons_succ, Nat.reduceAdd]
  have HW := Lib.hid hI
  clear hI hF
  go_wp2_with fail
  go_ret
  exact ⟨rfl, HW.out⟩
theorem putN_any (x : Int) (w : World) : Calls Try.prog 26 #[.pointer none, .int .i64 x] w fun e w' => e = .returned (.bool false) ∧ Below w.heap.size w w' := by
  go_enter Try.func26, Try.ntmps26
  go_wp2_with fail
  go_ret
  exact ⟨rfl, Below.refl _ _⟩
theorem seekN_any (x : Int) (w : World) : Calls Try.prog 29 #[.pointer none, .int .i64 x] w fun e w' => e = .returned (.int .i64 0) ∧ Below w.heap.size w w' := by
  go_enter Try.func29, Try.ntmps29
  go_wp2_with fail
  go_ret
  exact ⟨rfl, Below.refl _ _⟩
theorem atN_any (x : Int) (w : World) : Calls Try.prog 30 #[.pointer none, .int .i64 x] w fun e w' => e = .returned (.tuple #[.int .i64 0, .bool false]) ∧ Below w.heap.size w w' := by
  go_enter Try.func30, Try.ntmps30
  go_wp2_with fail
  go_ret2
  exact ⟨rfl, Below.refl _ _⟩
theorem dropN_any (x : Int) (w : World) : Calls Try.prog 28 #[.pointer none, .int .i64 x] w fun e w' => e = .returned (.bool false) ∧ Below w.heap.size w w' := by
  go_enter Try.func28, Try.ntmps28
  go_wp2_with fail
  go_ret
  exact ⟨rfl, Below.refl _ _⟩
theorem lenN_any (w : World) : Calls Try.prog 27 #[.pointer none] w fun e w' => e = .returned (.int .i64 0) ∧ Below w.heap.size w w' := by
  go_enter Try.func27, Try.ntmps27
  go_wp2_with fail
  go_ret
  exact ⟨rfl, Below.refl _ _⟩
end Go.Proofs.Ytnkeijdpjcclcaa.Mem

