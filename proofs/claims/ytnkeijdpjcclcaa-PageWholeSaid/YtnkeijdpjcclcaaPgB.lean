/- The contract of page.Make. -/
import Derived.Test.YtnkeijdpjcclcaaPgA
namespace Go.Proofs.Ytnkeijdpjcclcaa.Pg
set_option linter.unusedVariables false
set_option linter.unusedSimpArgs false
open Go.Proofs.Ytnkeijdpjcclcaa.Kit Go.Proofs.Ytnkeijdpjcclcaa.Num Go.RowKit Go.Proofs.YtnkeijdpjcclcaaW.PrintWords Go.Proofs.YtnkeijdpjcclcaaW.PrintLast Go.Proofs.YtnkeijdpjcclcaaW.PrintMore NumPure
/-- A pair, as it lies. -/
abbrev PB := ByteArray × ByteArray
def encP (p : PB) : List Value := [.string p.1, .string p.2]
theorem encP_one : ∀ p : PB, ∀ u ∈ encP p, u.oneCell' = true := by
  intro p u hu
  simp only [encP, List.mem_cons, List.not_mem_nil, or_false] at hu
  rcases hu with rfl | rfl <;> rfl
theorem encP_len (p : PB) : (encP p).length = 2 := rfl
def nn (ps : List PB) : List PR := ps.map fun p => (numsOf p.1, numsOf p.2)
theorem nn_length (ps : List PB) : (nn ps).length = ps.length := by simp [nn]
theorem nn_append (ps qs : List PB) : nn (ps ++ qs) = nn ps ++ nn qs := by simp [nn]
theorem nn_take (ps : List PB) (k : Nat) : nn (ps.take k) = (nn ps).take k := by simp [nn, List.map_take]
theorem numsOf_default : numsOf (default : PB).1 = [] ∧ numsOf (default : PB).2 = [] := by
  have h : (default : ByteArray) = ⟨#[]⟩ := rfl
  constructor
  · exact numsOf_empty
  · exact numsOf_empty
theorem nm_nn (ps : List PB) (k : Nat) : nmAt (nn ps) k = numsOf (ps.getD k default).1 := by
  unfold nmAt nn
  rw [List.getD_eq_getElem?_getD, List.getD_eq_getElem?_getD, List.getElem?_map]
  cases ps[k]? with
  | none => exact numsOf_default.1.symm
  | some p => rfl
theorem vl_nn (ps : List PB) (k : Nat) : vlAt (nn ps) k = numsOf (ps.getD k default).2 := by
  unfold vlAt nn
  rw [List.getD_eq_getElem?_getD, List.getD_eq_getElem?_getD, List.getElem?_map]
  cases ps[k]? with
  | none => exact numsOf_default.2.symm
  | some p => rfl
def lastS (ps : List PB) (k : Nat) : ByteArray := if k = 0 then ⟨#[]⟩ else (ps.getD (k - 1) default).1
theorem last_nn (ps : List PB) (k : Nat) : lastAt (nn ps) k = numsOf (lastS ps k) := by
  unfold lastAt lastS
  split
  · exact numsOf_empty.symm
  · exact nm_nn _ _
theorem lastS_succ (ps : List PB) (k : Nat) : lastS ps (k + 1) = (ps.getD k default).1 := by simp [lastS]
theorem sts22 : StTy Try.prog 22 30 2 := ⟨Try.underlying22, by kernel_rfl⟩
theorem info30 : (Try.prog.info? 30).map (·.size) = some 2 := by kernel_rfl
theorem leq_not : ∀ a b : List UInt8, (Op.bytesLess a b || a == b) = !Op.bytesLess b a
  | [], [] => rfl
  | [], _ :: _ => rfl
  | _ :: _, [] => rfl
  | x :: a, y :: b => by
    have ih := leq_not a b
    simp only [Op.bytesLess]
    by_cases h1 : x < y
    · have h2 : ¬ y < x := by
        have := UInt8.lt_iff_toNat_lt.1 h1
        intro h; have := UInt8.lt_iff_toNat_lt.1 h; omega
      have h3 : ¬ y = x := by
        intro h; subst h; exact h2 h1
      simp [h1, h2, h3]
    · by_cases h2 : y < x
      · have h3 : ¬ x = y := by
          intro h; subst h; exact h1 h2
        simp [h1, h2, h3]
      · have h3 : x = y := by
          have a1 : ¬ x.toNat < y.toNat := fun h => h1 (UInt8.lt_iff_toNat_lt.2 h)
          have a2 : ¬ y.toNat < x.toNat := fun h => h2 (UInt8.lt_iff_toNat_lt.2 h)
          exact UInt8.toNat_inj.1 (by omega)
        subst h3
        simpa [h1] using ih
instance (l : List PR) (k : Nat) : Decidable (Ord l k) := inferInstanceAs (Decidable (k = 0 ∨ ltN (lastAt l k) (nmAt l k) = true))
theorem lastS_size {ps : List PB} (h : ∀ p ∈ ps, p.1.size ≤ 1000000 ∧ p.2.size ≤ 1000000) (k : Nat) : (lastS ps k).size ≤ 1000000 := by
  unfold lastS
  split
  · exact Nat.zero_le _
  · rw [List.getD_eq_getElem?_getD]
    cases hp : ps[k - 1]? with
    | none => exact Nat.zero_le _
    | some p => exact (h p (List.mem_of_getElem? hp)).1
theorem op_str_leq {P : Program} {o : Oper} {l : List (Nat × Value)} {x y : Operand} {t : TypeId} {m : Nat} {a b : ByteArray} {r : Bool} {w : World} (ho : o.op = .binOp .leq t x y m) (hx : lk l x = .string a) (hy : lk l y = .string b) (h : (!Op.bytesLess b.toList a.toList) = r) : (execOp (lk l) o).run P w = .ok (.value (.bool r)) w := by
  subst h
  unfold execOp
  simp only [← leq_not]
  simp [ho, hx, hy, eqGuard, binOp, Op.stringOp]
/-- What a round of Make's loop holds. -/
structure MkR (w : World) (l : List PR) (k : Nat) (b wh : Value) (wr : World) : Prop where
  good : Good l k
  b_ : Gr .u8 5 wr w.heap.size b (bodyAt l k)
  wh_ : Gr .u8 5 wr w.heap.size wh (wholeAt l k)
  ap : Apart b wh
  bel : Below w.heap.size w wr
/-- What Make tells. -/
def MakePost (l : List PR) (w : World) (e : Ending) (w' : World) : Prop := Below w.heap.size w w' ∧ ∃ (v : Value) (ex : Nat), e = .returned (.tuple #[v, .int .i64 ex]) ∧
  ((ex = 0 ∧ Good l l.length ∧ Gr .u8 5 w' w.heap.size v (pageOf l)) ∨ (ex = 1 ∧ v = .slice none 0 0 ∧ ∃ k, k < l.length ∧ Good l k ∧ ¬ Ord l k) ∨ (ex = 6 ∧ v = .slice none 0 0 ∧ ∃ k, k < l.length ∧ Good l k ∧ Ord l k ∧ ¬ Fit l k))
theorem ord_bool (l : List PR) (k : Nat) (a b : ByteArray) (ha : lastAt l k = numsOf a) (hb : nmAt l k = numsOf b) : (decide ((0 : Int) < (k : Int)) && !Op.bytesLess a.toList b.toList) = decide (¬ Ord l k) := by
  rw [less_nums, ← ha, ← hb]
  by_cases hO : Ord l k
  · have e2 : decide (¬ Ord l k) = false := decide_eq_false (fun h => h hO)
    rw [e2]
    rcases hO with h | h
    · subst h; rfl
    · rw [h]; simp
  · have e2 : decide (¬ Ord l k) = true := decide_eq_true hO
    rw [e2]
    have h0 : ¬ k = 0 := fun h => hO (.inl h)
    have h1 : ltN (lastAt l k) (nmAt l k) = false := by
      cases h : ltN (lastAt l k) (nmAt l k) with
      | false => rfl
      | true => exact absurd (.inr h) hO
    have e1 : decide ((0 : Int) < (k : Int)) = true := decide_eq_true (by omega)
    rw [e1, h1]
    rfl
theorem reg_16_7 : RegOk (opsOf Try.f16 7) [[], [0], [0, 1], [0, 1, 2], [0, 1, 2, 3], [0, 1, 2], [0, 1, 2, 3, 4, 5], [0, 1, 2, 3, 4, 5, 6]] [] [some 18, some 19, some 20, some 21, some 22, some 23, some 24, some 25] := regOk (by kernel_rfl)
theorem reg_16_10 : RegOk (opsOf Try.f16 10) [[], [0], [0, 1]] [] [some 26, some 27, some 28] := regOk (by kernel_rfl)
theorem reg_16_14 : RegOk (opsOf Try.f16 14) [[], [], [1], [0, 1, 2], [], [4], [4, 5], [], [4, 5, 6, 7], [4, 5, 6, 7, 8], [0, 1, 2, 3, 4, 5, 6, 7, 8, 9], [], [11], [11, 12], [11, 12, 13], [0, 1, 2, 3, 4, 5, 6, 7, 8, 9, 10, 11, 12, 13, 14], [0, 1, 2, 3, 4, 5, 6, 7, 8, 9, 10, 11, 12, 13, 14, 15]] [3, 10, 15, 16] [some 40, some 41, some 42, some 43, some 44, some 45, some 46, some 47, some 48, some 49, some 50, some 51, some 52, some 53, some 54, some 55, some 4] := regOk (by kernel_rfl)
theorem reg_16_15 : RegOk (opsOf Try.f16 15) [[], [], [1], [], [1, 2, 3], [0, 1, 2, 3, 4], [], [6], [0, 1, 2, 3, 4, 5, 6, 7], [0, 1, 2, 3, 4, 5, 6, 7, 8]] [5, 8, 9] [some 56, some 57, some 58, some 59, some 60, some 61, some 62, some 63, some 64, some 4] := regOk (by kernel_rfl)
set_option maxRecDepth 20000 in
set_option maxHeartbeats 3200000 in
theorem make_any (A : Option Addr) (n c : Nat) (ps : List PB) (w : World) (hr : Sts encP 2 w A n ps) (hn : n ≤ 1000000) (hsz : ∀ p ∈ ps, p.1.size ≤ 1000000 ∧ p.2.size ≤ 1000000) :
    Calls Try.prog 16 #[.slice A n c] w (MakePost (nn ps) w) := by
  have hlen := hr.len
  have HR := Lib.hid hr
  have HSZ := Lib.hid hsz
  have HLEN := Lib.hid hlen
  clear hr hsz hlen
  go_enter Try.func16, Try.ntmps16
  go_wp2_with fail
  go_loopw [4, 5, 6, 7, 13] (fun b wh cn la i wr => ∃ k : Nat, k ≤ n ∧ i = .int .i64 k ∧ cn = .int .i64 (cntAt k : Nat) ∧ la = .string (lastS ps k) ∧ Hid (MkR w (nn ps) k b wh wr)) (fun _ _ _ _ i _ => n - (intOf i).toNat)
  case atStart => exact ⟨0, by omega, rfl, rfl, rfl, Lib.hid ⟨fun j hj => absurd hj (by omega), gr_nil _ _ _, gr_nil _ _ _, Apart.nil _, Below.refl _ _⟩⟩
  case round =>
    obtain ⟨k, hk, rfl, rfl, rfl, HM⟩ := hrel
    have hlast := last_nn ps k
    have hlz := lastS_size HSZ.out k
    by_cases hlt : k < n
    · have t1 : decide ((k : Int) < (n : Int)) = true := decide_eq_true (by omega)
      obtain ⟨ad, rfl, hc⟩ := (sts_below HR.out HM.out.bel).row (by omega)
      obtain ⟨⟨nm, vl⟩, hp⟩ : ∃ p : PB, ps[k]? = some p := ⟨_, List.getElem?_eq_getElem (by rw [HLEN.out]; exact hlt)⟩
      have hcell := hc k _ hp
      have hgd : ps.getD k default = (nm, vl) := by rw [List.getD_eq_getElem?_getD, hp]; rfl
      have HNm : Hid (nmAt (nn ps) k = numsOf nm) := Lib.hid (by rw [nm_nn, hgd])
      have HVl : Hid (vlAt (nn ps) k = numsOf vl) := Lib.hid (by rw [vl_nn, hgd])
      have HGD : Hid ((ps.getD k default).1 = nm) := Lib.hid (by rw [hgd])
      have hsm := HSZ.out _ (List.mem_of_getElem? hp)
      have hs1 : nm.size ≤ 1000000 := hsm.1
      have hs2 : vl.size ≤ 1000000 := hsm.2
      have hbf := body_fit HM.out.good
      have HGood := Lib.hid HM.out.good
      have HK := Lib.hid hlt
      obtain ⟨O, hO⟩ : ∃ O, decide (¬ Ord (nn ps) k) = O := ⟨_, rfl⟩
      have hob := ord_bool (nn ps) k (lastS ps k) nm hlast HNm.out
      rw [hO] at hob
      have HO := Lib.hid hO
      have HOB := Lib.hid hob
      have HLast := Lib.hid hlast
      generalize lastS ps k = la at HOB HLast hlz ⊢
      clear hO hob hc hp hgd hsm hlast
      go_upto_region 7 with (first
        | (refine wpList_index_st rfl 22 _ _ rfl sts22 rfl rfl rfl hlt ?_)
        | (refine wpList_load_at rfl 30 _ rfl _ [.string nm, .string vl] rfl hcell Try.underlying30 rfl info30 ?_)
        | (refine wpList_store_box rfl 30 (.tmp 9) (.tmp 17) rfl wr.heap.size [.string nm, .string vl] rfl rfl (heap_alloc_new wr _) rfl info30 rfl ?_; intro w1 hs1; have HS1 := Lib.hid hs1; clear hs1))
      have hb1 : Below wr.heap.size wr w1 := HS1.out.then_ (below_alloc (Below.refl _ _) _) (Nat.le_refl _)
      have HX1 := Lib.hid HS1.out.at_
      have HB1 := Lib.hid (gr_below HM.out.b_ hb1)
      have HW1 := Lib.hid (gr_below HM.out.wh_ hb1)
      have HBel1 := Lib.hid (below_then HM.out.bel HM.out.bel.size hb1)
      have HAp1 := Lib.hid HM.out.ap
      have HNB : Hid (u4.ownBlock ≠ some wr.heap.size) := Lib.hid (fun h => by have := gr_lt HM.out.b_ _ h; omega)
      have HNW : Hid (u5.ownBlock ≠ some wr.heap.size) := Lib.hid (fun h => by have := gr_lt HM.out.wh_ _ h; omega)
      clear HM hb1 HS1 hcell
      generalize wr.heap.size = B at HX1 HNB HNW ⊢
      obtain ⟨Ab, nb, cb, rfl, hbc, HLb, hbm, _⟩ := gr_open HB1.out
      have hcq : cntAt k ≤ 1000000 := by unfold cntAt; omega
      have hnb : (bodyAt (nn ps) k).length = nb := HLb.out
      refine plain_ (fun wq => Below w1.heap.size w1 wq) (fun _ => True) reg_16_7 rfl inv0 (fun _ _ _ _ => trivial) (Below.refl _ _) trivial ?_
      refine w_move (.inl rfl) (fun vs w hK => ⟨wants_none rfl, rho_out rfl rfl⟩) ?_
      refine w_val [(18, _)] (_) (fun vs w hK => ⟨wants_none rfl, rho_in rfl (fv (hK 0 (memE rfl))), trivial⟩) rfl (fun wq hI => by exact run_int_gtr rfl rfl rfl rfl) ?_
      refine w_move (.inl rfl) (fun vs w hK => ⟨wants_none rfl, rho_in rfl (fv (hK 1 (memE rfl)))⟩) ?_
      refine w_valG [(9, _)] (_) (fun vs w hK => wantsT rfl (fv (hK 2 (memE rfl)))) (fun hG vs w hK => ⟨(rho_out rfl rfl), trivial⟩) rfl (fun hG wq hI => by simp only [execOp, Option.map_some, Option.map_none, lk_tmp, lk_const, lkT_cons, ↓reduceIte, Nat.reduceEqDiff]; go_simp; (first | done | rfl)) ?_
      refine w_valG [(21, _)] (_) (fun vs w hK => wantsT rfl (fv (hK 2 (memE rfl)))) (fun hG vs w hK => ⟨(rho_in rfl (fvg (hK 3 (memE rfl)) hG)), trivial⟩) rfl (fun hG wq hI => by exact run_load_cell (v := .string nm) rfl rfl rfl Try.underlying9 rfl (by have := box_stays HX1.out hI; simp [World.cell?, this])) ?_
      refine w_moveG (.inl rfl) (fun vs w hK => wantsT rfl (fv (hK 2 (memE rfl)))) (fun hG vs w hK => (rho_out rfl rfl)) ?_
      refine w_valG [(22, _), (23, _)] (_) (fun vs w hK => wantsT rfl (fv (hK 2 (memE rfl)))) (fun hG vs w hK => ⟨(rho_in rfl (fvg (hK 4 (memE rfl)) hG)), (rho_in rfl (fvg (hK 5 (memE rfl)) hG)), trivial⟩) rfl (fun hG wq hI => by exact op_str_leq rfl rfl rfl rfl) ?_
      refine w_and rfl (fun vs w hK => wants_none rfl) (fun vs w hK => (rho_in rfl (fv (hK 2 (memE rfl))))) (fun hB vs w hK => (rho_in rfl (fvg (hK 6 (memE rfl)) hB))) ?_
      refine w_as (c' := .bool O) (congrArg Value.bool HOB.out) ?_
      refine w_endM [false, false, false, false, false, false, false, true] rfl rfl rfl (fun vs wq hI hF => ?_)
      simp only [List.reverse_cons, List.reverse_nil, List.nil_append, List.cons_append, finL_val, finL_of, finL_any, finL_app, finL_new, finL_gr, finL_row, finL_box, finL_nil, Act.put, List.setIfInBounds_toArray, List.set_cons_zero, List.set_cons_succ, Nat.reduceAdd, maskF, finL_imp, Bool.not_false, Bool.not_true, Bool.true_and, Bool.false_and]
      have HX2 := Lib.hid (box_stays HX1.out hI)
      have HB2 := Lib.hid (gr_below HB1.out hI)
      have HW2 := Lib.hid (gr_below HW1.out hI)
      have HBel2 := Lib.hid (below_then HBel1.out HBel1.out.size hI)
      clear hI hF HX1 HB1 HW1 HBel1
      obtain ⟨w2, rfl⟩ : ∃ w2 : World, w2 = wq := ⟨_, rfl⟩
      cases O with
      | true =>
        have HQ : Hid (¬ Ord (nn ps) k) := Lib.hid (of_decide_eq_true HO.out)
        go_wp2_with fail
        go_ret2
        exact ⟨HBel2.out, _, 1, rfl, .inr (.inl ⟨rfl, rfl, k, by rw [nn_length, HLEN.out]; exact HK.out, HGood.out, HQ.out⟩)⟩
      | false =>
      have HOrd : Hid (Ord (nn ps) k) := Lib.hid (Decidable.of_not_not (of_decide_eq_false HO.out))
      clear HO HOB
      obtain ⟨E, hE⟩ : ∃ E, decide (k % 8 = 0) = E := ⟨_, rfl⟩
      have HE1 : Hid ((((k % 8 : Nat) : Int) == 0) = E) := Lib.hid (by
        rw [← hE]
        by_cases h : k % 8 = 0
        · rw [h]; rfl
        · rw [decide_eq_false h]; simp only [beq_eq_false_iff_ne]; omega)
      have HE2 := Lib.hid hE
      clear hE
      go_upto_region 10 with fail
      refine plain_ (fun wq => Below w2.heap.size w2 wq) (fun _ => True) reg_16_10 rfl inv0 (fun _ _ _ _ => trivial) (Below.refl _ _) trivial ?_
      refine w_move (.inl rfl) (fun vs w hK => ⟨wants_none rfl, rho_out rfl rfl⟩) ?_
      refine w_val [(26, _)] (_) (fun vs w hK => ⟨wants_none rfl, rho_in rfl (fv (hK 0 (memE rfl))), trivial⟩) rfl (fun wq hI => by exact op_rem rfl rfl rfl (by decide) (rem_nat k 8)) ?_
      refine w_val [(27, _)] (_) (fun vs w hK => ⟨wants_none rfl, rho_in rfl (fv (hK 1 (memE rfl))), trivial⟩) rfl (fun wq hI => by exact run_int_eql (r := E) rfl rfl rfl HE1.out) ?_
      refine w_end rfl rfl rfl (fun vs wq hI hF => ?_)
      simp only [List.reverse_cons, List.reverse_nil, List.nil_append, List.cons_append, finL_val, finL_of, finL_any, finL_app, finL_new, finL_gr, finL_row, finL_box, finL_nil, Act.put, List.setIfInBounds_toArray, List.set_cons_zero, List.set_cons_succ, Nat.reduceAdd]
      have HX3 := Lib.hid (box_stays HX2.out hI)
      have HB3 := Lib.hid (gr_below HB2.out hI)
      have HW3 := Lib.hid (gr_below HW2.out hI)
      have HBel3 := Lib.hid (below_then HBel2.out HBel2.out.size hI)
      clear hI hF HX2 HB2 HW2 HBel2 HE1
      obtain ⟨w3, rfl⟩ : ∃ w3 : World, w3 = wq := ⟨_, rfl⟩
      have h12 := put7_len10 (n := vl.size) (by omega)
      cases E with
      | true =>
        have HE : Hid (k % 8 = 0) := Lib.hid (of_decide_eq_true HE2.out)
        have hwn : IntKind.u64.wrap (nb : Int) = (nb : Int) := u64_nat nb (by omega)
        go_wp2_with fail
        refine (putLittle_any nb 4 (by omega) u5 (wholeAt (nn ps) k) w _ HW3.out HBel3.out (by rw [whole_length]; unfold cntAt; omega)).mono ?_
        rintro e w4 ⟨v4, rfl, hA⟩
        have HBb := Lib.hid (hA.fr.keep_gr HB3.out HAp1.out)
        have HAp := Lib.hid (hA.fr.apart_gr HB3.out HAp1.out)
        have HBel := Lib.hid hA.bel
        have hwe : wholeAt (nn ps) k ++ le nb (min (4 : Int).toNat 8) = wholeAt (nn ps) (k + 1) := by
          rw [show wholeAt (nn ps) (k + 1) = if k % 8 = 0 then wholeAt (nn ps) k ++ le (bodyAt (nn ps) k).length 4 else wholeAt (nn ps) k from rfl, if_pos HE.out, hnb]
          rfl
        have HWh := Lib.hid (hwe ▸ hA.own)
        have HX : Hid (w4.heap[B]? = some (.cells #[.string nm, .string vl] 30 (0, 0))) := Lib.hid (by rw [hA.fr.grown.block B (mk_lt HX3.out) (Ne.symm HNW.out)]; exact HX3.out)
        have HSame : Hid (sameAt (nn ps) k = 0) := Lib.hid (by unfold sameAt; rw [if_pos HE.out])
        have hSn : 0 ≤ nm.size := Nat.zero_le _
        have hES : (nm.extract 0 nm.size).size = nm.size - 0 := by simp
        have h10 := put7_len10 (n := 0) (by omega)
        have h11 := put7_len10 (n := nm.size - 0) (by omega)
        clear hA hwe hwn HX3 HB3 HW3 HBel3 HAp1 HE2
        generalize hxs4 : bodyAt (nn ps) k = xs4 at HBb hnb hbf
        have HXS := Lib.hid hxs4
        clear hxs4
        have HJ0 := Lib.hid (app_start HBb.out HBel.out (below_drew (Below.refl _ _)) : AppB w w4 w4.drew (.slice Ab nb cb) (.slice Ab nb cb) xs4)
        have HI0 := Lib.hid (Keeps.mk (below_drew HBel.out) HX.out : Keeps w B (.cells #[.string nm, .string vl] 30 (0, 0)) w4.drew)
        have HG := Lib.hid (mk_lt HX.out)
        go_upto_region 14 with fail
        refine draws_ (Keeps w B (.cells #[.string nm, .string vl] 30 (0, 0))) (fun w' => AppB w w4 w' (.slice Ab nb cb) (.slice Ab nb cb) xs4) (by kernel_rfl) reg_16_14 rfl keeps_below app_st HI0.out HJ0.out ?_
        refine w_move (.inl rfl) (fun vs w hK => ⟨wants_none rfl, rho_out rfl rfl⟩) ?_
        refine w_move (.inl rfl) (fun vs w hK => ⟨wants_none rfl, rho_out rfl rfl⟩) ?_
        refine w_val [(41, _)] (_) (fun vs w hK => ⟨wants_none rfl, rho_in rfl (fv (hK 1 (memE rfl))), trivial⟩) rfl (fun wq hI => by exact op_conv_int rfl Try.underlying3 Try.underlying32 rfl (u64_nat 0 (by omega))) ?_
        refine w_lin (FW.app .u8 5 w w4 (.slice Ab nb cb) (xs4 ++ put7 0)) (by decide) (fun vs wq hI hJ hK => ?_) ?_
        · have hA := hJ (by decide) (by decide)
          refine ob_call [(40, _), (42, _)] _ (wants_none rfl) ⟨rho_in rfl (fv (hK 0 (memE rfl))), rho_in rfl (fv (hK 2 (memE rfl))), trivial⟩ rfl rfl Try.func18 (by kernel_rfl) rfl (margs rfl) ((put_any 0 (by omega) (.slice Ab nb cb) xs4 w wq hA.own hA.bel (by omega)).mono ?_)
          rintro e w5 ⟨v5, rfl, hA2⟩
          exact ⟨v5, rfl, keeps_fr hI hA2.bel hA2.fr (app_ne hA HG.out HNB.out), app_next hA hA2⟩
        refine w_val [(9, _)] _ (fun vs w hK => ⟨wants_none rfl, rho_out rfl rfl, trivial⟩) rfl (fun wq hI => by simp only [execOp, Option.map_some, Option.map_none, lk_tmp, lk_const, lkT_cons, ↓reduceIte, Nat.reduceEqDiff]; go_simp; (first | done | rfl)) ?_
        refine w_val [(44, _)] (_) (fun vs w hK => ⟨wants_none rfl, rho_in rfl (fv (hK 4 (memE rfl))), trivial⟩) rfl (fun wq hI => by exact run_load_cell (ad := ⟨B, 0, none⟩) (v := .string nm) rfl rfl rfl Try.underlying9 rfl (by simp [World.cell?, hI.at_])) ?_
        refine w_val [(45, _)] (_) (fun vs w hK => ⟨wants_none rfl, rho_in rfl (fv (hK 5 (memE rfl))), trivial⟩) rfl (fun wq hI => by exact run_len_str rfl Try.underlying9 rfl rfl) ?_
        refine w_move (.inl rfl) (fun vs w hK => ⟨wants_none rfl, rho_out rfl rfl⟩) ?_
        refine w_val [(46, _), (47, _)] (_) (fun vs w hK => ⟨wants_none rfl, rho_in rfl (fv (hK 6 (memE rfl))), rho_in rfl (fv (hK 7 (memE rfl))), trivial⟩) rfl (fun wq hI => by exact run_int_sub (c := ((nm.size - 0 : Nat) : Int)) rfl rfl rfl (by rw [i64_id (by omega) (by omega)]; omega)) ?_
        refine w_val [(48, _)] (_) (fun vs w hK => ⟨wants_none rfl, rho_in rfl (fv (hK 8 (memE rfl))), trivial⟩) rfl (fun wq hI => by exact op_conv_int rfl Try.underlying3 Try.underlying32 rfl (u64_nat (nm.size - 0) (by omega))) ?_
        refine w_lin (FW.app .u8 5 w w4 (.slice Ab nb cb) (xs4 ++ put7 0 ++ put7 (nm.size - 0))) (by decide) (fun vs wq hI hJ hK => ?_) ?_
        · have hA : AppB w w4 wq (.slice Ab nb cb) (vs 3) (xs4 ++ put7 0) := hK 3 (memE rfl)
          refine ob_call [(43, _), (49, _)] _ (wants_none rfl) ⟨rho_in rfl rfl, rho_in rfl (fv (hK 9 (memE rfl))), trivial⟩ rfl rfl Try.func18 (by kernel_rfl) rfl (margs rfl) ((put_any (nm.size - 0) (by omega) (vs 3) (xs4 ++ put7 0) w wq hA.own hA.bel (by rw [List.length_append]; omega)).mono ?_)
          rintro e w5 ⟨v5, rfl, hA2⟩
          exact ⟨v5, rfl, keeps_fr hI hA2.bel hA2.fr (app_ne hA HG.out HNB.out), app_next hA hA2⟩
        refine w_val [(9, _)] _ (fun vs w hK => ⟨wants_none rfl, rho_out rfl rfl, trivial⟩) rfl (fun wq hI => by simp only [execOp, Option.map_some, Option.map_none, lk_tmp, lk_const, lkT_cons, ↓reduceIte, Nat.reduceEqDiff]; go_simp; (first | done | rfl)) ?_
        refine w_val [(51, _)] (_) (fun vs w hK => ⟨wants_none rfl, rho_in rfl (fv (hK 11 (memE rfl))), trivial⟩) rfl (fun wq hI => by exact run_load_cell (ad := ⟨B, 1, none⟩) (v := .string vl) rfl rfl rfl Try.underlying9 rfl (by simp [World.cell?, hI.at_])) ?_
        refine w_val [(52, _)] (_) (fun vs w hK => ⟨wants_none rfl, rho_in rfl (fv (hK 12 (memE rfl))), trivial⟩) rfl (fun wq hI => by exact run_len_str rfl Try.underlying9 rfl rfl) ?_
        refine w_val [(53, _)] (_) (fun vs w hK => ⟨wants_none rfl, rho_in rfl (fv (hK 13 (memE rfl))), trivial⟩) rfl (fun wq hI => by exact op_conv_int rfl Try.underlying3 Try.underlying32 rfl (u64_nat vl.size (by omega))) ?_
        refine w_lin (FW.app .u8 5 w w4 (.slice Ab nb cb) (xs4 ++ put7 0 ++ put7 (nm.size - 0) ++ put7 vl.size)) (by decide) (fun vs wq hI hJ hK => ?_) ?_
        · have hA : AppB w w4 wq (.slice Ab nb cb) (vs 10) (xs4 ++ put7 0 ++ put7 (nm.size - 0)) := hK 10 (memE rfl)
          refine ob_call [(50, _), (54, _)] _ (wants_none rfl) ⟨rho_in rfl rfl, rho_in rfl (fv (hK 14 (memE rfl))), trivial⟩ rfl rfl Try.func18 (by kernel_rfl) rfl (margs rfl) ((put_any vl.size (by omega) (vs 10) (xs4 ++ put7 0 ++ put7 (nm.size - 0)) w wq hA.own hA.bel (by rw [List.length_append, List.length_append]; omega)).mono ?_)
          rintro e w5 ⟨v5, rfl, hA2⟩
          exact ⟨v5, rfl, keeps_fr hI hA2.bel hA2.fr (app_ne hA HG.out HNB.out), app_next hA hA2⟩
        refine w_lin (FW.app .u8 5 w w4 (.slice Ab nb cb) (xs4 ++ put7 0 ++ put7 (nm.size - 0) ++ put7 vl.size)) (by decide) (fun vs wq hI hJ hK => ?_) ?_
        · exact ob_copy (.inr rfl) (wants_none rfl) (rho_in rfl rfl) ⟨hI, hK 15 (memE rfl)⟩
        refine w_end rfl rfl rfl (fun vs wq hI hF => ?_)
        simp only [List.reverse_cons, List.reverse_nil, List.nil_append, List.cons_append, finL_val, finL_of, finL_any, finL_app, finL_new, finL_gr, finL_row, finL_box, finL_nil, Act.put, List.setIfInBounds_toArray, List.set_cons_zero, List.set_cons_succ, Nat.reduceAdd]
        have hfin : AppB w w4 wq (.slice Ab nb cb) (vs 16) (xs4 ++ put7 0 ++ put7 (nm.size - 0) ++ put7 vl.size) := hF 16 (by decide) rfl
        have HBb5 := Lib.hid hfin.own
        have HBel5 := Lib.hid hfin.bel
        have HWh5 := Lib.hid (hfin.fr.keep_gr HWh.out HAp.out.symm)
        have HAp5 := Lib.hid (hfin.fr.apart_gr HWh.out HAp.out.symm)
        have HNB5 := Lib.hid (app_ne hfin HG.out HNB.out)
        have HX5 := Lib.hid hI.at_
        have hl5 : (xs4 ++ put7 0 ++ put7 (nm.size - 0) ++ put7 vl.size).length ≤ 262144 + 30 := by
          simp only [List.length_append]
          omega
        have HE5 : Hid (xs4 ++ put7 0 ++ put7 (nm.size - 0) ++ put7 vl.size ++ numsOf (nm.extract 0 nm.size) ++ numsOf vl = bodyAt (nn ps) (k + 1)) := Lib.hid (by
          rw [show bodyAt (nn ps) (k + 1) = bodyAt (nn ps) k ++ rowOf (sameAt (nn ps) k) (nmAt (nn ps) k) (vlAt (nn ps) k) from rfl, HSame.out, HNm.out, HVl.out, HXS.out, rowOf, numsOf_length, numsOf_length, numsOf_extract, List.take_of_length_le (by rw [List.length_drop, numsOf_length]; exact Nat.le_refl _)]
          simp only [List.append_assoc])
        clear hfin hF hI HBb HBel HWh HAp HNB HX HJ0 HI0 HG h10 h11 h12
        generalize xs4 ++ put7 0 ++ put7 (nm.size - 0) ++ put7 vl.size = xs5 at HBb5 HE5 hl5
        generalize vs 16 = b5 at HBb5 HAp5 HNB5 ⊢
        obtain ⟨w5, rfl⟩ : ∃ w5 : World, w5 = wq := ⟨_, rfl⟩
        have HJ0 := Lib.hid (app_start HBb5.out HBel5.out (below_drew (Below.refl _ _)) : AppB w w5 w5.drew b5 b5 xs5)
        have HI0 := Lib.hid (Keeps.mk (below_drew HBel5.out) HX5.out : Keeps w B (.cells #[.string nm, .string vl] 30 (0, 0)) w5.drew)
        have HG := Lib.hid (mk_lt HX5.out)
        go_upto_region 15 with fail
        refine draws_ (Keeps w B (.cells #[.string nm, .string vl] 30 (0, 0))) (fun w' => AppB w w5 w' b5 b5 xs5) (by kernel_rfl) reg_16_15 rfl keeps_below app_st HI0.out HJ0.out ?_
        refine w_move (.inl rfl) (fun vs w hK => ⟨wants_none rfl, rho_out rfl rfl⟩) ?_
        refine w_val [(9, _)] _ (fun vs w hK => ⟨wants_none rfl, rho_out rfl rfl, trivial⟩) rfl (fun wq hI => by simp only [execOp, Option.map_some, Option.map_none, lk_tmp, lk_const, lkT_cons, ↓reduceIte, Nat.reduceEqDiff]; go_simp; (first | done | rfl)) ?_
        refine w_val [(57, _)] (_) (fun vs w hK => ⟨wants_none rfl, rho_in rfl (fv (hK 1 (memE rfl))), trivial⟩) rfl (fun wq hI => by exact run_load_cell (ad := ⟨B, 0, none⟩) (v := .string nm) rfl rfl rfl Try.underlying9 rfl (by simp [World.cell?, hI.at_])) ?_
        refine w_move (.inl rfl) (fun vs w hK => ⟨wants_none rfl, rho_out rfl rfl⟩) ?_
        refine w_val [(58, _), (59, _)] (_) (fun vs w hK => ⟨wants_none rfl, rho_in rfl (fv (hK 2 (memE rfl))), rho_in rfl (fv (hK 3 (memE rfl))), trivial⟩) rfl (fun wq hI => by exact op_cut_from (a := 0) rfl Try.underlying9 rfl rfl rfl hSn rfl) ?_
        refine w_lin (FW.app .u8 5 w w5 b5 (xs5 ++ numsOf (nm.extract 0 nm.size))) (by decide) (fun vs wq hI hJ hK => ?_) ?_
        · have hA := hJ (by decide) (by decide)
          obtain ⟨v1, w1, hrun, hA1⟩ := gr_run_str tb rfl Try.underlying9 25 (nm.extract 0 nm.size) hA.own hA.bel.size (by rw [hES]; omega)
          have hA2 := app_of_run hA hA1
          exact ob_run [(56, _), (60, _)] (wants_none rfl) ⟨rho_in rfl (fv (hK 0 (memE rfl))), rho_in rfl (fv (hK 4 (memE rfl))), trivial⟩ rfl (run_append_op rfl rfl rfl hrun) ⟨keeps_fr hI hA2.bel hA1.fr (app_ne hA HG.out HNB5.out), hA2⟩
        refine w_val [(9, _)] _ (fun vs w hK => ⟨wants_none rfl, rho_out rfl rfl, trivial⟩) rfl (fun wq hI => by simp only [execOp, Option.map_some, Option.map_none, lk_tmp, lk_const, lkT_cons, ↓reduceIte, Nat.reduceEqDiff]; go_simp; (first | done | rfl)) ?_
        refine w_val [(62, _)] (_) (fun vs w hK => ⟨wants_none rfl, rho_in rfl (fv (hK 6 (memE rfl))), trivial⟩) rfl (fun wq hI => by exact run_load_cell (ad := ⟨B, 1, none⟩) (v := .string vl) rfl rfl rfl Try.underlying9 rfl (by simp [World.cell?, hI.at_])) ?_
        refine w_lin (FW.app .u8 5 w w5 b5 (xs5 ++ numsOf (nm.extract 0 nm.size) ++ numsOf vl)) (by decide) (fun vs wq hI hJ hK => ?_) ?_
        · have hA : AppB w w5 wq b5 (vs 5) (xs5 ++ numsOf (nm.extract 0 nm.size)) := hK 5 (memE rfl)
          obtain ⟨v1, w1, hrun, hA1⟩ := gr_run_str tb rfl Try.underlying9 25 vl hA.own hA.bel.size (by rw [List.length_append, numsOf_length, hES]; omega)
          have hA2 := app_of_run hA hA1
          exact ob_run [(61, _), (63, _)] (wants_none rfl) ⟨rho_in rfl rfl, rho_in rfl (fv (hK 7 (memE rfl))), trivial⟩ rfl (run_append_op rfl rfl rfl hrun) ⟨keeps_fr hI hA2.bel hA1.fr (app_ne hA HG.out HNB5.out), hA2⟩
        refine w_lin (FW.app .u8 5 w w5 b5 (xs5 ++ numsOf (nm.extract 0 nm.size) ++ numsOf vl)) (by decide) (fun vs wq hI hJ hK => ?_) ?_
        · exact ob_copy (.inr rfl) (wants_none rfl) (rho_in rfl rfl) ⟨hI, hK 8 (memE rfl)⟩
        refine w_end rfl rfl rfl (fun vs wq hI hF => ?_)
        simp only [List.reverse_cons, List.reverse_nil, List.nil_append, List.cons_append, finL_val, finL_of, finL_any, finL_app, finL_new, finL_gr, finL_row, finL_box, finL_nil, Act.put, List.setIfInBounds_toArray, List.set_cons_zero, List.set_cons_succ, Nat.reduceAdd]
        have hfin : AppB w w5 wq b5 (vs 9) (xs5 ++ numsOf (nm.extract 0 nm.size) ++ numsOf vl) := hF 9 (by decide) rfl
        rw [HE5.out] at hfin
        have HBb6 := Lib.hid hfin.own
        have HBel6 := Lib.hid hfin.bel
        have HWh6 := Lib.hid (hfin.fr.keep_gr HWh5.out HAp5.out)
        have HAp6 := Lib.hid (hfin.fr.apart_gr HWh5.out HAp5.out)
        have HX6 := Lib.hid hI.at_
        clear hfin hF hI HBb5 HBel5 HWh5 HAp5 HNB5 HX5 HE5 HJ0 HI0 HG
        generalize vs 9 = b6 at HBb6 HAp6 ⊢
        obtain ⟨w6, rfl⟩ : ∃ w6 : World, w6 = wq := ⟨_, rfl⟩
        obtain ⟨A6, n6, c6, rfl, h6c, HL6, h6m, _⟩ := gr_open HBb6.out
        have hcx : w6.cell? ⟨B, 0, none⟩ = some (.string nm) := by simp [World.cell?, HX6.out]
        have HL6' : (bodyAt (nn ps) (k + 1)).length = n6 := HL6.out
        by_cases hF : 262144 < n6
        · have t4 : decide ((262144 : Int) < (n6 : Int)) = true := decide_eq_true (by omega)
          have HQ : Hid (¬ Fit (nn ps) k) := Lib.hid (by unfold Fit; rw [HL6']; omega)
          clear HL6' hF
          go_wp2_with fail
          go_ret2
          exact ⟨HBel6.out, _, 6, rfl, .inr (.inr ⟨rfl, rfl, k, by rw [nn_length, HLEN.out]; exact HK.out, HGood.out, HOrd.out, HQ.out⟩)⟩
        · have t4 : decide ((262144 : Int) < (n6 : Int)) = false := decide_eq_false (by omega)
          have HQ : Hid (Fit (nn ps) k) := Lib.hid (by unfold Fit; rw [HL6']; omega)
          clear HL6' hF
          go_wp2_with fail
          go_roundw
          case rel => exact ⟨k + 1, by omega, by go_num, by rw [cnt_succ, if_pos HE.out]; go_num, by rw [lastS_succ, HGD.out], Lib.hid ⟨good_succ HGood.out HOrd.out HQ.out, HBb6.out, HWh6.out, HAp6.out.symm, HBel6.out⟩⟩
          case measure => simp [intOf]; omega
      | false =>
        have HE : Hid (¬ k % 8 = 0) := Lib.hid (of_decide_eq_false HE2.out)
        have hcx : w3.cell? ⟨B, 0, none⟩ = some (.string nm) := by simp [World.cell?, HX3.out]
        go_wp2_with fail
        refine (common_any la nm _ (by omega)).mono ?_
        rintro e w4 ⟨rfl, hb4⟩
        have HBb := Lib.hid (gr_below HB3.out hb4)
        have HAp := HAp1
        have HBel := Lib.hid (below_then HBel3.out HBel3.out.size hb4)
        have HX : Hid (w4.heap[B]? = some (.cells #[.string nm, .string vl] 30 (0, 0))) := Lib.hid (box_stays HX3.out hb4)
        have hwe : wholeAt (nn ps) k = wholeAt (nn ps) (k + 1) := by
          rw [show wholeAt (nn ps) (k + 1) = if k % 8 = 0 then wholeAt (nn ps) k ++ le (bodyAt (nn ps) k).length 4 else wholeAt (nn ps) k from rfl, if_neg HE.out]
        have HWh := Lib.hid (hwe ▸ gr_below HW3.out hb4)
        have hsame : sameAt (nn ps) k = cmn (numsOf la) (numsOf nm) := by unfold sameAt; rw [if_neg HE.out, HLast.out, HNm.out]
        have hSn : cmn (numsOf la) (numsOf nm) ≤ nm.size := by rw [← numsOf_length]; exact cmn_right _ _
        generalize cmn (numsOf la) (numsOf nm) = S at hsame hSn ⊢
        have HSame := Lib.hid hsame
        have hES : (nm.extract S nm.size).size = nm.size - S := by simp
        have h10 := put7_len10 (n := S) (by omega)
        have h11 := put7_len10 (n := nm.size - S) (by omega)
        clear hb4 hwe hsame hcx HX3 HB3 HW3 HBel3 HAp1 HE2
        generalize hxs4 : bodyAt (nn ps) k = xs4 at HBb hnb hbf
        have HXS := Lib.hid hxs4
        clear hxs4
        have HJ0 := Lib.hid (app_start HBb.out HBel.out (below_drew (Below.refl _ _)) : AppB w w4 w4.drew (.slice Ab nb cb) (.slice Ab nb cb) xs4)
        have HI0 := Lib.hid (Keeps.mk (below_drew HBel.out) HX.out : Keeps w B (.cells #[.string nm, .string vl] 30 (0, 0)) w4.drew)
        have HG := Lib.hid (mk_lt HX.out)
        go_upto_region 14 with fail
        refine draws_ (Keeps w B (.cells #[.string nm, .string vl] 30 (0, 0))) (fun w' => AppB w w4 w' (.slice Ab nb cb) (.slice Ab nb cb) xs4) (by kernel_rfl) reg_16_14 rfl keeps_below app_st HI0.out HJ0.out ?_
        refine w_move (.inl rfl) (fun vs w hK => ⟨wants_none rfl, rho_out rfl rfl⟩) ?_
        refine w_move (.inl rfl) (fun vs w hK => ⟨wants_none rfl, rho_out rfl rfl⟩) ?_
        refine w_val [(41, _)] (_) (fun vs w hK => ⟨wants_none rfl, rho_in rfl (fv (hK 1 (memE rfl))), trivial⟩) rfl (fun wq hI => by exact op_conv_int rfl Try.underlying3 Try.underlying32 rfl (u64_nat S (by omega))) ?_
        refine w_lin (FW.app .u8 5 w w4 (.slice Ab nb cb) (xs4 ++ put7 S)) (by decide) (fun vs wq hI hJ hK => ?_) ?_
        · have hA := hJ (by decide) (by decide)
          refine ob_call [(40, _), (42, _)] _ (wants_none rfl) ⟨rho_in rfl (fv (hK 0 (memE rfl))), rho_in rfl (fv (hK 2 (memE rfl))), trivial⟩ rfl rfl Try.func18 (by kernel_rfl) rfl (margs rfl) ((put_any S (by omega) (.slice Ab nb cb) xs4 w wq hA.own hA.bel (by omega)).mono ?_)
          rintro e w5 ⟨v5, rfl, hA2⟩
          exact ⟨v5, rfl, keeps_fr hI hA2.bel hA2.fr (app_ne hA HG.out HNB.out), app_next hA hA2⟩
        refine w_val [(9, _)] _ (fun vs w hK => ⟨wants_none rfl, rho_out rfl rfl, trivial⟩) rfl (fun wq hI => by simp only [execOp, Option.map_some, Option.map_none, lk_tmp, lk_const, lkT_cons, ↓reduceIte, Nat.reduceEqDiff]; go_simp; (first | done | rfl)) ?_
        refine w_val [(44, _)] (_) (fun vs w hK => ⟨wants_none rfl, rho_in rfl (fv (hK 4 (memE rfl))), trivial⟩) rfl (fun wq hI => by exact run_load_cell (ad := ⟨B, 0, none⟩) (v := .string nm) rfl rfl rfl Try.underlying9 rfl (by simp [World.cell?, hI.at_])) ?_
        refine w_val [(45, _)] (_) (fun vs w hK => ⟨wants_none rfl, rho_in rfl (fv (hK 5 (memE rfl))), trivial⟩) rfl (fun wq hI => by exact run_len_str rfl Try.underlying9 rfl rfl) ?_
        refine w_move (.inl rfl) (fun vs w hK => ⟨wants_none rfl, rho_out rfl rfl⟩) ?_
        refine w_val [(46, _), (47, _)] (_) (fun vs w hK => ⟨wants_none rfl, rho_in rfl (fv (hK 6 (memE rfl))), rho_in rfl (fv (hK 7 (memE rfl))), trivial⟩) rfl (fun wq hI => by exact run_int_sub (c := ((nm.size - S : Nat) : Int)) rfl rfl rfl (by rw [i64_id (by omega) (by omega)]; omega)) ?_
        refine w_val [(48, _)] (_) (fun vs w hK => ⟨wants_none rfl, rho_in rfl (fv (hK 8 (memE rfl))), trivial⟩) rfl (fun wq hI => by exact op_conv_int rfl Try.underlying3 Try.underlying32 rfl (u64_nat (nm.size - S) (by omega))) ?_
        refine w_lin (FW.app .u8 5 w w4 (.slice Ab nb cb) (xs4 ++ put7 S ++ put7 (nm.size - S))) (by decide) (fun vs wq hI hJ hK => ?_) ?_
        · have hA : AppB w w4 wq (.slice Ab nb cb) (vs 3) (xs4 ++ put7 S) := hK 3 (memE rfl)
          refine ob_call [(43, _), (49, _)] _ (wants_none rfl) ⟨rho_in rfl rfl, rho_in rfl (fv (hK 9 (memE rfl))), trivial⟩ rfl rfl Try.func18 (by kernel_rfl) rfl (margs rfl) ((put_any (nm.size - S) (by omega) (vs 3) (xs4 ++ put7 S) w wq hA.own hA.bel (by rw [List.length_append]; omega)).mono ?_)
          rintro e w5 ⟨v5, rfl, hA2⟩
          exact ⟨v5, rfl, keeps_fr hI hA2.bel hA2.fr (app_ne hA HG.out HNB.out), app_next hA hA2⟩
        refine w_val [(9, _)] _ (fun vs w hK => ⟨wants_none rfl, rho_out rfl rfl, trivial⟩) rfl (fun wq hI => by simp only [execOp, Option.map_some, Option.map_none, lk_tmp, lk_const, lkT_cons, ↓reduceIte, Nat.reduceEqDiff]; go_simp; (first | done | rfl)) ?_
        refine w_val [(51, _)] (_) (fun vs w hK => ⟨wants_none rfl, rho_in rfl (fv (hK 11 (memE rfl))), trivial⟩) rfl (fun wq hI => by exact run_load_cell (ad := ⟨B, 1, none⟩) (v := .string vl) rfl rfl rfl Try.underlying9 rfl (by simp [World.cell?, hI.at_])) ?_
        refine w_val [(52, _)] (_) (fun vs w hK => ⟨wants_none rfl, rho_in rfl (fv (hK 12 (memE rfl))), trivial⟩) rfl (fun wq hI => by exact run_len_str rfl Try.underlying9 rfl rfl) ?_
        refine w_val [(53, _)] (_) (fun vs w hK => ⟨wants_none rfl, rho_in rfl (fv (hK 13 (memE rfl))), trivial⟩) rfl (fun wq hI => by exact op_conv_int rfl Try.underlying3 Try.underlying32 rfl (u64_nat vl.size (by omega))) ?_
        refine w_lin (FW.app .u8 5 w w4 (.slice Ab nb cb) (xs4 ++ put7 S ++ put7 (nm.size - S) ++ put7 vl.size)) (by decide) (fun vs wq hI hJ hK => ?_) ?_
        · have hA : AppB w w4 wq (.slice Ab nb cb) (vs 10) (xs4 ++ put7 S ++ put7 (nm.size - S)) := hK 10 (memE rfl)
          refine ob_call [(50, _), (54, _)] _ (wants_none rfl) ⟨rho_in rfl rfl, rho_in rfl (fv (hK 14 (memE rfl))), trivial⟩ rfl rfl Try.func18 (by kernel_rfl) rfl (margs rfl) ((put_any vl.size (by omega) (vs 10) (xs4 ++ put7 S ++ put7 (nm.size - S)) w wq hA.own hA.bel (by rw [List.length_append, List.length_append]; omega)).mono ?_)
          rintro e w5 ⟨v5, rfl, hA2⟩
          exact ⟨v5, rfl, keeps_fr hI hA2.bel hA2.fr (app_ne hA HG.out HNB.out), app_next hA hA2⟩
        refine w_lin (FW.app .u8 5 w w4 (.slice Ab nb cb) (xs4 ++ put7 S ++ put7 (nm.size - S) ++ put7 vl.size)) (by decide) (fun vs wq hI hJ hK => ?_) ?_
        · exact ob_copy (.inr rfl) (wants_none rfl) (rho_in rfl rfl) ⟨hI, hK 15 (memE rfl)⟩
        refine w_end rfl rfl rfl (fun vs wq hI hF => ?_)
        simp only [List.reverse_cons, List.reverse_nil, List.nil_append, List.cons_append, finL_val, finL_of, finL_any, finL_app, finL_new, finL_gr, finL_row, finL_box, finL_nil, Act.put, List.setIfInBounds_toArray, List.set_cons_zero, List.set_cons_succ, Nat.reduceAdd]
        have hfin : AppB w w4 wq (.slice Ab nb cb) (vs 16) (xs4 ++ put7 S ++ put7 (nm.size - S) ++ put7 vl.size) := hF 16 (by decide) rfl
        have HBb5 := Lib.hid hfin.own
        have HBel5 := Lib.hid hfin.bel
        have HWh5 := Lib.hid (hfin.fr.keep_gr HWh.out HAp.out.symm)
        have HAp5 := Lib.hid (hfin.fr.apart_gr HWh.out HAp.out.symm)
        have HNB5 := Lib.hid (app_ne hfin HG.out HNB.out)
        have HX5 := Lib.hid hI.at_
        have hl5 : (xs4 ++ put7 S ++ put7 (nm.size - S) ++ put7 vl.size).length ≤ 262144 + 30 := by
          simp only [List.length_append]
          omega
        have HE5 : Hid (xs4 ++ put7 S ++ put7 (nm.size - S) ++ put7 vl.size ++ numsOf (nm.extract S nm.size) ++ numsOf vl = bodyAt (nn ps) (k + 1)) := Lib.hid (by
          rw [show bodyAt (nn ps) (k + 1) = bodyAt (nn ps) k ++ rowOf (sameAt (nn ps) k) (nmAt (nn ps) k) (vlAt (nn ps) k) from rfl, HSame.out, HNm.out, HVl.out, HXS.out, rowOf, numsOf_length, numsOf_length, numsOf_extract, List.take_of_length_le (by rw [List.length_drop, numsOf_length]; exact Nat.le_refl _)]
          simp only [List.append_assoc])
        clear hfin hF hI HBb HBel HWh HAp HNB HX HJ0 HI0 HG h10 h11 h12
        generalize xs4 ++ put7 S ++ put7 (nm.size - S) ++ put7 vl.size = xs5 at HBb5 HE5 hl5
        generalize vs 16 = b5 at HBb5 HAp5 HNB5 ⊢
        obtain ⟨w5, rfl⟩ : ∃ w5 : World, w5 = wq := ⟨_, rfl⟩
        have HJ0 := Lib.hid (app_start HBb5.out HBel5.out (below_drew (Below.refl _ _)) : AppB w w5 w5.drew b5 b5 xs5)
        have HI0 := Lib.hid (Keeps.mk (below_drew HBel5.out) HX5.out : Keeps w B (.cells #[.string nm, .string vl] 30 (0, 0)) w5.drew)
        have HG := Lib.hid (mk_lt HX5.out)
        go_upto_region 15 with fail
        refine draws_ (Keeps w B (.cells #[.string nm, .string vl] 30 (0, 0))) (fun w' => AppB w w5 w' b5 b5 xs5) (by kernel_rfl) reg_16_15 rfl keeps_below app_st HI0.out HJ0.out ?_
        refine w_move (.inl rfl) (fun vs w hK => ⟨wants_none rfl, rho_out rfl rfl⟩) ?_
        refine w_val [(9, _)] _ (fun vs w hK => ⟨wants_none rfl, rho_out rfl rfl, trivial⟩) rfl (fun wq hI => by simp only [execOp, Option.map_some, Option.map_none, lk_tmp, lk_const, lkT_cons, ↓reduceIte, Nat.reduceEqDiff]; go_simp; (first | done | rfl)) ?_
        refine w_val [(57, _)] (_) (fun vs w hK => ⟨wants_none rfl, rho_in rfl (fv (hK 1 (memE rfl))), trivial⟩) rfl (fun wq hI => by exact run_load_cell (ad := ⟨B, 0, none⟩) (v := .string nm) rfl rfl rfl Try.underlying9 rfl (by simp [World.cell?, hI.at_])) ?_
        refine w_move (.inl rfl) (fun vs w hK => ⟨wants_none rfl, rho_out rfl rfl⟩) ?_
        refine w_val [(58, _), (59, _)] (_) (fun vs w hK => ⟨wants_none rfl, rho_in rfl (fv (hK 2 (memE rfl))), rho_in rfl (fv (hK 3 (memE rfl))), trivial⟩) rfl (fun wq hI => by exact op_cut_from (a := S) rfl Try.underlying9 rfl rfl rfl hSn rfl) ?_
        refine w_lin (FW.app .u8 5 w w5 b5 (xs5 ++ numsOf (nm.extract S nm.size))) (by decide) (fun vs wq hI hJ hK => ?_) ?_
        · have hA := hJ (by decide) (by decide)
          obtain ⟨v1, w1, hrun, hA1⟩ := gr_run_str tb rfl Try.underlying9 25 (nm.extract S nm.size) hA.own hA.bel.size (by rw [hES]; omega)
          have hA2 := app_of_run hA hA1
          exact ob_run [(56, _), (60, _)] (wants_none rfl) ⟨rho_in rfl (fv (hK 0 (memE rfl))), rho_in rfl (fv (hK 4 (memE rfl))), trivial⟩ rfl (run_append_op rfl rfl rfl hrun) ⟨keeps_fr hI hA2.bel hA1.fr (app_ne hA HG.out HNB5.out), hA2⟩
        refine w_val [(9, _)] _ (fun vs w hK => ⟨wants_none rfl, rho_out rfl rfl, trivial⟩) rfl (fun wq hI => by simp only [execOp, Option.map_some, Option.map_none, lk_tmp, lk_const, lkT_cons, ↓reduceIte, Nat.reduceEqDiff]; go_simp; (first | done | rfl)) ?_
        refine w_val [(62, _)] (_) (fun vs w hK => ⟨wants_none rfl, rho_in rfl (fv (hK 6 (memE rfl))), trivial⟩) rfl (fun wq hI => by exact run_load_cell (ad := ⟨B, 1, none⟩) (v := .string vl) rfl rfl rfl Try.underlying9 rfl (by simp [World.cell?, hI.at_])) ?_
        refine w_lin (FW.app .u8 5 w w5 b5 (xs5 ++ numsOf (nm.extract S nm.size) ++ numsOf vl)) (by decide) (fun vs wq hI hJ hK => ?_) ?_
        · have hA : AppB w w5 wq b5 (vs 5) (xs5 ++ numsOf (nm.extract S nm.size)) := hK 5 (memE rfl)
          obtain ⟨v1, w1, hrun, hA1⟩ := gr_run_str tb rfl Try.underlying9 25 vl hA.own hA.bel.size (by rw [List.length_append, numsOf_length, hES]; omega)
          have hA2 := app_of_run hA hA1
          exact ob_run [(61, _), (63, _)] (wants_none rfl) ⟨rho_in rfl rfl, rho_in rfl (fv (hK 7 (memE rfl))), trivial⟩ rfl (run_append_op rfl rfl rfl hrun) ⟨keeps_fr hI hA2.bel hA1.fr (app_ne hA HG.out HNB5.out), hA2⟩
        refine w_lin (FW.app .u8 5 w w5 b5 (xs5 ++ numsOf (nm.extract S nm.size) ++ numsOf vl)) (by decide) (fun vs wq hI hJ hK => ?_) ?_
        · exact ob_copy (.inr rfl) (wants_none rfl) (rho_in rfl rfl) ⟨hI, hK 8 (memE rfl)⟩
        refine w_end rfl rfl rfl (fun vs wq hI hF => ?_)
        simp only [List.reverse_cons, List.reverse_nil, List.nil_append, List.cons_append, finL_val, finL_of, finL_any, finL_app, finL_new, finL_gr, finL_row, finL_box, finL_nil, Act.put, List.setIfInBounds_toArray, List.set_cons_zero, List.set_cons_succ, Nat.reduceAdd]
        have hfin : AppB w w5 wq b5 (vs 9) (xs5 ++ numsOf (nm.extract S nm.size) ++ numsOf vl) := hF 9 (by decide) rfl
        rw [HE5.out] at hfin
        have HBb6 := Lib.hid hfin.own
        have HBel6 := Lib.hid hfin.bel
        have HWh6 := Lib.hid (hfin.fr.keep_gr HWh5.out HAp5.out)
        have HAp6 := Lib.hid (hfin.fr.apart_gr HWh5.out HAp5.out)
        have HX6 := Lib.hid hI.at_
        clear hfin hF hI HBb5 HBel5 HWh5 HAp5 HNB5 HX5 HE5 HJ0 HI0 HG
        generalize vs 9 = b6 at HBb6 HAp6 ⊢
        obtain ⟨w6, rfl⟩ : ∃ w6 : World, w6 = wq := ⟨_, rfl⟩
        obtain ⟨A6, n6, c6, rfl, h6c, HL6, h6m, _⟩ := gr_open HBb6.out
        have hcx : w6.cell? ⟨B, 0, none⟩ = some (.string nm) := by simp [World.cell?, HX6.out]
        have HL6' : (bodyAt (nn ps) (k + 1)).length = n6 := HL6.out
        by_cases hF : 262144 < n6
        · have t4 : decide ((262144 : Int) < (n6 : Int)) = true := decide_eq_true (by omega)
          have HQ : Hid (¬ Fit (nn ps) k) := Lib.hid (by unfold Fit; rw [HL6']; omega)
          clear HL6' hF
          go_wp2_with fail
          go_ret2
          exact ⟨HBel6.out, _, 6, rfl, .inr (.inr ⟨rfl, rfl, k, by rw [nn_length, HLEN.out]; exact HK.out, HGood.out, HOrd.out, HQ.out⟩)⟩
        · have t4 : decide ((262144 : Int) < (n6 : Int)) = false := decide_eq_false (by omega)
          have HQ : Hid (Fit (nn ps) k) := Lib.hid (by unfold Fit; rw [HL6']; omega)
          clear HL6' hF
          go_wp2_with fail
          go_roundw
          case rel => exact ⟨k + 1, by omega, by go_num, by rw [cnt_succ, if_neg HE.out], by rw [lastS_succ, HGD.out], Lib.hid ⟨good_succ HGood.out HOrd.out HQ.out, HBb6.out, HWh6.out, HAp6.out.symm, HBel6.out⟩⟩
          case measure => simp [intOf]; omega
    · obtain rfl : k = n := by omega
      have hgood := HM.out.good
      have HGood := Lib.hid hgood
      have hbf := body_fit hgood
      have hcq : cntAt k ≤ 1000000 := by unfold cntAt; omega
      have hwl := whole_length (nn ps) k
      have hPE : pageOf (nn ps) = bodyAt (nn ps) k ++ wholeAt (nn ps) k ++ le (cntAt k) (min (4 : Int).toNat 8) := by unfold pageOf; rw [nn_length, HLEN.out]; rfl
      have HPE := Lib.hid hPE
      have HB := Lib.hid HM.out.b_
      have HW := Lib.hid HM.out.wh_
      have HBel := Lib.hid HM.out.bel
      clear hPE HM hgood hlast hlz hlt
      generalize bodyAt (nn ps) k = xs at HB hbf HPE
      generalize wholeAt (nn ps) k = ys at HW hwl HPE
      generalize cntAt k = q at hcq hwl HPE ⊢
      obtain ⟨Aw, nw, cw, rfl, hwc, HLw, hwm, hrw⟩ := gr_open HW.out
      have hlw : ys.length = nw := HLw.out
      have HRW := Lib.hid hrw
      have hwn : IntKind.u64.wrap (q : Int) = (q : Int) := u64_nat q (by omega)
      have t1 : decide ((k : Int) < (k : Int)) = false := by simp
      clear hrw HW
      go_wp2_with (at_builtin; refine gapp_row tb rfl (.tmp 71) (.tmp 72) rfl rfl rfl HB.out HRW.out HBel.out HBel.out.size ?cL ?_; (case cL => omega); intro v1 w1 ho hb1 hs1 hf; have HO1 := Lib.hid ho; have HB1 := Lib.hid hb1; clear ho hb1 hs1 hf)
      refine (putLittle_any q 4 (by omega) v1 (xs ++ ys) w w1 HO1.out HB1.out (by rw [List.length_append]; omega)).mono ?_
      rintro e w2 ⟨v2, rfl, hA⟩
      have HA := Lib.hid hA
      clear hA
      go_wp2_with fail
      go_ret2
      exact ⟨HA.out.bel, _, 0, rfl, .inl ⟨rfl, by rw [nn_length, HLEN.out]; exact HGood.out, by rw [HPE.out]; exact HA.out.own⟩⟩
end Go.Proofs.Ytnkeijdpjcclcaa.Pg


