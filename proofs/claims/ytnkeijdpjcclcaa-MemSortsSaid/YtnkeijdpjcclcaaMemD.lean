/- mem.Sorted of ints. -/
import Derived.Test.YtnkeijdpjcclcaaMemC
namespace Go.Proofs.Ytnkeijdpjcclcaa.Mem
set_option linter.unusedVariables false
set_option linter.unusedSimpArgs false
open Go.Proofs.Ytnkeijdpjcclcaa.Kit Go.RowKit Go.Proofs.YtnkeijdpjcclcaaW.PrintWords Go.Proofs.YtnkeijdpjcclcaaW.PrintLast Go.Proofs.YtnkeijdpjcclcaaW.PrintMore
/-- What changes: at most a box, a row, and what is new. -/
structure Gr2 (w W : World) (p : Nat) (r : Option Nat) : Prop where
  os : W.os = w.os
  tape : W.tape = w.tape
  output : W.output = w.output
  size : w.heap.size ≤ W.heap.size
  block : ∀ k, k < w.heap.size → k ≠ p → some k ≠ r → W.heap[k]? = w.heap[k]?
theorem gr2_below {w W : World} {p : Nat} {r : Option Nat} (h : Below w.heap.size w W) : Gr2 w W p r := ⟨h.os, h.tape, h.output, h.size, fun k hk _ _ => h.block k hk⟩
theorem gr2_then {w W W' : World} {p : Nat} {r : Option Nat} (h : Gr2 w W p r) (hb : Below W.heap.size W W') : Gr2 w W' p r :=
  ⟨hb.os.trans h.os, hb.tape.trans h.tape, hb.output.trans h.output, Nat.le_trans h.size hb.size, fun k hk hp hr => (hb.block k (Nat.lt_of_lt_of_le hk h.size)).trans (h.block k hk hp hr)⟩
theorem gr2_grown {w W W' : World} {p : Nat} {r : Option Nat} (h : Gr2 w W p r) (hb : W.grownBy W' r) : Gr2 w W' p r :=
  ⟨hb.os.trans h.os, hb.tape.trans h.tape, hb.output.trans h.output, Nat.le_trans h.size hb.size, fun k hk hp hr => (hb.block k (Nat.lt_of_lt_of_le hk h.size) hr).trans (h.block k hk hp hr)⟩
theorem gr2_set {w W W' : World} {p : Nat} {r : Option Nat} {o : Obj} (h : Gr2 w W p r) (hs : Set1 W p o W') : Gr2 w W' p r :=
  ⟨hs.os.trans h.os, hs.tape.trans h.tape, hs.output.trans h.output, by rw [hs.size]; exact h.size, fun k hk hp hr => (hs.other k hp).trans (h.block k hk hp hr)⟩
theorem gr2_setr {w W W' : World} {p g : Nat} {o : Obj} (h : Gr2 w W p (some g)) (hs : Set1 W g o W') : Gr2 w W' p (some g) :=
  ⟨hs.os.trans h.os, hs.tape.trans h.tape, hs.output.trans h.output, by rw [hs.size]; exact h.size, fun k hk hp hr => (hs.other k (fun e => hr (by rw [e]))).trans (h.block k hk hp hr)⟩
/-- A sorted one of ints. -/
structure SOI (w : World) (B p : Nat) (v : Value) (xs : List Int) : Prop where
  box : w.heap[p]? = some (.cells [Value.func (.func 25) #[] #[], v].toArray 88 (0, 0))
  own : OwnK encI kI 3 w B v xs
  ne : v.ownBlock ≠ some p
  base : B ≤ p
theorem soi_below {w W : World} {B p : Nat} {v : Value} {xs : List Int} (h : SOI w B p v xs) (hb : Below w.heap.size w W) : SOI W B p v xs := ⟨box_stays h.box hb, ownk_below h.own hb, h.ne, h.base⟩
/-- Where it goes. -/
def Goes (w : World) (v v' : Value) : Prop := v'.ownBlock = v.ownBlock ∨ ∃ b, v'.ownBlock = some b ∧ w.heap.size ≤ b
def putL (xs : List Int) (x : Int) : List Int := if hit ordI xs x = true then xs.set (pos ordI xs x) x else xs.take (pos ordI xs x) ++ [x] ++ xs.drop (pos ordI xs x)
def rng (y : Int) : Prop := 0 ≤ y ∧ y < 256
theorem flat_set : ∀ (xs : List Int) (i : Nat) (x : Int), (xs.set i x).flatMap encI = (xs.flatMap encI).set (i * kI) (.int .i64 x)
  | [], i, x => by simp
  | a :: r, 0, x => by simp [encI]
  | a :: r, i + 1, x => by
    have ih := flat_set r i x
    rw [List.set_cons_succ, List.flatMap_cons, ih, List.flatMap_cons]
    show (Value.int .i64 a) :: _ = ((Value.int .i64 a) :: _).set ((i + 1) * kI) _
    rw [show (i + 1) * kI = i * kI + 1 from Nat.succ_mul i kI, List.set_cons_succ]
    rfl
theorem info50 : (Try.prog.info? 50).map (·.size) = some 1 := by kernel_rfl
theorem info34 : (Try.prog.info? 34).map (·.size) = some 1 := by kernel_rfl
theorem info3 : (Try.prog.info? 3).map (·.size) = some 1 := by kernel_rfl
theorem lenI_any (w : World) {B p : Nat} {v : Value} {xs : List Int} (h : SOI w B p v xs) : Calls Try.prog 27 #[.pointer (some ⟨p, 0, none⟩)] w fun e w' => e = .returned (.int .i64 (xs.length : Nat)) ∧ Below w.heap.size w w' := by
  obtain ⟨A, n, c, rfl, hnc, HL, hm, hs⟩ := ownk_open encI_len h.own
  rw [HL.out]
  have hc : w.cell? ⟨p, 1, none⟩ = some (.slice A n c) := by
    have := h.box
    simp [World.cell?, this]
  clear h hs
  go_enter Try.func27, Try.ntmps27
  go_wp2_with fail
  go_ret
  exact ⟨rfl, Below.refl _ _⟩
theorem reg_29_3 : RegOk (opsOf Try.f29 3) [[], [0], [0, 1], [0, 1, 2], [], [], [5], [5, 6], [5, 6, 7], [0, 1, 2, 3, 4, 5, 6, 7, 8], [0, 1, 2, 3, 4, 5, 6, 7, 8, 9], [0, 1, 2, 3, 4, 5, 6, 7, 8, 9, 10], [0, 1, 2, 3, 4, 5, 6, 7, 8, 9, 10], [0, 1, 2, 3, 4, 5, 6, 7, 8, 9, 10, 11], [0, 1, 2, 3, 4, 5, 6, 7, 8, 9, 10, 11, 12, 13]] [] [some 10, some 11, some 12, some 13, some 14, some 15, some 16, some 17, some 18, some 19, some 9, some 20, some 21, some 5, some 6] := regOk (by kernel_rfl)
theorem seekI_any (w : World) {B p : Nat} {v : Value} {xs : List Int} (x : Int) (h : SOI w B p v xs) (hn : xs.length ≤ 1000000) (hr : ∀ y ∈ xs, rng y) (hx : rng x) (hm : Mono ordI xs x) : Calls Try.prog 29 #[.pointer (some ⟨p, 0, none⟩), .int .i64 x] w fun e w' => e = .returned (.int .i64 (pos ordI xs x : Nat)) ∧ Below w.heap.size w w' := by
  obtain ⟨A, n, c, rfl, hnc, HL, hmx, hs⟩ := ownk_open encI_len h.own
  have hl := HL.out
  have HB := Lib.hid h.box
  have HS := Lib.hid hs
  have HC := Lib.hid (fun W (hW : Below w.heap.size w W) => bsfI_any A n c xs x W (by omega) (sts_below HS.out hW) hm (fun y W hy => order_any y x W (by have := hr y hy; unfold rng at this; omega) (by unfold rng at hx; omega)))
  clear h hs hr hx hm
  generalize pos ordI xs x = po at *
  generalize hit ordI xs x = T at *
  go_enter Try.func29, Try.ntmps29
  go_upto_region 3 with fail
  refine draws_ (fun wq => Below w.heap.size w wq) (fun _ => True) (by kernel_rfl) reg_29_3 rfl inv0 (fun _ _ _ _ => trivial) (below_drew (Below.refl _ _)) trivial ?_
  refine w_move (.inl rfl) (fun vs w hK => ⟨wants_none rfl, rho_out rfl rfl⟩) ?_
  refine w_val [(10, _)] _ (fun vs w hK => ⟨wants_none rfl, rho_in rfl (fv (hK 0 (memE rfl))), trivial⟩) rfl (fun wq hI => by simp only [execOp, Option.map_some, Option.map_none, lk_tmp, lk_const, lkT_cons, ↓reduceIte, Nat.reduceEqDiff]; go_simp; (first | done | rfl)) ?_
  refine w_val [(11, _)] (_) (fun vs w hK => ⟨wants_none rfl, rho_in rfl (fv (hK 1 (memE rfl))), trivial⟩) rfl (fun wq hI => by exact op_field rfl rfl Try.underlying88 rfl rfl rfl info34 (by decide)) ?_
  refine w_val [(12, _)] (.slice A n c) (fun vs w hK => ⟨wants_none rfl, rho_in rfl (fv (hK 2 (memE rfl))), trivial⟩) rfl (fun wq hI => by exact run_load_cell (ad := ⟨p, 1, none⟩) rfl rfl rfl Try.underlying34 rfl (by have := box_stays HB.out hI; simp [World.cell?, this])) ?_
  refine w_move (.inl rfl) (fun vs w hK => ⟨wants_none rfl, rho_out rfl rfl⟩) ?_
  refine w_move (.inl rfl) (fun vs w hK => ⟨wants_none rfl, rho_out rfl rfl⟩) ?_
  refine w_val [(15, _)] _ (fun vs w hK => ⟨wants_none rfl, rho_in rfl (fv (hK 5 (memE rfl))), trivial⟩) rfl (fun wq hI => by simp only [execOp, Option.map_some, Option.map_none, lk_tmp, lk_const, lkT_cons, ↓reduceIte, Nat.reduceEqDiff]; go_simp; (first | done | rfl)) ?_
  refine w_val [(16, _)] (_) (fun vs w hK => ⟨wants_none rfl, rho_in rfl (fv (hK 6 (memE rfl))), trivial⟩) rfl (fun wq hI => by exact op_field rfl rfl Try.underlying88 rfl rfl rfl info50 (by decide)) ?_
  refine w_val [(17, _)] (.func (.func 25) #[] #[]) (fun vs w hK => ⟨wants_none rfl, rho_in rfl (fv (hK 7 (memE rfl))), trivial⟩) rfl (fun wq hI => by exact run_load_cell (ad := ⟨p, 0, none⟩) rfl rfl rfl Try.underlying50 rfl (by have := box_stays HB.out hI; simp [World.cell?, this])) ?_
  refine w_call [(13, _), (14, _), (18, _)] _ _ (by decide) (fun vs w hK => ⟨wants_none rfl, rho_in rfl (fv (hK 3 (memE rfl))), rho_in rfl (fv (hK 4 (memE rfl))), rho_in rfl (fv (hK 8 (memE rfl))), trivial⟩) rfl rfl Try.func55 (by kernel_rfl) rfl (fun wq hI => HC.out wq hI) (margs rfl) ?_
  refine w_move (.inl rfl) (fun vs w hK => ⟨wants_none rfl, rho_in rfl (fv (hK 9 (memE rfl)))⟩) ?_
  refine w_val [(9, _)] _ (fun vs w hK => ⟨wants_none rfl, rho_in rfl (fv (hK 10 (memE rfl))), trivial⟩) rfl (fun wq hI => by simp only [execOp, Option.map_some, Option.map_none, lk_tmp, lk_const, lkT_cons, ↓reduceIte, Nat.reduceEqDiff]; go_simp; (first | done | rfl)) ?_
  refine w_val [(9, _)] _ (fun vs w hK => ⟨wants_none rfl, rho_in rfl (fv (hK 10 (memE rfl))), trivial⟩) rfl (fun wq hI => by simp only [execOp, Option.map_some, Option.map_none, lk_tmp, lk_const, lkT_cons, ↓reduceIte, Nat.reduceEqDiff]; go_simp; (first | done | rfl)) ?_
  refine w_move (.inr rfl) (fun vs w hK => ⟨wants_none rfl, rho_in rfl (fv (hK 11 (memE rfl)))⟩) ?_
  refine w_move (.inr rfl) (fun vs w hK => ⟨wants_none rfl, rho_in rfl (fv (hK 12 (memE rfl)))⟩) ?_
  refine w_end rfl rfl rfl (fun vs wq hI hF => ?_)
  simp only [List.reverse_cons, List.reverse_nil, List.nil_append, List.cons_append, finL_val, finL_of, finL_any, finL_app, finL_new, finL_gr, finL_row, finL_box, finL_nil, Act.put, List.setIfInBounds_toArray, List.set_cons_zero, List.set_cons_succ, Nat.reduceAdd]
  have HW := Lib.hid hI
  clear hI hF
  go_wp2_with fail
  go_ret
  exact ⟨rfl, HW.out⟩
/-- What stands at a place. -/
def atL (xs : List Int) (j : Int) : Int × Bool := if 0 ≤ j ∧ j < (xs.length : Int) then (xs.getD j.toNat 0, true) else (0, false)
theorem reg_30_1 : RegOk (opsOf Try.f30 1) [[], [0], [0, 1], [0, 1, 2], [0, 1, 2, 3], [0, 1, 2, 3, 4], [0, 1, 2, 3, 4, 5], [0, 1, 2, 3, 4, 5, 6], [0, 1, 2, 3, 4, 5, 6], [0, 1, 2, 3, 4, 5, 6, 8], [0, 1, 2, 3, 4, 5, 6, 8, 9], [0, 1, 2, 3, 4, 5, 6, 8, 9, 10], [0, 1, 2, 3, 4, 5, 6, 8, 9, 10, 11], [0, 1, 2, 3, 4, 5, 6, 7, 8, 9, 10, 11, 12], [0, 1, 2, 3, 4, 5, 6, 7, 8, 9, 10, 11, 12, 13]] [] [some 7, some 8, some 9, some 10, some 11, some 12, some 13, some 14, some 15, some 16, some 17, some 18, some 19, some 20, some 21] := regOk (by kernel_rfl)
theorem atI_any (w : World) {B p : Nat} {v : Value} {xs : List Int} (j : Int) (h : SOI w B p v xs) : Calls Try.prog 30 #[.pointer (some ⟨p, 0, none⟩), .int .i64 j] w fun e w' => e = .returned (.tuple #[.int .i64 (atL xs j).1, .bool (atL xs j).2]) ∧ Below w.heap.size w w' := by
  obtain ⟨A, n, c, rfl, hnc, HL, hmx, hs⟩ := ownk_open encI_len h.own
  have hl := HL.out
  have HB := Lib.hid h.box
  have HS := Lib.hid hs
  clear h hs
  obtain ⟨D, hD⟩ : ∃ D, (decide (j < 0) || decide (j ≥ (n : Int))) = D := ⟨_, rfl⟩
  have HD := Lib.hid hD
  clear hD
  obtain ⟨P, hP⟩ : ∃ P, atL xs j = P := ⟨_, rfl⟩
  rw [hP]
  have HP := Lib.hid hP
  clear hP
  go_enter Try.func30, Try.ntmps30
  go_upto_region 1 with fail
  refine plain_ (fun wq => Below w.heap.size w wq) (fun _ => True) reg_30_1 rfl inv0 (fun _ _ _ _ => trivial) (Below.refl _ _) trivial ?_
  refine w_move (.inl rfl) (fun vs w hK => ⟨wants_none rfl, rho_out rfl rfl⟩) ?_
  refine w_val [(7, _)] (.bool false) (fun vs w hK => ⟨wants_none rfl, rho_in rfl (fv (hK 0 (memE rfl))), trivial⟩) rfl (fun wq hI => by simp only [execOp, Option.map_some, Option.map_none, lk_tmp, lk_const, lkT_cons, ↓reduceIte, Nat.reduceEqDiff]; go_simp; (first | done | rfl)) ?_
  refine w_move (.inl rfl) (fun vs w hK => ⟨wants_none rfl, rho_in rfl (fv (hK 1 (memE rfl)))⟩) ?_
  refine w_moveG (.inl rfl) (fun vs w hK => wantsF rfl (fv (hK 2 (memE rfl)))) (fun hG vs w hK => (rho_out rfl rfl)) ?_
  refine w_valG [(10, _)] (_) (fun vs w hK => wantsF rfl (fv (hK 2 (memE rfl)))) (fun hG vs w hK => ⟨(rho_in rfl (fvg (hK 3 (memE rfl)) hG)), trivial⟩) rfl (fun hG wq hI => by exact run_int_lss rfl rfl rfl rfl) ?_
  refine w_or rfl (fun vs w hK => wants_none rfl) (fun vs w hK => (rho_in rfl (fv (hK 2 (memE rfl))))) (fun hB vs w hK => (rho_in rfl (fvg (hK 4 (memE rfl)) (gnot hB)))) ?_
  refine w_move (.inl rfl) (fun vs w hK => ⟨wants_none rfl, rho_in rfl (fv (hK 5 (memE rfl)))⟩) ?_
  refine w_moveG (.inl rfl) (fun vs w hK => wantsF rfl (fv (hK 6 (memE rfl)))) (fun hG vs w hK => (rho_out rfl rfl)) ?_
  refine w_moveG (.inl rfl) (fun vs w hK => wantsF rfl (fv (hK 6 (memE rfl)))) (fun hG vs w hK => (rho_out rfl rfl)) ?_
  refine w_valG [(15, _)] (_) (fun vs w hK => wantsF rfl (fv (hK 6 (memE rfl)))) (fun hG vs w hK => ⟨(rho_in rfl (fvg (hK 8 (memE rfl)) hG)), trivial⟩) rfl (fun hG wq hI => by simp only [execOp, Option.map_some, Option.map_none, lk_tmp, lk_const, lkT_cons, ↓reduceIte, Nat.reduceEqDiff]; go_simp; (first | done | rfl)) ?_
  refine w_valG [(16, _)] (_) (fun vs w hK => wantsF rfl (fv (hK 6 (memE rfl)))) (fun hG vs w hK => ⟨(rho_in rfl (fvg (hK 9 (memE rfl)) hG)), trivial⟩) rfl (fun hG wq hI => by exact op_field rfl rfl Try.underlying88 rfl rfl rfl info34 (by decide)) ?_
  refine w_valG [(17, _)] (.slice A n c) (fun vs w hK => wantsF rfl (fv (hK 6 (memE rfl)))) (fun hG vs w hK => ⟨(rho_in rfl (fvg (hK 10 (memE rfl)) hG)), trivial⟩) rfl (fun hG wq hI => by exact run_load_cell (ad := ⟨p, 1, none⟩) rfl rfl rfl Try.underlying34 rfl (by have := box_stays HB.out hI; simp [World.cell?, this])) ?_
  refine w_valG [(18, _)] (_) (fun vs w hK => wantsF rfl (fv (hK 6 (memE rfl)))) (fun hG vs w hK => ⟨(rho_in rfl (fvg (hK 11 (memE rfl)) hG)), trivial⟩) rfl (fun hG wq hI => by exact run_len_sl rfl Try.underlying34 rfl rfl) ?_
  refine w_valG [(14, _), (19, _)] (_) (fun vs w hK => wantsF rfl (fv (hK 6 (memE rfl)))) (fun hG vs w hK => ⟨(rho_in rfl (fvg (hK 7 (memE rfl)) hG)), (rho_in rfl (fvg (hK 12 (memE rfl)) hG)), trivial⟩) rfl (fun hG wq hI => by exact run_int_geq rfl rfl rfl rfl) ?_
  refine w_or rfl (fun vs w hK => wants_none rfl) (fun vs w hK => (rho_in rfl (fv (hK 6 (memE rfl))))) (fun hB vs w hK => (rho_in rfl (fvg (hK 13 (memE rfl)) (gnot hB)))) ?_
  refine w_as (c' := .bool D) (congrArg Value.bool (by rw [Bool.false_or]; exact HD.out)) ?_
  refine w_endM [false, false, false, false, false, false, false, false, false, false, false, false, false, false, true] rfl rfl rfl (fun vs wq hI hF => ?_)
  simp only [List.reverse_cons, List.reverse_nil, List.nil_append, List.cons_append, finL_val, finL_of, finL_any, finL_app, finL_new, finL_gr, finL_row, finL_box, finL_nil, Act.put, List.setIfInBounds_toArray, List.set_cons_zero, List.set_cons_succ, Nat.reduceAdd, maskF, finL_imp, Bool.not_false, Bool.not_true, Bool.true_and, Bool.false_and]
  have HW := Lib.hid hI
  clear hI hF
  obtain ⟨w1, rfl⟩ : ∃ w1 : World, w1 = wq := ⟨_, rfl⟩
  cases D with
  | true =>
    have e := HP.out
    unfold atL at e
    rw [if_neg (by have h := HD.out; rw [Bool.or_eq_true, decide_eq_true_iff, decide_eq_true_iff] at h; rw [hl]; omega)] at e
    subst e
    clear HP
    go_wp2_with fail
    go_ret2
    exact ⟨rfl, HW.out⟩
  | false =>
    have h := HD.out
    rw [Bool.or_eq_false_iff, decide_eq_false_iff_not, decide_eq_false_iff_not] at h
    obtain ⟨k, rfl⟩ : ∃ k : Nat, j = k := ⟨j.toNat, by omega⟩
    have hk : k < n := by omega
    have e := HP.out
    unfold atL at e
    rw [if_pos (by rw [hl]; omega), show ((k : Nat) : Int).toNat = k from rfl] at e
    obtain ⟨z, hz⟩ : ∃ z, xs.getD k 0 = z := ⟨_, rfl⟩
    rw [hz] at e
    subst e
    obtain ⟨ad, rfl, hc⟩ := (sts_below HS.out HW.out).row (by omega)
    have hcell := hc k (xs.getD k 0) (by rw [List.getD_eq_getElem?_getD, List.getElem?_eq_getElem (by omega)]; rfl) 0 _ rfl
    rw [Addr.add_add, Nat.add_zero, hz] at hcell
    have hx1 := box_stays HB.out HW.out
    have hc1 : w1.cell? ⟨p, 1, none⟩ = some (.slice (some ad) n c) := by simp [World.cell?, hx1]
    clear h hc hx1 HP HD hz
    go_wp2_with (first | (refine wpList_index_st rfl 34 _ _ rfl stI rfl rfl rfl hk ?_) | fail)
    go_ret2
    exact ⟨rfl, HW.out⟩
def dropL (xs : List Int) (j : Int) : List Int := if 0 ≤ j ∧ j < (xs.length : Int) then xs.take j.toNat ++ xs.drop (j.toNat + 1) else xs
theorem reg_28_1 : RegOk (opsOf Try.f28 1) [[], [0], [0, 1], [0, 1, 2], [0, 1, 2, 3], [0, 1, 2, 3, 4], [0, 1, 2, 3, 4, 5], [0, 1, 2, 3, 4, 5, 6], [0, 1, 2, 3, 4, 5, 6], [0, 1, 2, 3, 4, 5, 6, 8], [0, 1, 2, 3, 4, 5, 6, 8, 9], [0, 1, 2, 3, 4, 5, 6, 8, 9, 10], [0, 1, 2, 3, 4, 5, 6, 8, 9, 10, 11], [0, 1, 2, 3, 4, 5, 6, 7, 8, 9, 10, 11, 12], [0, 1, 2, 3, 4, 5, 6, 7, 8, 9, 10, 11, 12, 13]] [] [some 5, some 6, some 7, some 8, some 9, some 10, some 11, some 12, some 13, some 14, some 15, some 16, some 17, some 18, some 19] := regOk (by kernel_rfl)
theorem reg_28_3 : RegOk (opsOf Try.f28 3) [[], [], [1], [1, 2], [1, 2, 3], [], [], [6], [1, 2, 3, 4, 5, 6, 7], [0, 1, 2, 3, 4, 5, 6, 7, 8], [0, 1, 2, 3, 4, 5, 6, 7, 8, 9], [0, 1, 2, 3, 4, 5, 6, 7, 8, 9, 10]] [8, 11] [some 20, some 21, some 22, some 23, some 24, some 25, some 26, some 27, some 28, some 29, some 30, none] := regOk (by kernel_rfl)
theorem dropI_any (w : World) {B p : Nat} {v : Value} {xs : List Int} (j : Int) (h : SOI w B p v xs) (hB : B ≤ w.heap.size) (hn : xs.length ≤ 1000000) : Calls Try.prog 28 #[.pointer (some ⟨p, 0, none⟩), .int .i64 j] w fun e w' => e = .returned (.bool (atL xs j).2) ∧ ∃ v', SOI w' B p v' (dropL xs j) ∧ Gr2 w w' p v.ownBlock ∧ Goes w v v' := by
  have HSO := Lib.hid h
  obtain ⟨A, n, c, rfl, hnc, HL, hmx, hs⟩ := ownk_open encI_len h.own
  have hl := HL.out
  have HBX := Lib.hid h.box
  have hne := h.ne
  have hbase := h.base
  clear h hs
  obtain ⟨D, hD⟩ : ∃ D, (decide (j < 0) || decide (j ≥ (n : Int))) = D := ⟨_, rfl⟩
  have HD := Lib.hid hD
  clear hD
  obtain ⟨P, hP⟩ : ∃ P, (atL xs j).2 = P := ⟨_, rfl⟩
  rw [hP]
  have HP := Lib.hid hP
  obtain ⟨ys, hys⟩ : ∃ ys, dropL xs j = ys := ⟨_, rfl⟩
  rw [hys]
  have HYS := Lib.hid hys
  clear hP hys
  go_enter Try.func28, Try.ntmps28
  go_upto_region 1 with fail
  refine plain_ (fun wq => Below w.heap.size w wq) (fun _ => True) reg_28_1 rfl inv0 (fun _ _ _ _ => trivial) (Below.refl _ _) trivial ?_
  refine w_move (.inl rfl) (fun vs w hK => ⟨wants_none rfl, rho_out rfl rfl⟩) ?_
  refine w_val [(5, _)] (.bool false) (fun vs w hK => ⟨wants_none rfl, rho_in rfl (fv (hK 0 (memE rfl))), trivial⟩) rfl (fun wq hI => by simp only [execOp, Option.map_some, Option.map_none, lk_tmp, lk_const, lkT_cons, ↓reduceIte, Nat.reduceEqDiff]; go_simp; (first | done | rfl)) ?_
  refine w_move (.inl rfl) (fun vs w hK => ⟨wants_none rfl, rho_in rfl (fv (hK 1 (memE rfl)))⟩) ?_
  refine w_moveG (.inl rfl) (fun vs w hK => wantsF rfl (fv (hK 2 (memE rfl)))) (fun hG vs w hK => (rho_out rfl rfl)) ?_
  refine w_valG [(8, _)] (_) (fun vs w hK => wantsF rfl (fv (hK 2 (memE rfl)))) (fun hG vs w hK => ⟨(rho_in rfl (fvg (hK 3 (memE rfl)) hG)), trivial⟩) rfl (fun hG wq hI => by exact run_int_lss rfl rfl rfl rfl) ?_
  refine w_or rfl (fun vs w hK => wants_none rfl) (fun vs w hK => (rho_in rfl (fv (hK 2 (memE rfl))))) (fun hB vs w hK => (rho_in rfl (fvg (hK 4 (memE rfl)) (gnot hB)))) ?_
  refine w_move (.inl rfl) (fun vs w hK => ⟨wants_none rfl, rho_in rfl (fv (hK 5 (memE rfl)))⟩) ?_
  refine w_moveG (.inl rfl) (fun vs w hK => wantsF rfl (fv (hK 6 (memE rfl)))) (fun hG vs w hK => (rho_out rfl rfl)) ?_
  refine w_moveG (.inl rfl) (fun vs w hK => wantsF rfl (fv (hK 6 (memE rfl)))) (fun hG vs w hK => (rho_out rfl rfl)) ?_
  refine w_valG [(13, _)] (_) (fun vs w hK => wantsF rfl (fv (hK 6 (memE rfl)))) (fun hG vs w hK => ⟨(rho_in rfl (fvg (hK 8 (memE rfl)) hG)), trivial⟩) rfl (fun hG wq hI => by simp only [execOp, Option.map_some, Option.map_none, lk_tmp, lk_const, lkT_cons, ↓reduceIte, Nat.reduceEqDiff]; go_simp; (first | done | rfl)) ?_
  refine w_valG [(14, _)] (_) (fun vs w hK => wantsF rfl (fv (hK 6 (memE rfl)))) (fun hG vs w hK => ⟨(rho_in rfl (fvg (hK 9 (memE rfl)) hG)), trivial⟩) rfl (fun hG wq hI => by exact op_field rfl rfl Try.underlying88 rfl rfl rfl info34 (by decide)) ?_
  refine w_valG [(15, _)] (.slice A n c) (fun vs w hK => wantsF rfl (fv (hK 6 (memE rfl)))) (fun hG vs w hK => ⟨(rho_in rfl (fvg (hK 10 (memE rfl)) hG)), trivial⟩) rfl (fun hG wq hI => by exact run_load_cell (ad := ⟨p, 1, none⟩) rfl rfl rfl Try.underlying34 rfl (by have := box_stays HBX.out hI; simp [World.cell?, this])) ?_
  refine w_valG [(16, _)] (_) (fun vs w hK => wantsF rfl (fv (hK 6 (memE rfl)))) (fun hG vs w hK => ⟨(rho_in rfl (fvg (hK 11 (memE rfl)) hG)), trivial⟩) rfl (fun hG wq hI => by exact run_len_sl rfl Try.underlying34 rfl rfl) ?_
  refine w_valG [(12, _), (17, _)] (_) (fun vs w hK => wantsF rfl (fv (hK 6 (memE rfl)))) (fun hG vs w hK => ⟨(rho_in rfl (fvg (hK 7 (memE rfl)) hG)), (rho_in rfl (fvg (hK 12 (memE rfl)) hG)), trivial⟩) rfl (fun hG wq hI => by exact run_int_geq rfl rfl rfl rfl) ?_
  refine w_or rfl (fun vs w hK => wants_none rfl) (fun vs w hK => (rho_in rfl (fv (hK 6 (memE rfl))))) (fun hB vs w hK => (rho_in rfl (fvg (hK 13 (memE rfl)) (gnot hB)))) ?_
  refine w_as (c' := .bool D) (congrArg Value.bool (by rw [Bool.false_or]; exact HD.out)) ?_
  refine w_endM [false, false, false, false, false, false, false, false, false, false, false, false, false, false, true] rfl rfl rfl (fun vs wq hI hF => ?_)
  simp only [List.reverse_cons, List.reverse_nil, List.nil_append, List.cons_append, finL_val, finL_of, finL_any, finL_app, finL_new, finL_gr, finL_row, finL_box, finL_nil, Act.put, List.setIfInBounds_toArray, List.set_cons_zero, List.set_cons_succ, Nat.reduceAdd, maskF, finL_imp, Bool.not_false, Bool.not_true, Bool.true_and, Bool.false_and]
  have HW := Lib.hid hI
  clear hI hF
  obtain ⟨w1, rfl⟩ : ∃ w1 : World, w1 = wq := ⟨_, rfl⟩
  cases D with
  | true =>
    have h := HD.out
    rw [Bool.or_eq_true, decide_eq_true_iff, decide_eq_true_iff] at h
    have e := HP.out
    unfold atL at e
    rw [if_neg (by rw [hl]; omega)] at e
    have e2 := HYS.out
    unfold dropL at e2
    rw [if_neg (by rw [hl]; omega)] at e2
    subst e e2
    clear h HP HYS
    go_wp2_with fail
    go_ret
    exact ⟨rfl, _, soi_below HSO.out HW.out, gr2_below HW.out, .inl rfl⟩
  | false =>
    have h := HD.out
    rw [Bool.or_eq_false_iff, decide_eq_false_iff_not, decide_eq_false_iff_not] at h
    obtain ⟨k, rfl⟩ : ∃ k : Nat, j = k := ⟨j.toNat, by omega⟩
    have hk : k < n := by omega
    have e := HP.out
    unfold atL at e
    rw [if_pos (by rw [hl]; omega)] at e
    have e2 := HYS.out
    unfold dropL at e2
    rw [if_pos (by rw [hl]; omega), show ((k : Nat) : Int).toNat = k from rfl] at e2
    have HE2 := Lib.hid e2
    subst e
    clear h e2 HP HYS HD
    have HS1 := Lib.hid (soi_below HSO.out HW.out)
    have hw1 := HW.out.size
    go_upto_region 3 with fail
    refine plain_ (fun W => Gr2 w W p (Value.slice A n c).ownBlock) (fun W => SOI W B p (.slice A n c) xs ∧ w.heap.size ≤ W.heap.size) reg_28_3 rfl (fun _ _ h k => gr2_then h k) (fun _ _ h k => ⟨soi_below h.1 k, Nat.le_trans h.2 k.size⟩) (gr2_below HW.out) ⟨HS1.out, hw1⟩ ?_
    refine w_move (.inl rfl) (fun vs w hK => ⟨wants_none rfl, rho_out rfl rfl⟩) ?_
    refine w_move (.inl rfl) (fun vs w hK => ⟨wants_none rfl, rho_out rfl rfl⟩) ?_
    refine w_val [(21, _)] _ (fun vs w hK => ⟨wants_none rfl, rho_in rfl (fv (hK 1 (memE rfl))), trivial⟩) rfl (fun wq hI => by simp only [execOp, Option.map_some, Option.map_none, lk_tmp, lk_const, lkT_cons, ↓reduceIte, Nat.reduceEqDiff]; go_simp; (first | done | rfl)) ?_
    refine w_val [(22, _)] (_) (fun vs w hK => ⟨wants_none rfl, rho_in rfl (fv (hK 2 (memE rfl))), trivial⟩) rfl (fun wq hI => by exact op_field rfl rfl Try.underlying88 rfl rfl rfl info34 (by decide)) ?_
    refine w_anyJ (.val (.slice A n c)) (by decide) (fun vs wq hI hJ hK => ?_) ?_
    · have hA := (hJ (by decide)).1.box
      exact ob_run [(23, .pointer (some ⟨p, 1, none⟩))] (wants_none rfl) ⟨rho_in rfl (fv (hK 3 (memE rfl))), trivial⟩ rfl (run_load_cell (ad := ⟨p, 1, none⟩) rfl rfl rfl Try.underlying34 rfl (by simp [World.cell?, hA])) ⟨Below.refl _ _, rfl⟩
    refine w_move (.inl rfl) (fun vs w hK => ⟨wants_none rfl, rho_out rfl rfl⟩) ?_
    refine w_move (.inl rfl) (fun vs w hK => ⟨wants_none rfl, rho_out rfl rfl⟩) ?_
    refine w_val [(26, _)] (_) (fun vs w hK => ⟨wants_none rfl, rho_in rfl (fv (hK 6 (memE rfl))), trivial⟩) rfl (fun wq hI => by exact run_int_add (c := ((k + 1 : Nat) : Int)) rfl rfl rfl (by rw [i64_id (by omega) (by omega)]; omega)) ?_
    refine w_lin (FW.of (fun v' W => OwnK encI kI 3 W B v' ys ∧ v'.ownBlock ≠ some p ∧ Goes w (.slice A n c) v' ∧ W.heap[p]? = some (.cells [Value.func (.func 25) #[] #[], .slice A n c].toArray 88 (0, 0))) (fun _ _ _ h hb => ⟨ownk_below h.1 hb, h.2.1, h.2.2.1, box_stays h.2.2.2 hb⟩)) (by decide) (fun vs wq hI hJ hK => ?_) ?_
    · obtain ⟨hA, hA2⟩ := hJ (by decide) (by decide)
      refine ob_call [(24, .slice A n c), (25, .int .i64 (k : Nat)), (27, .int .i64 ((k + 1 : Nat) : Int))] _ (wants_none rfl) ⟨rho_in rfl (fv (hK 4 (memE rfl))), rho_in rfl (fv (hK 5 (memE rfl))), rho_in rfl (fv (hK 7 (memE rfl))), trivial⟩ rfl rfl Try.func57 (by kernel_rfl) rfl (margs rfl) ((delI_any (.slice A n c) xs k wq hA.own (by omega) (by omega) hn).mono ?_)
      rintro e w' ⟨v1, rfl, k1, k2⟩
      rw [HE2.out] at k1
      refine ⟨v1, rfl, gr2_grown hI k2.grown, k1, ?_, ?_, ?_⟩
      · rcases k2.at_ with g | ⟨b, g, hb⟩
        · rw [g]; exact hne
        · rw [g]
          intro he
          injection he with he
          have := mk_lt hA.box
          omega
      · rcases k2.at_ with g | ⟨b, g, hb⟩
        · exact .inl g
        · exact .inr ⟨b, g, by omega⟩
      · rw [k2.grown.block p (mk_lt hA.box) (Ne.symm hne)]
        exact hA.box
    refine w_val [(20, _)] _ (fun vs w hK => ⟨wants_none rfl, rho_in rfl (fv (hK 0 (memE rfl))), trivial⟩) rfl (fun wq hI => by simp only [execOp, Option.map_some, Option.map_none, lk_tmp, lk_const, lkT_cons, ↓reduceIte, Nat.reduceEqDiff]; go_simp; (first | done | rfl)) ?_
    refine w_val [(29, _)] (_) (fun vs w hK => ⟨wants_none rfl, rho_in rfl (fv (hK 9 (memE rfl))), trivial⟩) rfl (fun wq hI => by exact op_field rfl rfl Try.underlying88 rfl rfl rfl info34 (by decide)) ?_
    refine w_lin (FW.of (fun _ W => ∃ v', SOI W B p v' ys ∧ Goes w (.slice A n c) v') (fun _ _ _ h hb => h.elim fun v' h => ⟨v', soi_below h.1 hb, h.2⟩)) (by decide) (fun vs wq hI hJ hK => ?_) ?_
    · obtain ⟨k1, k2, k3, k4⟩ : OwnK encI kI 3 wq B (vs 8) ys ∧ (vs 8).ownBlock ≠ some p ∧ Goes w (.slice A n c) (vs 8) ∧ wq.heap[p]? = some (.cells [Value.func (.func 25) #[] #[], .slice A n c].toArray 88 (0, 0)) := hK 8 (memE rfl)
      obtain ⟨A8, n8, c8, e8, _⟩ := ownk_open encI_len k1
      exact ob_store_blk [(30, .pointer (some ⟨p, 1, none⟩)), (28, vs 8)] (wants_none rfl) ⟨rho_in rfl (fv (hK 10 (memE rfl))), rho_in rfl rfl, trivial⟩ rfl rfl rfl rfl (by rw [e8]; rfl) k4 (by show 1 < 2; omega) info34 (fun w' hs => ⟨gr2_set hI hs, vs 8, ⟨hs.at_, ownk_move k1 (fun j hj => hs.other j (fun e => k2 (by rw [hj, e]))), k2, hbase⟩, k3⟩)
    refine w_end rfl rfl rfl (fun vs wq hI hF => ?_)
    simp only [List.reverse_cons, List.reverse_nil, List.nil_append, List.cons_append, finL_val, finL_of, finL_any, finL_app, finL_new, finL_gr, finL_row, finL_box, finL_nil, Act.put, List.setIfInBounds_toArray, List.set_cons_zero, List.set_cons_succ, Nat.reduceAdd]
    have HI2 := Lib.hid hI
    have HF2 : Hid (∃ v', SOI wq B p v' ys ∧ Goes w (.slice A n c) v') := Lib.hid (hF 11 (by decide) rfl)
    clear hI hF
    go_wp2_with fail
    go_ret
    obtain ⟨v', h1, h2⟩ := HF2.out
    exact ⟨rfl, v', h1, HI2.out, h2⟩
end Go.Proofs.Ytnkeijdpjcclcaa.Mem

