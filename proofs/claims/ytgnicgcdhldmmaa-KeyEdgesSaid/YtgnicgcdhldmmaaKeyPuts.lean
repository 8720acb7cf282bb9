/- The walk of the law KeyPuts. -/
import Derived.Test.YtgnicgcdhldmmaaKeyE
import Derived.Test.YtgnicgcdhldmmaaKeyN
import Derived.Test.YtgnicgcdhldmmaaSt
namespace Go.Proofs.Ytgnicgcdhldmmaa.Key
set_option linter.unusedVariables false
set_option linter.unusedSimpArgs false
open Go.Proofs.Ytgnicgcdhldmmaa.Kit Go.Proofs.Ytgnicgcdhldmmaa.Num Go.RowKit Go.Proofs.YtgnicgcdhldmmaaW.PrintWords Go.Proofs.YtgnicgcdhldmmaaW.PrintLast Go.Proofs.YtgnicgcdhldmmaaW.PrintMore NumPure
theorem stE : StTy Try.prog 38 24 4 := ⟨Try.underlying38, by kernel_rfl⟩
instance : Inhabited Ent := ⟨Ent.zero⟩
theorem open_ents {H : Type} {enc : TypeId × Value → H} {w : World} {base m : Nat} {held : Bool} {A : Option Addr} {n c : Nat} {x : DataW H × List MemPlace} (h : DataW.trod enc Try.prog w base (fun _ => true) held m 38 [.slice A n c] = some x) : ∃ xs, Sts Ent.cells 4 w A n xs ∧ n ≤ c ∧ ∀ z ∈ xs, Ent.ok z :=
  open_sts Ent.cells Ent.ok Try.underlying38 (by kernel_rfl) (fun cs m' y hy => by
    obtain ⟨y0, y1, y2, y3, n, _, hl, h0, h1, h2, h3⟩ := Go.Joins.trod_struct4 Try.underlying24 hy
    rw [show Try.prog.cellsOf 24 = 4 by kernel_rfl] at hl
    change DataW.trod enc Try.prog w base _ held n 9 ((cs.drop 0).take (Try.prog.cellsOf 9)) = _ at h0
    change DataW.trod enc Try.prog w base _ held n 22 ((cs.drop 1).take (Try.prog.cellsOf 22)) = _ at h1
    change DataW.trod enc Try.prog w base _ held n 4 ((cs.drop 2).take (Try.prog.cellsOf 4)) = _ at h2
    change DataW.trod enc Try.prog w base _ held n 9 ((cs.drop 3).take (Try.prog.cellsOf 9)) = _ at h3
    rw [show Try.prog.cellsOf 9 = 1 by kernel_rfl] at h0 h3
    rw [show Try.prog.cellsOf 22 = 1 by kernel_rfl] at h1
    rw [show Try.prog.cellsOf 4 = 1 by kernel_rfl] at h2
    obtain ⟨a, e0, _, w0⟩ := DataW.trod_string Try.underlying9 h0
    obtain ⟨b, e1, _, w1⟩ := DataW.trod_int Try.underlying22 h1
    obtain ⟨d, e2, _⟩ := DataW.trod_bool Try.underlying4 h2
    obtain ⟨v, e3, _, w3⟩ := DataW.trod_string Try.underlying9 h3
    obtain ⟨q0, q1⟩ := wf_u64 w1
    obtain ⟨s, rfl⟩ : ∃ s : Nat, b = s := ⟨b.toNat, by omega⟩
    refine ⟨⟨a, s, d, v⟩, ?_, ⟨by show s < _; omega, w0, w3⟩⟩
    have := cut_cons e0 rfl (cut_cons e1 rfl (cut_cons e2 rfl (cut_cons e3 rfl (cut_end hl))))
    rw [List.drop_zero] at this
    exact this) h
def catL (xs : List Ent) : List Int := xs.flatMap Ent.putL
theorem catL_nil : catL [] = [] := rfl
theorem catL_cons (x : Ent) (xs : List Ent) : catL (x :: xs) = x.putL ++ catL xs := by simp [catL]
theorem catL_snoc (xs : List Ent) (x : Ent) : catL (xs ++ [x]) = catL xs ++ x.putL := by simp [catL]
theorem putL_small {x : Ent} (h : x.check = 0) : x.putL.length ≤ 66000 := by
  have hi := inner_small h
  obtain ⟨_, _, _, _, hv⟩ := check_zero.1 h
  have h1 := put7_len10 (n := x.inner.size) (by omega)
  have h2 := put7_len10 (n := x.val.size) (by omega)
  rw [putL_eq, List.length_append, laid_length, laid_length]
  omega
theorem catL_small : ∀ (xs : List Ent), (∀ x ∈ xs, x.check = 0) → (catL xs).length ≤ 66000 * xs.length
  | [], _ => by simp [catL]
  | x :: xs, h => by
    have h1 := putL_small (h x (by simp))
    have h2 := catL_small xs (fun y hy => h y (by simp [hy]))
    rw [catL_cons, List.length_append, List.length_cons]
    omega
theorem putL_byte (x : Ent) : Byte x.putL := by
  rw [putL_eq]
  unfold laid
  exact Byte.append (Byte.append (put7_byte _) (numsOf_byte _)) (Byte.append (put7_byte _) (numsOf_byte _))
theorem catL_byte (xs : List Ent) : Byte (catL xs) := by
  induction xs with
  | nil => intro x hx; cases hx
  | cons x xs ih => rw [catL_cons]; exact Byte.append (putL_byte x) ih
theorem reg_6_3 : RegOk (opsOf Try.f6 3) [[], [0], [0, 1], [0, 1, 2], [0, 1, 2, 3], [0, 1, 2, 3, 4], [0, 1, 2, 3, 4, 5], [0, 1, 2, 3, 4, 5, 6]] [] [some 16, some 17, some 18, some 19, some 20, some 21, some 22, some 23] := regOk (by kernel_rfl)
theorem reg_6_9 : RegOk (opsOf Try.f6 9) [[], [0], [0, 1], [0, 1, 2], [0, 1, 2, 3], [0, 1, 2, 3, 4], [0, 1, 2, 3, 4, 5]] [] [some 31, some 32, some 33, some 34, some 35, some 36, some 37] := regOk (by kernel_rfl)
theorem reg_6_18 : RegOk (opsOf Try.f6 18) [[], [0], [0, 1], [0, 1, 2], [0, 1, 2], [0, 1, 2, 3, 4], [0, 1, 2, 3, 4, 5]] [] [some 59, some 60, some 61, some 62, some 63, some 64, some 65] := regOk (by kernel_rfl)
set_option maxRecDepth 20000 in
set_option maxHeartbeats 80000000 in
theorem puts_any (A : Option Addr) (n c : Nat) (xs : List Ent) (A2 : Option Addr) (n2 c2 : Nat) (l2 : List Int) (w : World) (hs : Sts Ent.cells 4 w A n xs) (hnc : n ≤ c) (hok : ∀ x ∈ xs, x.ok)
    (hr : Rds .u8 w A2 n2 l2) (hl : l2.length = n2) (hm : n2 * 1 ≤ 140737488351232) (hw : ∀ x ∈ l2, (Lit.int .u8 x).wf = true) (hnc2 : n2 ≤ c2) :
    Calls Try.prog 6 #[.slice A n c, .slice A2 n2 c2] w fun e w' => e = .returned (.bool true) ∧ Below w.heap.size w w' := by
  have HS := Lib.hid hs
  have HOK := Lib.hid hok
  have HR := Lib.hid hr
  have HL := Lib.hid hl
  have HBT := Lib.hid (byte_wf hw)
  clear hs hok hr hl hw
  go_enter Try.func6, Try.ntmps6
  go_wp2_with fail
  refine (head_any _).mono ?_
  rintro e w1 ⟨rfl, hb1⟩
  have HW1 := Lib.hid hb1
  clear hb1
  obtain ⟨B, hB⟩ : ∃ B : Bool, (decide ((8 : Int) < (n : Int)) || decide ((300 : Int) < (n2 : Int))) = B := ⟨_, rfl⟩
  go_upto_region 3 with fail
  refine plain_ (fun wq => Below w1.heap.size w1 wq) (fun _ => True) reg_6_3 rfl inv0 (fun _ _ _ _ => trivial) (Below.refl _ _) trivial ?_
  refine w_move (.inl rfl) (fun vs w hK => ⟨wants_none rfl, rho_out rfl rfl⟩) ?_
  refine w_val [(16, _)] (_) (fun vs w hK => ⟨wants_none rfl, rho_in rfl (fv (hK 0 (by decide))), trivial⟩) rfl (fun wq hI => by exact run_len_sl rfl Try.underlying38 rfl rfl) ?_
  refine w_val [(17, _)] (_) (fun vs w hK => ⟨wants_none rfl, rho_in rfl (fv (hK 1 (by decide))), trivial⟩) rfl (fun wq hI => by exact run_int_gtr rfl rfl rfl rfl) ?_
  refine w_move (.inl rfl) (fun vs w hK => ⟨wants_none rfl, rho_in rfl (fv (hK 2 (by decide)))⟩) ?_
  refine w_moveG (.inl rfl) (fun vs w hK => wantsF rfl (fv (hK 3 (by decide)))) (fun hG vs w hK => (rho_out rfl rfl)) ?_
  refine w_valG [(20, _)] (_) (fun vs w hK => wantsF rfl (fv (hK 3 (by decide)))) (fun hG vs w hK => ⟨(rho_in rfl (fvg (hK 4 (by decide)) hG)), trivial⟩) rfl (fun hG wq hI => by exact run_len_sl rfl Try.underlying33 rfl rfl) ?_
  refine w_valG [(21, _)] (_) (fun vs w hK => wantsF rfl (fv (hK 3 (by decide)))) (fun hG vs w hK => ⟨(rho_in rfl (fvg (hK 5 (by decide)) hG)), trivial⟩) rfl (fun hG wq hI => by exact run_int_gtr rfl rfl rfl rfl) ?_
  refine w_or rfl (fun vs w hK => wants_none rfl) (fun vs w hK => (rho_in rfl (fv (hK 3 (by decide))))) (fun hB vs w hK => (rho_in rfl (fvg (hK 6 (by decide)) (gnot hB)))) ?_
  refine w_as (c' := .bool B) (congrArg Value.bool hB) ?_
  refine w_endM [false, false, false, false, false, false, false, true] rfl rfl rfl (fun vs wq hI hF => ?_)
  simp only [List.reverse_cons, List.reverse_nil, List.nil_append, List.cons_append, finL_val, finL_of, finL_any, finL_app, finL_new, finL_gr, finL_row, finL_box, finL_nil, Act.put, List.setIfInBounds_toArray, List.set_cons_zero, List.set_cons_succ, Nat.reduceAdd, maskF, finL_imp, Bool.not_false, Bool.not_true, Bool.true_and, Bool.false_and]
  have HW2 := Lib.hid (below_then HW1.out HW1.out.size hI)
  clear hI hF HW1
  obtain ⟨w2, rfl⟩ : ∃ w2 : World, w2 = wq := ⟨_, rfl⟩
  cases B
  rotate_left
  · clear hB
    go_wp2_with fail
    go_ret
    exact ⟨rfl, HW2.out⟩
  simp only [Bool.or_eq_false_iff, decide_eq_false_iff_not] at hB
  have hn8 : n ≤ 8 := by omega
  have hn300 : n2 ≤ 300 := by omega
  clear hB
  go_wp2_with fail
  have hO3 : GrB (w2.alloc (.cells #[] 5)) w2.heap.size (.slice (some ⟨w2.heap.size, 0, none⟩) 0 0) [] := gr_own (own_lit_ .u8 5 w2 w2.heap.size [] 0 rfl (Nat.le_refl _) (by simp))
  have hb3 : Below w2.heap.size w2 (w2.alloc (.cells #[] 5)) := below_alloc (Below.refl _ _) _
  have HO3 := Lib.hid hO3
  have HW3 := Lib.hid (below_then HW2.out HW2.out.size hb3)
  have HB3 := Lib.hid hb3
  generalize w2.alloc (.cells #[] 5) = w3 at HO3 HW3 HB3 ⊢
  clear hO3 hb3
  go_loopw [5, 7, 27] (fun v p i wr => ∃ (k : Nat) (v' p' : Value), v' = v ∧ p' = p ∧ i = .int .i64 k ∧ k ≤ n ∧ Hid (GrB wr w2.heap.size v' (catL (xs.take k))) ∧ Hid (Below w2.heap.size w2 wr) ∧ Hid (∀ x ∈ xs.take k, x.check = 0)) (fun _ _ i _ => n - (intOf i).toNat)
  case atStart => exact ⟨0, _, _, rfl, rfl, rfl, Nat.zero_le _, HO3, HB3, Lib.hid (fun x hx => by cases hx)⟩
  case round =>
    obtain ⟨k, v', p', hv, hp, rfl, hk, HO, HB, HC⟩ := hrel
    subst hv hp
    have hcl := catL_small (xs.take k) HC.out
    rw [List.length_take] at hcl
    have hcl2 : (catL (xs.take k)).length ≤ 66000 * 8 := by
      have : min k xs.length ≤ 8 := by omega
      have := Nat.mul_le_mul_left 66000 this
      omega
    by_cases hlt : k < n
    · have t2 : (k : Int) < (n : Int) := by omega
      have hS := sts_below HS.out (below_then HW2.out HW2.out.size HB.out)
      obtain ⟨ad, eA, hcell⟩ := hS.row (by omega)
      subst eA
      have hxk : k < xs.length := by rw [hS.len]; exact hlt
      obtain ⟨x, hx⟩ : ∃ x, xs[k]? = some x := ⟨_, List.getElem?_eq_getElem hxk⟩
      have hxe : xs[k]'hxk = x := by rw [List.getElem?_eq_getElem hxk] at hx; exact Option.some.inj hx
      have HXC := Lib.hid (hcell k x hx)
      have hxo : x.ok := HOK.out x (List.mem_of_getElem? hx)
      have HTK : Hid (xs.take (k + 1) = xs.take k ++ [x]) := Lib.hid (by rw [List.take_succ_eq_append_getElem hxk, hxe])
      have CX := Lib.hid (fun wq => big_any x hxo wq)
      have DX := Lib.hid (fun wq => check_any x hxo wq)
      have HPX := Lib.hid (fun (hc : x.check = 0) v ys w0 wq a b c => entPut_any x hxo (by obtain ⟨_, h, _⟩ := check_zero.1 hc; omega) (by obtain ⟨_, _, _, _, h⟩ := check_zero.1 hc; omega) v ys w0 wq a b c)
      clear hS hcell hx hxe hxo hxk
      generalize decide (300 < x.key.size ∨ 70000 < x.val.size) = bx at CX
      obtain ⟨B, hB⟩ : ∃ B : Bool, (bx || ((x.check : Int) != 0)) = B := ⟨_, rfl⟩
      obtain ⟨y, hy⟩ : ∃ y : Ent, y = x := ⟨_, rfl⟩
      have HY := Lib.hid hy
      have HXC2 : Hid (∀ j v, y.cells[j]? = some v → wr.cell? ((ad.add (k * 4)).add j) = some v) := Lib.hid (by rw [hy]; exact HXC.out)
      clear HXC hy
      obtain ⟨yk, ys, yd, yv⟩ := y
      go_upto_region 9 with (first
        | (refine wpList_index_st rfl 38 (.tmp 25) (.tmp 27) rfl stE rfl rfl rfl hlt ?_)
        | (refine wpList_load_at rfl 24 (.tmp 29) rfl (ad.add (k * 4)) [.string yk, .int .u64 ys, .bool yd, .string yv] rfl HXC2.out Try.underlying24 rfl (by show _ = some 4; kernel_rfl) ?_))
      have hx5 : (wr.alloc (.cells #[.string yk, .int .u64 ys, .bool yd, .string yv] 24)).heap[wr.heap.size]? = some (.cells x.cells.toArray 24) := by rw [← HY.out]; exact heap_alloc_new wr _
      have hb5 : Below wr.heap.size wr (wr.alloc (.cells #[.string yk, .int .u64 ys, .bool yd, .string yv] 24)) := below_alloc (Below.refl _ _) _
      have HO5 := Lib.hid (gr_below HO.out hb5)
      have HB5 := Lib.hid (below_then HB.out HB.out.size hb5)
      have HX5 := Lib.hid hx5
      generalize wr.alloc (.cells #[.string yk, .int .u64 ys, .bool yd, .string yv] 24) = w5 at HO5 HB5 HX5 ⊢
      clear hx5 hb5 HO HB HXC2
      refine plain_ (fun wq => Below w5.heap.size w5 wq) (fun _ => True) reg_6_9 rfl inv0 (fun _ _ _ _ => trivial) (Below.refl _ _) trivial ?_
      refine w_val [(7, _)] (_) (fun vs w hK => ⟨wants_none rfl, rho_out rfl rfl, trivial⟩) rfl (fun wq hI => by exact run_load_op rfl rfl (load_ent (box_below HX5.out hI))) ?_
      refine w_call [(31, _)] _ _ (by decide) (fun vs w hK => ⟨wants_none rfl, rho_in rfl (fv (hK 0 (by decide))), trivial⟩) rfl rfl Try.func10 (by kernel_rfl) rfl (fun wq hI => CX.out wq) (margs rfl) ?_
      refine w_move (.inl rfl) (fun vs w hK => ⟨wants_none rfl, rho_in rfl (fv (hK 1 (by decide)))⟩) ?_
      refine w_valG [(7, _)] (_) (fun vs w hK => wantsF rfl (fv (hK 2 (by decide)))) (fun hG vs w hK => ⟨(rho_out rfl rfl), trivial⟩) rfl (fun hG wq hI => by exact run_load_op rfl rfl (load_ent (box_below HX5.out hI))) ?_
      refine w_callG [(34, _)] _ _ (by decide) (fun vs w hK => wantsF rfl (fv (hK 2 (by decide)))) (fun hG vs w hK => ⟨(rho_in rfl (fvg (hK 3 (by decide)) hG)), trivial⟩) rfl rfl Try.func11 (by kernel_rfl) rfl (fun hG wq hI => DX.out wq) (margs rfl) ?_
      refine w_valG [(35, _)] (_) (fun vs w hK => wantsF rfl (fv (hK 2 (by decide)))) (fun hG vs w hK => ⟨(rho_in rfl (fvg (hK 4 (by decide)) hG)), trivial⟩) rfl (fun hG wq hI => by exact run_int_neq rfl rfl rfl rfl) ?_
      refine w_or rfl (fun vs w hK => wants_none rfl) (fun vs w hK => (rho_in rfl (fv (hK 2 (by decide))))) (fun hB vs w hK => (rho_in rfl (fvg (hK 5 (by decide)) (gnot hB)))) ?_
      refine w_as (c' := .bool B) (congrArg Value.bool hB) ?_
      refine w_endM [false, false, false, false, false, false, true] rfl rfl rfl (fun vs wq hI hF => ?_)
      simp only [List.reverse_cons, List.reverse_nil, List.nil_append, List.cons_append, finL_val, finL_of, finL_any, finL_app, finL_new, finL_gr, finL_row, finL_box, finL_nil, Act.put, List.setIfInBounds_toArray, List.set_cons_zero, List.set_cons_succ, Nat.reduceAdd, maskF, finL_imp, Bool.not_false, Bool.not_true, Bool.true_and, Bool.false_and]
      have HO6 := Lib.hid (gr_below HO5.out hI)
      have HB6 := Lib.hid (below_then HB5.out HB5.out.size hI)
      have HX6 := Lib.hid (box_below HX5.out hI)
      clear hI hF HO5 HB5 HX5 CX DX
      obtain ⟨w6, rfl⟩ : ∃ w6 : World, w6 = wq := ⟨_, rfl⟩
      cases B
      · simp only [Bool.or_eq_false_iff] at hB
        have hxc : x.check = 0 := by have := hB.2; simp at this; omega
        have HPP := Lib.hid (HPX.out hxc)
        have hpl := putL_small hxc
        have HC2 : Hid (∀ z ∈ xs.take (k + 1), z.check = 0) := Lib.hid (fun z hz => by
          rw [HTK.out] at hz
          rcases List.mem_append.1 hz with hz | hz
          · exact HC.out z hz
          · rw [List.mem_singleton.1 hz]; exact hxc)
        clear hB hxc HPX HC
        go_wp2_with (refine wpList_load_box rfl 24 (.tmp 7) rfl wr.heap.size x.cells rfl HX6.out Try.underlying24 rfl (by show _ = some 4; kernel_rfl) ?_)
        refine (HPP.out v' (catL (xs.take k)) w2 w6 HO6.out HB6.out (by omega)).mono ?_
        rintro e w7 ⟨v7, rfl, hA⟩
        have HO7 : Hid (GrB w7 w2.heap.size v7 (catL (xs.take (k + 1)))) := Lib.hid (by rw [HTK.out, catL_snoc]; exact hA.own)
        have HB7 := Lib.hid hA.bel
        clear hA HPP HO6 HB6
        go_wp2_with fail
        go_roundw
        case rel => exact ⟨k + 1, _, _, rfl, rfl, by go_num, by omega, HO7, HB7, HC2⟩
        case measure => simp [intOf] <;> omega
      · have HW6 := Lib.hid (below_then HW2.out HW2.out.size HB6.out)
        clear hB
        go_wp2_with fail
        go_ret
        exact ⟨rfl, HW6.out⟩
    · obtain rfl : k = n := by omega
      have t2 : ¬ (k : Int) < (k : Int) := by omega
      have htk : xs.take k = xs := List.take_of_length_le (by rw [HS.out.len]; exact Nat.le_refl _)
      rw [htk] at HO HC hcl2
      obtain ⟨Ab, nb, cb, rfl, hbc, HLb, hbm, hRb⟩ := gr_open HO.out
      have HRb := Lib.hid hRb
      have HWr := Lib.hid (below_then HW2.out HW2.out.size HB.out)
      have hnb : nb ≤ 66000 * 8 := by rw [← HLb.out]; exact hcl2
      have hO8 : GrB (wr.alloc (.cells #[] 5)) wr.heap.size (.slice (some ⟨wr.heap.size, 0, none⟩) 0 0) [] := gr_own (own_lit_ .u8 5 wr wr.heap.size [] 0 rfl (Nat.le_refl _) (by simp))
      have hb8 : Below wr.heap.size wr (wr.alloc (.cells #[] 5)) := below_alloc (Below.refl _ _) _
      have HO8 := Lib.hid hO8
      have HB8 := Lib.hid hb8
      have HRb8 := Lib.hid (rds_below HRb.out hb8)
      have HRm8 := Lib.hid (rds_below HR.out (below_then HWr.out HWr.out.size hb8))
      clear hO8 hb8 htk hRb hcl hcl2 HO HB
      go_upto_region 14 with (first
        | (at_builtin; refine gapp_row tb rfl (.tmp 42) (.tmp 43) rfl rfl rfl HO8.out HRb8.out HB8.out HB8.out.size ?cL ?_; (case cL => simp; omega); intro v9 w9 ho hb9 hs1 hf; have HO9 : Hid (GrB w9 wr.heap.size v9 (catL xs)) := Lib.hid ho; have HB9 := Lib.hid hb9; have HRm9 := Lib.hid (rds_below HR.out (below_then HWr.out HWr.out.size hb9)); clear ho hb9 hs1 hf)
        | (at_builtin; refine gapp_row tb rfl (.tmp 44) (.tmp 45) rfl rfl rfl HO9.out HRm9.out HB9.out HB9.out.size ?cL ?_; (case cL => rw [HLb.out]; omega); intro v10 w10 ho hb9 hs1 hf; have HO10 := Lib.hid ho; have HB10 := Lib.hid hb9; clear ho hb9 hs1 hf))
      obtain ⟨Ar, nr, cr, rfl, hrc, HLr, hrm, hRr⟩ := gr_open HO10.out
      have HW10 := Lib.hid (below_then HWr.out HWr.out.size HB10.out)
      have HRr := Lib.hid hRr
      have hnr : nr ≤ 66000 * 8 + 300 := by
        have := HLr.out
        rw [List.length_append, HLb.out, HL.out] at this
        omega
      have HBB := Lib.hid (Byte.append (catL_byte xs) HBT.out)
      clear hRr HO8 HB8 HRb8 HRm8 HO9 HB9 HRm9 HO10 HB10
      go_wp2_with fail
      go_loopw [8, 10, 11, 12, 13, 49] (fun r p q m e i wr => ∃ (j : Nat) (A' : Option Addr) (n' c' : Nat) (p' q' m' e' : Value), r = .slice A' n' c' ∧ p' = p ∧ q' = q ∧ m' = m ∧ e' = e ∧ i = .int .i64 j ∧ j ≤ k ∧ n' ≤ c' ∧ Hid (Rds .u8 wr A' n' (catL (xs.drop j) ++ l2)) ∧ Hid (Below w10.heap.size w10 wr)) (fun _ _ _ _ _ i _ => k - (intOf i).toNat)
      case atStart => exact ⟨0, _, _, _, _, _, _, _, rfl, rfl, rfl, rfl, rfl, rfl, Nat.zero_le _, hrc, HRr, Lib.hid (Below.refl _ _)⟩
      case round =>
        obtain ⟨j, A', n', c', p', q', m', e', rfl, hp', hq', hm', he', rfl, hj, hn', HR2, HB⟩ := hrel
        subst hp' hq' hm' he'
        by_cases hlt : j < k
        · have t2 : (j : Int) < (k : Int) := by omega
          have hS := sts_below HS.out (below_then HW10.out HW10.out.size HB.out)
          obtain ⟨ad, eA, hcell⟩ := hS.row (by omega)
          subst eA
          have hxk : j < xs.length := by rw [hS.len]; exact hlt
          obtain ⟨x, hx⟩ : ∃ x, xs[j]? = some x := ⟨_, List.getElem?_eq_getElem hxk⟩
          have hxe : xs[j]'hxk = x := by rw [List.getElem?_eq_getElem hxk] at hx; exact Option.some.inj hx
          have HXC := Lib.hid (hcell j x hx)
          have hxc : x.check = 0 := HC.out x (List.mem_of_getElem? hx)
          have hdr : catL (xs.drop j) ++ l2 = x.putL ++ (catL (xs.drop (j + 1)) ++ l2) := by
            rw [List.drop_eq_getElem_cons hxk, hxe, catL_cons, List.append_assoc]
          rw [hdr] at HR2
          have hnl := rds_len HR2.out
          have hbl : Byte (x.putL ++ (catL (xs.drop (j + 1)) ++ l2)) := Byte.append (putL_byte x) (Byte.append (catL_byte _) HBT.out)
          have hcl := catL_small (xs.drop (j + 1)) (fun z hz => HC.out z (List.mem_of_mem_drop hz))
          have hpx := putL_small hxc
          have hdl : (xs.drop (j + 1)).length ≤ 8 := by rw [List.length_drop]; have := hS.len; omega
          have hn'b : n' ≤ 66000 * 10 := by
            rw [← hnl, List.length_append, List.length_append, HL.out]
            have := Nat.mul_le_mul_left 66000 hdl
            omega
          have hlen : x.putL.length ≤ n' := by rw [← hnl, List.length_append]; omega
          have hge := getE_putL hxc (catL (xs.drop (j + 1)) ++ l2)
          have CG := Lib.hid (fun wq (h : Below wr.heap.size wr wq) => get_ent_any A' n' c' _ wq (rds_below HR2.out h) hnl (by omega) hn' hbl)
          rw [hge] at CG
          obtain ⟨ml, hml⟩ : ∃ ml, ml = x.putL.length := ⟨_, rfl⟩
          rw [← hml] at CG hlen
          obtain ⟨A3, hcut, hC3⟩ := cut_from (enc := Value.int .u8) (h1 := int_one .u8) 0 tb A' n' c' ml (n' - ml) (by omega) hn' ((ml : Nat) : Int) rfl
          have HR3 : Hid (∀ wq, Below wr.heap.size wr wq → Rds .u8 wq A3 (n' - ml) (catL (xs.drop (j + 1)) ++ l2)) := Lib.hid (fun wq h => by
            have := hC3 wq _ (rds_below HR2.out h)
            rw [hml, List.drop_left] at this
            rw [hml]
            exact this)
          obtain ⟨y, hy⟩ : ∃ y : Ent, y = x := ⟨_, rfl⟩
          have HY := Lib.hid hy
          have HXC2 : Hid (∀ j' v, y.cells[j']? = some v → wr.cell? ((ad.add (j * 4)).add j') = some v) := Lib.hid (by rw [hy]; exact HXC.out)
          clear HXC hy hS hcell hx hxe hxc hdr hnl hbl hcl hpx hdl hge hC3 hxk hml
          obtain ⟨yk, ys, yd, yv⟩ := y
          go_upto_region 17 with (first
            | (refine wpList_index_st rfl 38 (.tmp 47) (.tmp 49) rfl stE rfl rfl rfl hlt ?_)
            | (refine wpList_load_at rfl 24 (.tmp 51) rfl (ad.add (j * 4)) [.string yk, .int .u64 ys, .bool yd, .string yv] rfl HXC2.out Try.underlying24 rfl (by show _ = some 4; kernel_rfl) ?_))
          have hx5 : (wr.alloc (.cells #[.string yk, .int .u64 ys, .bool yd, .string yv] 24)).heap[wr.heap.size]? = some (.cells x.cells.toArray 24) := by rw [← HY.out]; exact heap_alloc_new wr _
          have hb5 : Below wr.heap.size wr (wr.alloc (.cells #[.string yk, .int .u64 ys, .bool yd, .string yv] 24)) := below_alloc (Below.refl _ _) _
          have HB5 := Lib.hid hb5
          have HX5 := Lib.hid hx5
          have CG2 : Hid (∀ wq, Below wr.heap.size wr wq → Calls Try.prog 16 #[.slice A' n' c'] wq fun e w' => e = .returned (.tuple #[.agg #[.string yk, .int .u64 ys, .bool yd, .string yv], .int .i64 ml, .int .i64 0]) ∧ Below wq.heap.size wq w') := Lib.hid (fun wq h => by
            have := CG.out wq h
            rw [← HY.out] at this
            exact this)
          generalize wr.alloc (.cells #[.string yk, .int .u64 ys, .bool yd, .string yv] 24) = w5 at HB5 HX5 ⊢
          clear hx5 hb5 CG HXC2
          go_wp2_with fail
          refine (CG2.out _ HB5.out).mono ?_
          rintro e w6 ⟨rfl, hb6⟩
          have HB6 := Lib.hid (below_then HB5.out HB5.out.size hb6)
          have HX6 := Lib.hid (box_below HX5.out hb6)
          clear hb6 CG2 HB5 HX5
          go_upto_region 18 with fail
          have hx7 : (w6.alloc (.cells #[.string yk, .int .u64 ys, .bool yd, .string yv] 24)).heap[w6.heap.size]? = some (.cells x.cells.toArray 24) := by rw [← HY.out]; exact heap_alloc_new w6 _
          have hb7 : Below w6.heap.size w6 (w6.alloc (.cells #[.string yk, .int .u64 ys, .bool yd, .string yv] 24)) := below_alloc (Below.refl _ _) _
          have HB7 := Lib.hid (below_then HB6.out HB6.out.size hb7)
          have HX7 := Lib.hid (box_below HX6.out hb7)
          have HZ7 := Lib.hid hx7
          generalize w6.alloc (.cells #[.string yk, .int .u64 ys, .bool yd, .string yv] 24) = w7 at HB7 HX7 HZ7 ⊢
          clear hx7 hb7 HB6 HX6
          refine plain_ (fun wq => Below w7.heap.size w7 wq) (fun _ => True) reg_6_18 rfl inv0 (fun _ _ _ _ => trivial) (Below.refl _ _) trivial ?_
          refine w_move (.inl rfl) (fun vs w hK => ⟨wants_none rfl, rho_out rfl rfl⟩) ?_
          refine w_val [(59, _)] (_) (fun vs w hK => ⟨wants_none rfl, rho_in rfl (fv (hK 0 (by decide))), trivial⟩) rfl (fun wq hI => by exact run_int_neq rfl rfl rfl rfl) ?_
          refine w_move (.inl rfl) (fun vs w hK => ⟨wants_none rfl, rho_in rfl (fv (hK 1 (by decide)))⟩) ?_
          refine w_valG [(11, _)] (_) (fun vs w hK => wantsF rfl (fv (hK 2 (by decide)))) (fun hG vs w hK => ⟨(rho_out rfl rfl), trivial⟩) rfl (fun hG wq hI => by exact run_load_op rfl rfl (load_ent (box_below HZ7.out hI))) ?_
          refine w_valG [(10, _)] (_) (fun vs w hK => wantsF rfl (fv (hK 2 (by decide)))) (fun hG vs w hK => ⟨(rho_out rfl rfl), trivial⟩) rfl (fun hG wq hI => by exact run_load_op rfl rfl (load_ent (box_below HX7.out hI))) ?_
          refine w_valG [(62, _), (63, _)] (_) (fun vs w hK => wantsF rfl (fv (hK 2 (by decide)))) (fun hG vs w hK => ⟨(rho_in rfl (fvg (hK 3 (by decide)) hG)), (rho_in rfl (fvg (hK 4 (by decide)) hG)), trivial⟩) rfl (fun hG wq hI => by exact op_ent_neq rfl rfl rfl rfl) ?_
          refine w_or rfl (fun vs w hK => wants_none rfl) (fun vs w hK => (rho_in rfl (fv (hK 2 (by decide))))) (fun hB vs w hK => (rho_in rfl (fvg (hK 5 (by decide)) (gnot hB)))) ?_
          refine w_as (c' := .bool false) (by rw [Ent.eqb_self]; rfl) ?_
          refine w_endM [false, false, false, false, false, false, true] rfl rfl rfl (fun vs wq hI hF => ?_)
          simp only [List.reverse_cons, List.reverse_nil, List.nil_append, List.cons_append, finL_val, finL_of, finL_any, finL_app, finL_new, finL_gr, finL_row, finL_box, finL_nil, Act.put, List.setIfInBounds_toArray, List.set_cons_zero, List.set_cons_succ, Nat.reduceAdd, maskF, finL_imp, Bool.not_false, Bool.not_true, Bool.true_and, Bool.false_and]
          have HB8 := Lib.hid (below_then HB7.out HB7.out.size hI)
          clear hI hF HB7 HX7 HZ7
          obtain ⟨w8, rfl⟩ : ∃ w8 : World, w8 = wq := ⟨_, rfl⟩
          have HR8 := Lib.hid (HR3.out w8 HB8.out)
          have HB9 := Lib.hid (below_then HB.out HB.out.size HB8.out)
          clear HR3
          go_wp2_with fail
          go_roundw
          case rel => exact ⟨j + 1, _, _, _, _, _, _, _, rfl, rfl, rfl, rfl, rfl, by go_num, by omega, by omega, HR8, HB9⟩
          case measure => simp [intOf] <;> omega
        · obtain rfl : j = k := by omega
          have t2 : ¬ (j : Int) < (j : Int) := by omega
          rw [List.drop_eq_nil_of_le (by rw [HS.out.len]; exact Nat.le_refl _), catL_nil, List.nil_append] at HR2
          have HWq := Lib.hid (below_then HW10.out HW10.out.size HB.out)
          have hcv1 := conv_rds (c := c') (dst := 9) tb Try.underlying5 Try.underlying9 HR2.out
          have hcv2 := conv_rds (c := c2) (dst := 9) tb Try.underlying5 Try.underlying9 (rds_below HR.out HWq.out)
          go_wp2_with fail
          go_ret
          exact ⟨rfl, HWq.out⟩
end Go.Proofs.Ytgnicgcdhldmmaa.Key

