/- The contract of (page.Page).one. -/
import Derived.Test.YtnkeijdpjcclcaaPgB
namespace Go.Proofs.Ytnkeijdpjcclcaa.Pg
set_option linter.unusedVariables false
set_option linter.unusedSimpArgs false
open Go.Proofs.Ytnkeijdpjcclcaa.Kit Go.Proofs.Ytnkeijdpjcclcaa.Num Go.RowKit Go.Proofs.YtnkeijdpjcclcaaW.PrintWords Go.Proofs.YtnkeijdpjcclcaaW.PrintLast Go.Proofs.YtnkeijdpjcclcaaW.PrintMore NumPure
/-- &a[i] of an array of one-cell elements. -/
theorem wpList_index_arr {P : Program} {ops : Array Oper} {rest : List Oper} {op : Oper} {a : Act} {w : World} {Q : Exit → Act → World → Prop} (hgd : op.guard = none) (t : TypeId) (x y : Operand) (ho : op.op = .indexAddr t x y) {e : TypeId} {m : Nat} (hu : P.underlying t = some (.array m e)) (hs : (P.info? e).map (·.size) = some 1) {g i : Nat} {kd : IntKind} {j : Int} (hx : a.eval x = .pointer (some ⟨g, 0, none⟩)) (hy : a.eval y = .int kd j) (hj : j = (i : Int)) (hi : i < m)
    (h : wpList P ops Q rest (a.put op.dst (.pointer (some ⟨g, i, none⟩))) w) : wpList P ops Q (op :: rest) a w := by
  refine wpList_plain hgd fun K hK => ?_
  subst hj
  have hel : P.elem t = e := by simp [Program.elem, hu]
  have hal : P.arrayLen t = m := by simp [Program.arrayLen, hu]
  have hsz : (sizeOf (P.elem t)).run P w = .ok 1 w := by
    rw [hel]
    cases hq : P.info? e with
    | none => rw [hq] at hs; simp at hs
    | some i0 =>
      rw [hq] at hs
      have hs2 : i0.size = 1 := by simpa using hs
      simp [sizeOf, typeInfo, hq, hs2]
  have hrun : (Instr.indexAt t (.pointer (some ⟨g, 0, none⟩)) (.int kd (i : Int))).run P w = .ok (.pointer (some ⟨g, i, none⟩)) w := by
    rw [run_indexAt_array w t ⟨g, 0, none⟩ kd (i : Int) (by rw [hel, hal]; exact hu), if_pos (by rw [hal]; omega), hsz]
    simp [Result.andThen, Go.Proofs.YtnkeijdpjcclcaaW.PrintWords.add_plain]
  unfold Oper.wp execOp
  simp only [ho, hx, hy, Sem.run_bind, hrun, Result.andThen_ok, Sem.run_pure]
  exact hK _ _ h
theorem op_index_arr {P : Program} {o : Oper} {l : List (Nat × Value)} {x y : Operand} {t e : TypeId} {m : Nat} {w : World} (ho : o.op = .indexAddr t x y) (hu : P.underlying t = some (.array m e)) (hs : (P.info? e).map (·.size) = some 1) {g i : Nat} {kd : IntKind} {j : Int} (hx : lk l x = .pointer (some ⟨g, 0, none⟩)) (hy : lk l y = .int kd j) (hj : j = (i : Int)) (hi : i < m) :
    (execOp (lk l) o).run P w = .ok (.value (.pointer (some ⟨g, i, none⟩))) w := by
  subst hj
  have hel : P.elem t = e := by simp [Program.elem, hu]
  have hal : P.arrayLen t = m := by simp [Program.arrayLen, hu]
  have hsz : (sizeOf (P.elem t)).run P w = .ok 1 w := by
    rw [hel]
    cases hq : P.info? e with
    | none => rw [hq] at hs; simp at hs
    | some i0 =>
      rw [hq] at hs
      have hs2 : i0.size = 1 := by simpa using hs
      simp [sizeOf, typeInfo, hq, hs2]
  have hrun : (Instr.indexAt t (.pointer (some ⟨g, 0, none⟩)) (.int kd (i : Int))).run P w = .ok (.pointer (some ⟨g, i, none⟩)) w := by
    rw [run_indexAt_array w t ⟨g, 0, none⟩ kd (i : Int) (by rw [hel, hal]; exact hu), if_pos (by rw [hal]; omega), hsz]
    simp [Result.andThen, Go.Proofs.YtnkeijdpjcclcaaW.PrintWords.add_plain]
  unfold execOp
  simp only [ho, hx, hy, Sem.run_bind, hrun, Result.andThen_ok, Sem.run_pure]
/-- Two boxes that stay. -/
structure K2 (w : World) (g1 g2 : Nat) (o1 o2 : Obj) (W : World) : Prop where
  bel : Below w.heap.size w W
  p_ : W.heap[g1]? = some o1
  n_ : W.heap[g2]? = some o2
theorem k2_below {w : World} {g1 g2 : Nat} {o1 o2 : Obj} : ∀ W W', K2 w g1 g2 o1 o2 W → Below W.heap.size W W' → K2 w g1 g2 o1 o2 W' := fun W W' h k => ⟨below_then h.bel h.bel.size k, box_stays h.p_ k, box_stays h.n_ k⟩
theorem built30 (a b : ByteArray) : Try.prog.built 30 [(0, .string a), (1, .string b)] = some #[.string a, .string b] := by kernel_rfl
theorem fin_some {xs last : List Int} {x0 x1 x2 a : Nat} (h1 : x0 ≤ last.length) (h2 : x1 + x2 ≤ xs.length - a) : fin xs last x0 x1 x2 a = some ((last.take x0 ++ (xs.drop a).take x1, (xs.drop (a + x1)).take x2), a + x1 + x2) := if_pos ⟨h1, h2⟩
theorem fin_none {xs last : List Int} {x0 x1 x2 a : Nat} (h : ¬ (x0 ≤ last.length ∧ x1 + x2 ≤ xs.length - a)) : fin xs last x0 x1 x2 a = none := if_neg h
/-- So many numbers read. -/
def steps (xs : List Int) (a : Nat) : Nat → Option (List Nat × Nat)
  | 0 => some ([], a)
  | k + 1 => (steps xs a k).bind fun q => (num1 xs q.2).bind fun r => some (q.1 ++ [r.1], r.2)
theorem steps_succ (xs : List Int) (a k : Nat) {q : List Nat × Nat} (h : steps xs a k = some q) : steps xs a (k + 1) = (num1 xs q.2).bind fun r => some (q.1 ++ [r.1], r.2) := by
  simp only [steps, h, Option.bind_some]
theorem oneP_steps (xs last : List Int) (a : Nat) : oneP xs a last = (steps xs a 3).bind fun q => fin xs last (q.1.getD 0 0) (q.1.getD 1 0) (q.1.getD 2 0) q.2 := by
  unfold oneP
  simp only [steps, Option.bind_some]
  cases num1 xs a with
  | none => rfl
  | some p0 =>
    simp only [Option.bind_some]
    cases num1 xs p0.2 with
    | none => rfl
    | some p1 =>
      simp only [Option.bind_some]
      cases num1 xs p1.2 with
      | none => rfl
      | some p2 => rfl
theorem steps_none {xs : List Int} {a k : Nat} (h : steps xs a k = none) : ∀ m, k ≤ m → steps xs a m = none := by
  intro m
  induction m with
  | zero => intro hm; obtain rfl : k = 0 := by omega
            exact h
  | succ m ih =>
    intro hm
    rcases Nat.lt_or_ge m k with g | g
    · obtain rfl : k = m + 1 := by omega
      exact h
    · simp only [steps, ih g, Option.bind_none]
theorem steps_ok {xs : List Int} {a : Nat} (ha : a ≤ xs.length) : ∀ k q, steps xs a k = some q → q.1.length = k ∧ q.2 ≤ xs.length ∧ ∀ x ∈ q.1, x ≤ xs.length := by
  intro k
  induction k with
  | zero =>
    intro q h
    simp only [steps, Option.some.injEq] at h
    subst h
    exact ⟨rfl, ha, by simp⟩
  | succ k ih =>
    intro q h
    simp only [steps] at h
    cases hs : steps xs a k with
    | none => rw [hs] at h; simp at h
    | some p =>
      rw [hs] at h
      simp only [Option.bind_some] at h
      cases hn : num1 xs p.2 with
      | none => rw [hn] at h; simp at h
      | some r =>
        rw [hn] at h
        simp only [Option.bind_some, Option.some.injEq] at h
        subst h
        obtain ⟨i1, i2, i3⟩ := ih p hs
        have hk := num1_ok (x := r.1) (k := r.2) hn
        refine ⟨by simp [i1], hk.2.1, ?_⟩
        intro x hx
        rcases List.mem_append.1 hx with hx | hx
        · exact i3 x hx
        · rw [List.mem_singleton.1 hx]; exact hk.2.2
def arr3 (ys : List Nat) : List Value := [.int .i64 (ys.getD 0 0 : Nat), .int .i64 (ys.getD 1 0 : Nat), .int .i64 (ys.getD 2 0 : Nat)]
theorem arr3_set (ys : List Nat) (h : ys.length < 3) (x : Nat) : (arr3 ys).set ys.length (.int .i64 (x : Nat)) = arr3 (ys ++ [x]) := by
  rcases ys with _ | ⟨a, _ | ⟨b, _ | ⟨c, r⟩⟩⟩
  · rfl
  · rfl
  · rfl
  · simp at h; omega
/-- What one tells. -/
def OnePost (xs : List Int) (at_ : Nat) (last : ByteArray) (w : World) (e : Ending) (w' : World) : Prop := Below w.heap.size w w' ∧
  ((∃ (nm vl : ByteArray) (nx : Nat), e = .returned (.tuple #[.agg #[.string nm, .string vl], .int .i64 (nx : Nat), .int .i64 0]) ∧ oneP xs at_ (numsOf last) = some ((numsOf nm, numsOf vl), nx)) ∨
   (e = .returned (.tuple #[.agg #[.string ⟨#[]⟩, .string ⟨#[]⟩], .int .i64 0, .int .i64 2]) ∧ oneP xs at_ (numsOf last) = none))
/-- The loop's relation. -/
structure OnR (w : World) (pg : List Value) (B : Nat) (xs : List Int) (at_ : Nat) (k a : Nat) (ys : List Nat) (wr : World) : Prop where
  st : steps xs at_ k = some (ys, a)
  bel : Below w.heap.size w wr
  p_ : wr.heap[B]? = some (.cells pg.toArray 36 (0, 0))
  r_ : wr.heap[B + 1]? = some (.cells #[.string ⟨#[]⟩, .string ⟨#[]⟩] 30 (0, 0))
  n_ : wr.heap[B + 1 + 1]? = some (.cells (arr3 ys).toArray 102 (0, 0))
theorem info36 : (Try.prog.info? 36).map (·.size) = some 2 := by kernel_rfl
theorem info3 : (Try.prog.info? 3).map (·.size) = some 1 := by kernel_rfl
theorem reg_51_6 : RegOk (opsOf Try.f51 6) [[], [0], [0, 1], [0, 1, 2], [0, 1, 2], [0, 1, 2, 4], [0, 1, 2, 4, 5], [0, 1, 2, 4, 5, 6], [0, 1, 2, 3, 4, 5, 6, 7], [0, 1, 2, 3, 4, 5, 6, 7, 8]] [] [some 26, some 27, some 28, some 29, some 30, some 31, some 32, some 33, some 34, some 35] := regOk (by kernel_rfl)
theorem reg_51_10 : RegOk (opsOf Try.f51 10) [[], [0], [], [2], [0, 1, 2, 3], [0, 1, 2, 3, 4], [0, 1, 2, 3, 4, 5], [0, 1, 2, 3, 4, 5, 6], [0, 1, 2, 3, 4, 5], [0, 1, 2, 3, 4, 5, 8], [0, 1, 2, 3, 4, 5, 6, 7, 8, 9], [0, 1, 2, 3, 4, 5], [0, 1, 2, 3, 4, 5, 11], [0, 1, 2, 3, 4, 5, 11, 12], [0, 1, 2, 3, 4, 5], [0, 1, 2, 3, 4, 5, 11, 12, 13, 14], [0, 1, 2, 3, 4, 5, 6, 7, 8, 9, 10, 11, 12, 13, 14, 15], [0, 1, 2, 3, 4, 5, 6, 7, 8, 9, 10, 11, 12, 13, 14, 15, 16]] [] [some 45, some 46, some 47, some 48, some 49, some 50, some 51, some 52, some 53, some 54, some 55, some 56, some 57, some 58, some 59, some 60, some 61, some 62] := regOk (by kernel_rfl)
theorem reg_51_12 : RegOk (opsOf Try.f51 12) [[], [], [1], [0, 1, 2], [], [4], [], [], [], [8], [7, 8, 9], [4, 5, 6, 7, 8, 9, 10], [4, 5, 6, 7, 8, 9, 10, 11], [0, 1, 2, 3, 4, 5, 6, 7, 8, 9, 10, 11, 12], [], [14], [], [], [17], [16, 17, 18], [], [], [21], [20, 21, 22], [], [24], [20, 21, 22, 23, 24, 25], [14, 15, 16, 17, 18, 19, 20, 21, 22, 23, 24, 25, 26], [14, 15, 16, 17, 18, 19, 20, 21, 22, 23, 24, 25, 26, 27], [0, 1, 2, 3, 4, 5, 6, 7, 8, 9, 10, 11, 12, 13, 14, 15, 16, 17, 18, 19, 20, 21, 22, 23, 24, 25, 26, 27, 28], [], [], [31], [30, 31, 32], [], [34], [30, 31, 32, 33, 34, 35], [0, 1, 2, 3, 4, 5, 6, 7, 8, 9, 10, 11, 12, 13, 14, 15, 16, 17, 18, 19, 20, 21, 22, 23, 24, 25, 26, 27, 28, 29], [0, 1, 2, 3, 4, 5, 6, 7, 8, 9, 10, 11, 12, 13, 14, 15, 16, 17, 18, 19, 20, 21, 22, 23, 24, 25, 26, 27, 28, 29, 30, 31, 32, 33, 34, 35, 36, 37], [0, 1, 2, 3, 4, 5, 6, 7, 8, 9, 10, 11, 12, 13, 14, 15, 16, 17, 18, 19, 20, 21, 22, 23, 24, 25, 26, 27, 28, 29, 30, 31, 32, 33, 34, 35, 36, 37, 38]] [37] [some 64, some 65, some 66, some 67, some 68, some 69, some 70, some 71, some 72, some 73, some 74, some 75, some 76, some 77, some 78, some 79, some 80, some 81, some 82, some 83, some 84, some 85, some 86, some 87, some 88, some 89, some 90, some 91, some 92, some 93, some 94, some 95, some 96, some 97, some 98, some 99, some 100, none, some 7, some 8] := regOk (by kernel_rfl)
set_option maxRecDepth 20000 in
set_option maxHeartbeats 3200000 in
theorem one_any (Ab : Option Addr) (nb cb : Nat) (Aw : Option Addr) (nw cw : Nat) (xs : List Int) (at_ : Nat) (last : ByteArray) (w : World) (hr : Rds .u8 w Ab nb xs) (hb : Byte xs) (hnc : nb ≤ cb) (hn : nb ≤ 1000000) (ha : at_ ≤ nb) (hls : last.size ≤ 1000000) :
    Calls Try.prog 51 #[.agg #[.slice Ab nb cb, .slice Aw nw cw], .int .i64 (at_ : Nat), .string last] w (OnePost xs at_ last w) := by
  have hxl := rds_len hr
  have HR := Lib.hid hr
  have HB := Lib.hid hb
  have HXL := Lib.hid hxl
  go_enter Try.func51, Try.ntmps51
  go_upto_region 2 with fail
  have h0 : OnR w [.slice Ab nb cb, .slice Aw nw cw] w.heap.size xs at_ 0 at_ [] (((w.alloc (.cells #[.slice Ab nb cb, .slice Aw nw cw] 36)).alloc (.cells #[.string ⟨#[]⟩, .string ⟨#[]⟩] 30)).alloc (.cells #[.int .i64 0, .int .i64 0, .int .i64 0] 102)) := by
    have s1 : (w.alloc (.cells #[.slice Ab nb cb, .slice Aw nw cw] 36)).heap.size = w.heap.size + 1 := by simp only [World.alloc, Array.size_push]
    have s2 : ((w.alloc (.cells #[.slice Ab nb cb, .slice Aw nw cw] 36)).alloc (.cells #[.string ⟨#[]⟩, .string ⟨#[]⟩] 30)).heap.size = w.heap.size + 1 + 1 := by simp only [World.alloc, Array.size_push]
    have a1 := heap_alloc_new w (.cells #[.slice Ab nb cb, .slice Aw nw cw] 36)
    have a2 := heap_alloc_new (w.alloc (.cells #[.slice Ab nb cb, .slice Aw nw cw] 36)) (.cells #[.string ⟨#[]⟩, .string ⟨#[]⟩] 30)
    have a3 := heap_alloc_new ((w.alloc (.cells #[.slice Ab nb cb, .slice Aw nw cw] 36)).alloc (.cells #[.string ⟨#[]⟩, .string ⟨#[]⟩] 30)) (.cells #[.int .i64 0, .int .i64 0, .int .i64 0] 102)
    rw [s1] at a2
    rw [s2] at a3
    have b1 := below_alloc (Below.refl _ (w.alloc (.cells #[.slice Ab nb cb, .slice Aw nw cw] 36))) (.cells #[.string ⟨#[]⟩, .string ⟨#[]⟩] 30)
    have b2 := below_alloc (Below.refl _ ((w.alloc (.cells #[.slice Ab nb cb, .slice Aw nw cw] 36)).alloc (.cells #[.string ⟨#[]⟩, .string ⟨#[]⟩] 30))) (.cells #[.int .i64 0, .int .i64 0, .int .i64 0] 102)
    exact ⟨rfl, below_alloc (below_alloc (below_alloc (Below.refl _ _) _) _) _, box_stays (box_stays a1 b1) b2, box_stays a2 b2, a3⟩
  have H0 := Lib.hid h0
  have hBB : w.heap.size ≤ w.heap.size := Nat.le_refl _
  clear h0 hr hb hxl
  generalize (((w.alloc (.cells #[.slice Ab nb cb, .slice Aw nw cw] 36)).alloc (.cells #[.string ⟨#[]⟩, .string ⟨#[]⟩] 30)).alloc (.cells #[.int .i64 0, .int .i64 0, .int .i64 0] 102)) = w1 at H0 ⊢
  generalize hBd : w.heap.size = B at H0 ⊢
  have HBD := Lib.hid hBd
  clear hBd hBB
  go_wp2_with fail
  go_loopw [1, 14] (fun aa i wr => ∃ (k a : Nat) (ys : List Nat), k ≤ 3 ∧ i = .int .i64 k ∧ aa = .int .i64 a ∧ Hid (OnR w [.slice Ab nb cb, .slice Aw nw cw] B xs at_ k a ys wr)) (fun _ i _ => 3 - (intOf i).toNat)
  case atStart => exact ⟨0, at_, [], by omega, rfl, rfl, H0⟩
  case round =>
    obtain ⟨k, a, ys, hk, rfl, rfl, HO⟩ := hrel
    have hso := steps_ok (by rw [HXL.out]; exact ha) k _ HO.out.st
    have hyl : ys.length = k := hso.1
    have hal : a ≤ nb := by have := hso.2.1; rw [HXL.out] at this; exact this
    have hX : wr.cell? ⟨B, 0, none⟩ = some (.slice Ab nb cb) := by simp [World.cell?, HO.out.p_]
    by_cases hlt : k < 3
    · have t1 : decide ((k : Int) < 3) = true := decide_eq_true (by omega)
      obtain ⟨A2, hcut, hC⟩ := cut_from (enc := Value.int .u8) (h1 := int_one .u8) 0 tb Ab nb cb a (nb - a) (by omega) hnc (a : Int) rfl
      have hrd := hC wr _ (rds_below HR.out HO.out.bel)
      have CG := Lib.hid (get_any A2 (nb - a) (cb - a) _ wr hrd (by rw [List.length_drop, HXL.out]) (by omega) (HB.out.drop a))
      have hn1 : num1 xs a = if (get (xs.drop a)).2.2 = 0 ∧ (get (xs.drop a)).1 ≤ xs.length then some ((get (xs.drop a)).1, a + (get (xs.drop a)).2.1) else none := rfl
      have hst := steps_succ xs at_ k HO.out.st
      have hgk : (get (xs.drop a)).2.2 = 0 → (get (xs.drop a)).2.1 ≤ xs.length := fun h => by
        have h1 : get (xs.drop a) = ((get (xs.drop a)).1, (get (xs.drop a)).2.1, 0) := by rw [← h]
        have h2 := getAt_ok _ _ _ _ _ h1
        rw [List.length_drop] at h2
        omega
      rw [HXL.out] at hn1 hgk
      generalize get (xs.drop a) = G at CG hn1 hgk
      obtain ⟨x, q, er⟩ := G
      simp only at hn1 hgk
      change Hid (Calls Try.prog 67 #[.slice A2 (nb - a) (cb - a)] wr fun e w' => e = .returned (.tuple #[.int .u64 ((x : Nat) : Int), .int .i64 ((q : Nat) : Int), .int .i64 ((er : Nat) : Int)]) ∧ wr = w') at CG
      have HN1 := Lib.hid hn1
      have HST := Lib.hid hst
      have HQ := Lib.hid hgk
      clear hrd hC hn1 hst hgk hso
      go_wp2_with fail
      refine CG.out.mono ?_
      rintro e w' ⟨rfl, rfl⟩
      clear CG
      go_upto_region 6 with fail
      obtain ⟨F, hF⟩ : ∃ F, ((((er : Nat) : Int) != 0) || decide (((x : Nat) : Int) > ((nb : Nat) : Int))) = F := ⟨_, rfl⟩
      have HF := Lib.hid hF
      clear hF
      refine plain_ (fun wq => Below wr.heap.size wr wq) (fun _ => True) reg_51_6 rfl inv0 (fun _ _ _ _ => trivial) (Below.refl _ _) trivial ?_
      refine w_move (.inl rfl) (fun vs w hK => ⟨wants_none rfl, rho_out rfl rfl⟩) ?_
      refine w_val [(26, _)] (_) (fun vs w hK => ⟨wants_none rfl, rho_in rfl (fv (hK 0 (memE rfl))), trivial⟩) rfl (fun wq hI => by exact run_int_neq rfl rfl rfl rfl) ?_
      refine w_move (.inl rfl) (fun vs w hK => ⟨wants_none rfl, rho_in rfl (fv (hK 1 (memE rfl)))⟩) ?_
      refine w_moveG (.inl rfl) (fun vs w hK => wantsF rfl (fv (hK 2 (memE rfl)))) (fun hG vs w hK => (rho_out rfl rfl)) ?_
      refine w_valG [(3, _)] (_) (fun vs w hK => wantsF rfl (fv (hK 2 (memE rfl)))) (fun hG vs w hK => ⟨(rho_out rfl rfl), trivial⟩) rfl (fun hG wq hI => by simp only [execOp, Option.map_some, Option.map_none, lk_tmp, lk_const, lkT_cons, ↓reduceIte, Nat.reduceEqDiff]; go_simp; (first | done | rfl)) ?_
      refine w_valG [(30, _)] (_) (fun vs w hK => wantsF rfl (fv (hK 2 (memE rfl)))) (fun hG vs w hK => ⟨(rho_in rfl (fvg (hK 4 (memE rfl)) hG)), trivial⟩) rfl (fun hG wq hI => by exact run_load_cell (ad := ⟨B, 0, none⟩) (v := .slice Ab nb cb) rfl rfl rfl Try.underlying25 rfl (below_cell hI hX)) ?_
      refine w_valG [(31, _)] (_) (fun vs w hK => wantsF rfl (fv (hK 2 (memE rfl)))) (fun hG vs w hK => ⟨(rho_in rfl (fvg (hK 5 (memE rfl)) hG)), trivial⟩) rfl (fun hG wq hI => by exact run_len_sl rfl Try.underlying25 rfl rfl) ?_
      refine w_valG [(32, _)] (_) (fun vs w hK => wantsF rfl (fv (hK 2 (memE rfl)))) (fun hG vs w hK => ⟨(rho_in rfl (fvg (hK 6 (memE rfl)) hG)), trivial⟩) rfl (fun hG wq hI => by exact op_conv_int rfl Try.underlying3 Try.underlying32 rfl (u64_nat nb (by omega))) ?_
      refine w_valG [(29, _), (33, _)] (_) (fun vs w hK => wantsF rfl (fv (hK 2 (memE rfl)))) (fun hG vs w hK => ⟨(rho_in rfl (fvg (hK 3 (memE rfl)) hG)), (rho_in rfl (fvg (hK 7 (memE rfl)) hG)), trivial⟩) rfl (fun hG wq hI => by exact run_int_gtr rfl rfl rfl rfl) ?_
      refine w_or rfl (fun vs w hK => wants_none rfl) (fun vs w hK => (rho_in rfl (fv (hK 2 (memE rfl))))) (fun hB vs w hK => (rho_in rfl (fvg (hK 8 (memE rfl)) (gnot hB)))) ?_
      refine w_as (c' := .bool F) (congrArg Value.bool HF.out) ?_
      refine w_endM [false, false, false, false, false, false, false, false, false, true] rfl rfl rfl (fun vs wq hI hF => ?_)
      simp only [List.reverse_cons, List.reverse_nil, List.nil_append, List.cons_append, finL_val, finL_of, finL_any, finL_app, finL_new, finL_gr, finL_row, finL_box, finL_nil, Act.put, List.setIfInBounds_toArray, List.set_cons_zero, List.set_cons_succ, Nat.reduceAdd, maskF, finL_imp, Bool.not_false, Bool.not_true, Bool.true_and, Bool.false_and]
      have HBel := Lib.hid (below_then HO.out.bel HO.out.bel.size hI)
      have HP := Lib.hid (box_stays HO.out.p_ hI)
      have HRR := Lib.hid (box_stays HO.out.r_ hI)
      have HNN := Lib.hid (box_stays HO.out.n_ hI)
      clear hI hF hX HO
      obtain ⟨w2, rfl⟩ : ∃ w2 : World, w2 = wq := ⟨_, rfl⟩
      cases F with
      | true =>
        have hno : ¬ (er = 0 ∧ x ≤ nb) := by
          rintro ⟨h1, h2⟩
          have h := HF.out
          rw [h1, decide_eq_false (by omega)] at h
          simp at h
        have hn1 : num1 xs a = none := by rw [HN1.out, if_neg hno]
        have hs1 : steps xs at_ (k + 1) = none := by rw [HST.out, hn1]; rfl
        have HNone : Hid (oneP xs at_ (numsOf last) = none) := Lib.hid (by rw [oneP_steps, steps_none hs1 3 (by omega)]; rfl)
        clear hno hn1 hs1
        go_wp2_with (first | (refine wpList_store_box rfl 30 (.tmp 6) (.tmp 36) rfl (B + 1) [.string ⟨#[]⟩, .string ⟨#[]⟩] rfl rfl HRR.out rfl info30 rfl ?_; intro w5 hs5; have HS5 := Lib.hid hs5; clear hs5) | fail)
        (try simp only [Exit.inBlock, Exit.then])
        refine bodyPost_ret (results_box_tmp2 rfl rfl (loadVar_box HS5.out.at_ Try.underlying30 rfl info30)) rfl ?_
        exact ⟨HS5.out.then_ HBel.out (by have := HBD.out; omega), .inr ⟨rfl, HNone.out⟩⟩
      | false =>
        have hyes : er = 0 ∧ x ≤ nb := by
          have h := HF.out
          rw [Bool.or_eq_false_iff] at h
          obtain ⟨h1, h2⟩ := h
          have h2 := of_decide_eq_false h2
          have h1 : ((er : Nat) : Int) = 0 := by simpa using h1
          omega
        have hxn := hyes.2
        have hqn := HQ.out hyes.1
        have hn1 : num1 xs a = some (x, a + q) := by rw [HN1.out, if_pos hyes]
        have HST2 : Hid (steps xs at_ (k + 1) = some (ys ++ [x], a + q)) := Lib.hid (by rw [HST.out, hn1]; rfl)
        have HYL := Lib.hid hyl
        have hwx : IntKind.i64.wrap ((x : Nat) : Int) = ((x : Nat) : Int) := i64_id (by omega) (by omega)
        clear hyes hn1 HST HN1 HF
        go_wp2_with (first
          | (refine wpList_index_arr rfl 102 _ _ rfl Try.underlying102 info3 rfl rfl rfl hlt ?_)
          | (refine wpList_store_cell rfl 3 _ _ rfl (B + 1 + 1) k (.int .i64 (x : Nat)) rfl rfl rfl HNN.out (by show k < 3; exact hlt) info3 ?_; intro w5 hs5; have HS5 := Lib.hid hs5; clear hs5))
        go_roundw
        case rel =>
          refine ⟨k + 1, a + q, ys ++ [x], by omega, by go_num, by go_num, Lib.hid ⟨HST2.out, HS5.out.then_ HBel.out (by have := HBD.out; omega), HS5.out.keep HP.out (by omega), HS5.out.keep HRR.out (by omega), ?_⟩⟩
          have h1 := HS5.out.at_
          rw [h1]
          have h2 := arr3_set ys (by omega) x
          rw [HYL.out] at h2
          rw [← h2]
        case measure => simp [intOf]; omega
    · obtain rfl : k = 3 := by omega
      obtain ⟨x0, x1, x2, rfl⟩ : ∃ x0 x1 x2, ys = [x0, x1, x2] := by
        rcases ys with _ | ⟨x0, _ | ⟨x1, _ | ⟨x2, _ | ⟨x3, r⟩⟩⟩⟩
        · simp at hyl
        · simp at hyl
        · simp at hyl
        · exact ⟨x0, x1, x2, rfl⟩
        · simp at hyl
      have hl0 := hso.2.2 x0 (by simp)
      have hl1 := hso.2.2 x1 (by simp)
      have hl2 := hso.2.2 x2 (by simp)
      rw [HXL.out] at hl0 hl1 hl2
      have hN := HO.out.n_
      have c0 : wr.cell? ⟨B + 1 + 1, 0, none⟩ = some (.int .i64 (x0 : Nat)) := by simp [World.cell?, hN, arr3]
      have c1 : wr.cell? ⟨B + 1 + 1, 1, none⟩ = some (.int .i64 (x1 : Nat)) := by simp [World.cell?, hN, arr3]
      have c2 : wr.cell? ⟨B + 1 + 1, 2, none⟩ = some (.int .i64 (x2 : Nat)) := by simp [World.cell?, hN, arr3]
      have C0 := Lib.hid c0
      have C1 := Lib.hid c1
      have C2 := Lib.hid c2
      have HX := Lib.hid hX
      have HST : Hid (oneP xs at_ (numsOf last) = fin xs (numsOf last) x0 x1 x2 a) := Lib.hid (by rw [oneP_steps, HO.out.st]; rfl)
      clear hso hN c0 c1 c2 hX
      obtain ⟨F, hF⟩ : ∃ F, (decide (((x0 : Nat) : Int) > (last.size : Int)) || decide (((x1 + x2 : Nat) : Int) > ((nb - a : Nat) : Int))) = F := ⟨_, rfl⟩
      have HF := Lib.hid hF
      clear hF
      go_upto_region 10 with fail
      refine plain_ (fun wq => Below wr.heap.size wr wq) (fun _ => True) reg_51_10 rfl inv0 (fun _ _ _ _ => trivial) (Below.refl _ _) trivial ?_
      refine w_val [(9, _)] (_) (fun vs w hK => ⟨wants_none rfl, rho_out rfl rfl, trivial⟩) rfl (fun wq hI => by exact op_index_arr (i := 0) rfl Try.underlying102 info3 rfl rfl rfl (by decide)) ?_
      refine w_val [(45, _)] (_) (fun vs w hK => ⟨wants_none rfl, rho_in rfl (fv (hK 0 (memE rfl))), trivial⟩) rfl (fun wq hI => by exact run_load_cell (ad := ⟨B + 1 + 1, 0, none⟩) (v := .int .i64 (x0 : Nat)) rfl rfl rfl Try.underlying3 rfl (below_cell hI C0.out)) ?_
      refine w_move (.inl rfl) (fun vs w hK => ⟨wants_none rfl, rho_out rfl rfl⟩) ?_
      refine w_val [(47, _)] (_) (fun vs w hK => ⟨wants_none rfl, rho_in rfl (fv (hK 2 (memE rfl))), trivial⟩) rfl (fun wq hI => by exact run_len_str rfl Try.underlying9 rfl rfl) ?_
      refine w_val [(46, _), (48, _)] (_) (fun vs w hK => ⟨wants_none rfl, rho_in rfl (fv (hK 1 (memE rfl))), rho_in rfl (fv (hK 3 (memE rfl))), trivial⟩) rfl (fun wq hI => by exact run_int_gtr rfl rfl rfl rfl) ?_
      refine w_move (.inl rfl) (fun vs w hK => ⟨wants_none rfl, rho_in rfl (fv (hK 4 (memE rfl)))⟩) ?_
      refine w_valG [(9, _)] (_) (fun vs w hK => wantsF rfl (fv (hK 5 (memE rfl)))) (fun hG vs w hK => ⟨(rho_out rfl rfl), trivial⟩) rfl (fun hG wq hI => by exact op_index_arr (i := 1) rfl Try.underlying102 info3 rfl rfl rfl (by decide)) ?_
      refine w_valG [(51, _)] (_) (fun vs w hK => wantsF rfl (fv (hK 5 (memE rfl)))) (fun hG vs w hK => ⟨(rho_in rfl (fvg (hK 6 (memE rfl)) hG)), trivial⟩) rfl (fun hG wq hI => by exact run_load_cell (ad := ⟨B + 1 + 1, 1, none⟩) (v := .int .i64 (x1 : Nat)) rfl rfl rfl Try.underlying3 rfl (below_cell hI C1.out)) ?_
      refine w_valG [(9, _)] (_) (fun vs w hK => wantsF rfl (fv (hK 5 (memE rfl)))) (fun hG vs w hK => ⟨(rho_out rfl rfl), trivial⟩) rfl (fun hG wq hI => by exact op_index_arr (i := 2) rfl Try.underlying102 info3 rfl rfl rfl (by decide)) ?_
      refine w_valG [(53, _)] (_) (fun vs w hK => wantsF rfl (fv (hK 5 (memE rfl)))) (fun hG vs w hK => ⟨(rho_in rfl (fvg (hK 8 (memE rfl)) hG)), trivial⟩) rfl (fun hG wq hI => by exact run_load_cell (ad := ⟨B + 1 + 1, 2, none⟩) (v := .int .i64 (x2 : Nat)) rfl rfl rfl Try.underlying3 rfl (below_cell hI C2.out)) ?_
      refine w_valG [(52, _), (54, _)] (_) (fun vs w hK => wantsF rfl (fv (hK 5 (memE rfl)))) (fun hG vs w hK => ⟨(rho_in rfl (fvg (hK 7 (memE rfl)) hG)), (rho_in rfl (fvg (hK 9 (memE rfl)) hG)), trivial⟩) rfl (fun hG wq hI => by exact run_int_add (c := ((x1 + x2 : Nat) : Int)) rfl rfl rfl (by rw [i64_id (by omega) (by omega)]; omega)) ?_
      refine w_valG [(3, _)] (_) (fun vs w hK => wantsF rfl (fv (hK 5 (memE rfl)))) (fun hG vs w hK => ⟨(rho_out rfl rfl), trivial⟩) rfl (fun hG wq hI => by simp only [execOp, Option.map_some, Option.map_none, lk_tmp, lk_const, lkT_cons, ↓reduceIte, Nat.reduceEqDiff]; go_simp; (first | done | rfl)) ?_
      refine w_valG [(56, _)] (_) (fun vs w hK => wantsF rfl (fv (hK 5 (memE rfl)))) (fun hG vs w hK => ⟨(rho_in rfl (fvg (hK 11 (memE rfl)) hG)), trivial⟩) rfl (fun hG wq hI => by exact run_load_cell (ad := ⟨B, 0, none⟩) (v := .slice Ab nb cb) rfl rfl rfl Try.underlying25 rfl (below_cell hI HX.out)) ?_
      refine w_valG [(57, _)] (_) (fun vs w hK => wantsF rfl (fv (hK 5 (memE rfl)))) (fun hG vs w hK => ⟨(rho_in rfl (fvg (hK 12 (memE rfl)) hG)), trivial⟩) rfl (fun hG wq hI => by exact run_len_sl rfl Try.underlying25 rfl rfl) ?_
      refine w_moveG (.inl rfl) (fun vs w hK => wantsF rfl (fv (hK 5 (memE rfl)))) (fun hG vs w hK => (rho_out rfl rfl)) ?_
      refine w_valG [(58, _), (59, _)] (_) (fun vs w hK => wantsF rfl (fv (hK 5 (memE rfl)))) (fun hG vs w hK => ⟨(rho_in rfl (fvg (hK 13 (memE rfl)) hG)), (rho_in rfl (fvg (hK 14 (memE rfl)) hG)), trivial⟩) rfl (fun hG wq hI => by exact run_int_sub (c := ((nb - a : Nat) : Int)) rfl rfl rfl (by rw [i64_id (by omega) (by omega)]; omega)) ?_
      refine w_valG [(55, _), (60, _)] (_) (fun vs w hK => wantsF rfl (fv (hK 5 (memE rfl)))) (fun hG vs w hK => ⟨(rho_in rfl (fvg (hK 10 (memE rfl)) hG)), (rho_in rfl (fvg (hK 15 (memE rfl)) hG)), trivial⟩) rfl (fun hG wq hI => by exact run_int_gtr rfl rfl rfl rfl) ?_
      refine w_or rfl (fun vs w hK => wants_none rfl) (fun vs w hK => (rho_in rfl (fv (hK 5 (memE rfl))))) (fun hB vs w hK => (rho_in rfl (fvg (hK 16 (memE rfl)) (gnot hB)))) ?_
      refine w_as (c' := .bool F) (congrArg Value.bool HF.out) ?_
      refine w_endM [false, false, false, false, false, false, false, false, false, false, false, false, false, false, false, false, false, true] rfl rfl rfl (fun vs wq hI hF => ?_)
      simp only [List.reverse_cons, List.reverse_nil, List.nil_append, List.cons_append, finL_val, finL_of, finL_any, finL_app, finL_new, finL_gr, finL_row, finL_box, finL_nil, Act.put, List.setIfInBounds_toArray, List.set_cons_zero, List.set_cons_succ, Nat.reduceAdd, maskF, finL_imp, Bool.not_false, Bool.not_true, Bool.true_and, Bool.false_and]
      have HBel := Lib.hid (below_then HO.out.bel HO.out.bel.size hI)
      have HP := Lib.hid (box_stays HO.out.p_ hI)
      have HRR := Lib.hid (box_stays HO.out.r_ hI)
      have HNN := Lib.hid (box_stays HO.out.n_ hI)
      clear hI hF C0 C1 C2 HX HO
      obtain ⟨w2, rfl⟩ : ∃ w2 : World, w2 = wq := ⟨_, rfl⟩
      cases F with
      | true =>
        have HNone : Hid (oneP xs at_ (numsOf last) = none) := Lib.hid (by
          rw [HST.out]
          refine fin_none ?_
          rintro ⟨h1, h2⟩
          rw [numsOf_length] at h1
          rw [HXL.out] at h2
          have h := HF.out
          rw [decide_eq_false (by omega), decide_eq_false (by omega)] at h
          cases h)
        go_wp2_with (first | (refine wpList_store_box rfl 30 (.tmp 6) (.tmp 63) rfl (B + 1) [.string ⟨#[]⟩, .string ⟨#[]⟩] rfl rfl HRR.out rfl info30 rfl ?_; intro w5 hs5; have HS5 := Lib.hid hs5; clear hs5) | fail)
        (try simp only [Exit.inBlock, Exit.then])
        refine bodyPost_ret (results_box_tmp2 rfl rfl (loadVar_box HS5.out.at_ Try.underlying30 rfl info30)) rfl ?_
        exact ⟨HS5.out.then_ HBel.out (by have := HBD.out; omega), .inr ⟨rfl, HNone.out⟩⟩
      | false =>
        have hyes : x0 ≤ last.size ∧ x1 + x2 ≤ nb - a := by
          have h := HF.out
          rw [Bool.or_eq_false_iff] at h
          have h1 := of_decide_eq_false h.1
          have h2 := of_decide_eq_false h.2
          omega
        obtain ⟨hy0, hy1⟩ := hyes
        obtain ⟨A3, hcut3, hC3⟩ := cut_mid (enc := Value.int .u8) (h1 := int_one .u8) 0 tb Ab nb cb a (a + x1) x1 (by omega) (by omega) hnc (a : Int) ((a + x1 : Nat) : Int) rfl rfl
        obtain ⟨A4, hcut4, hC4⟩ := cut_mid (enc := Value.int .u8) (h1 := int_one .u8) 0 tb Ab nb cb (a + x1) (a + x1 + x2) x2 (by omega) (by omega) hnc ((a + x1 : Nat) : Int) ((a + x1 + x2 : Nat) : Int) rfl rfl
        have HC3 := Lib.hid (fun W (h : Below w.heap.size w W) => hC3 W xs (rds_below HR.out h))
        have HC4 := Lib.hid (fun W (h : Below w.heap.size w W) => hC4 W xs (rds_below HR.out h))
        have e3 : (xs.take (a + x1)).drop a = (xs.drop a).take x1 := by rw [List.drop_take]; congr 1; omega
        have e4 : (xs.take (a + x1 + x2)).drop (a + x1) = (xs.drop (a + x1)).take x2 := by rw [List.drop_take]; congr 1; omega
        rw [e3] at HC3
        rw [e4] at HC4
        have HCU3 := Lib.hid hcut3
        have HCU4 := Lib.hid hcut4
        have hz1 : (last.extract 0 x0).size = x0 := by simp; omega
        have hz2 : (strOfNums ((xs.drop a).take x1)).size ≤ x1 := by rw [strOf_size, List.length_take]; omega
        have hz3 : (strOfNums ((xs.drop (a + x1)).take x2)).size ≤ x2 := by rw [strOf_size, List.length_take]; omega
        have hfs : oneP xs at_ (numsOf last) = some ((numsOf (last.extract 0 x0 ++ strOfNums ((xs.drop a).take x1)), numsOf (strOfNums ((xs.drop (a + x1)).take x2))), a + x1 + x2) := by
          rw [HST.out, fin_some (by rw [numsOf_length]; exact hy0) (by rw [HXL.out]; exact hy1), numsOf_append, numsOf_strOfNums _ ((HB.out.drop _).take _), numsOf_strOfNums _ ((HB.out.drop _).take _), numsOf_extract, List.drop_zero, Nat.sub_zero]
        obtain ⟨s1, hs1⟩ : ∃ s1, strOfNums ((xs.drop a).take x1) = s1 := ⟨_, rfl⟩
        obtain ⟨s2, hs2⟩ : ∃ s2, strOfNums ((xs.drop (a + x1)).take x2) = s2 := ⟨_, rfl⟩
        rw [hs1] at hfs hz2
        rw [hs2] at hfs hz3
        have HS1 := Lib.hid hs1
        have HS2 := Lib.hid hs2
        have HFS := Lib.hid hfs
        have HJ0 : Hid (w2.drew.heap[B + 1]? = some (.cells #[.string ⟨#[]⟩, .string ⟨#[]⟩] 30 (0, 0))) := Lib.hid HRR.out
        have HI0 := Lib.hid (⟨below_drew HBel.out, HP.out, HNN.out⟩ : K2 w B (B + 1 + 1) (.cells #[.slice Ab nb cb, .slice Aw nw cw] 36 (0, 0)) (.cells #[.int .i64 (x0 : Nat), .int .i64 (x1 : Nat), .int .i64 (x2 : Nat)] 102 (0, 0)) w2.drew)
        clear hs1 hs2 hfs e3 e4 hC3 hC4 hcut3 hcut4 HF HST
        go_upto_region 12 with fail
        refine draws_ (K2 w B (B + 1 + 1) (.cells #[.slice Ab nb cb, .slice Aw nw cw] 36 (0, 0)) (.cells #[.int .i64 (x0 : Nat), .int .i64 (x1 : Nat), .int .i64 (x2 : Nat)] 102 (0, 0))) (fun W => W.heap[B + 1]? = some (.cells #[.string ⟨#[]⟩, .string ⟨#[]⟩] 30 (0, 0))) (by kernel_rfl) reg_51_12 rfl k2_below (fun W W' h k => box_stays h k) HI0.out HJ0.out ?_
        refine w_move (.inl rfl) (fun vs w hK => ⟨wants_none rfl, rho_out rfl rfl⟩) ?_
        refine w_val [(9, _)] (_) (fun vs w hK => ⟨wants_none rfl, rho_out rfl rfl, trivial⟩) rfl (fun wq hI => by exact op_index_arr (i := 0) rfl Try.underlying102 info3 rfl rfl rfl (by decide)) ?_
        refine w_val [(65, _)] (_) (fun vs w hK => ⟨wants_none rfl, rho_in rfl (fv (hK 1 (memE rfl))), trivial⟩) rfl (fun wq hI => by exact run_load_cell (ad := ⟨B + 1 + 1, 0, none⟩) (v := .int .i64 (x0 : Nat)) rfl rfl rfl Try.underlying3 rfl (by simp [World.cell?, hI.n_])) ?_
        refine w_val [(64, _), (66, _)] (_) (fun vs w hK => ⟨wants_none rfl, rho_in rfl (fv (hK 0 (memE rfl))), rho_in rfl (fv (hK 2 (memE rfl))), trivial⟩) rfl (fun wq hI => by exact op_cut_to (b := x0) rfl Try.underlying9 rfl rfl rfl hy0 rfl) ?_
        refine w_val [(3, _)] _ (fun vs w hK => ⟨wants_none rfl, rho_out rfl rfl, trivial⟩) rfl (fun wq hI => by simp only [execOp, Option.map_some, Option.map_none, lk_tmp, lk_const, lkT_cons, ↓reduceIte, Nat.reduceEqDiff]; go_simp; (first | done | rfl)) ?_
        refine w_val [(68, _)] (_) (fun vs w hK => ⟨wants_none rfl, rho_in rfl (fv (hK 4 (memE rfl))), trivial⟩) rfl (fun wq hI => by exact run_load_cell (ad := ⟨B, 0, none⟩) (v := .slice Ab nb cb) rfl rfl rfl Try.underlying25 rfl (by simp [World.cell?, hI.p_])) ?_
        refine w_move (.inl rfl) (fun vs w hK => ⟨wants_none rfl, rho_out rfl rfl⟩) ?_
        refine w_move (.inl rfl) (fun vs w hK => ⟨wants_none rfl, rho_out rfl rfl⟩) ?_
        refine w_val [(9, _)] (_) (fun vs w hK => ⟨wants_none rfl, rho_out rfl rfl, trivial⟩) rfl (fun wq hI => by exact op_index_arr (i := 1) rfl Try.underlying102 info3 rfl rfl rfl (by decide)) ?_
        refine w_val [(72, _)] (_) (fun vs w hK => ⟨wants_none rfl, rho_in rfl (fv (hK 8 (memE rfl))), trivial⟩) rfl (fun wq hI => by exact run_load_cell (ad := ⟨B + 1 + 1, 1, none⟩) (v := .int .i64 (x1 : Nat)) rfl rfl rfl Try.underlying3 rfl (by simp [World.cell?, hI.n_])) ?_
        refine w_val [(71, _), (73, _)] (_) (fun vs w hK => ⟨wants_none rfl, rho_in rfl (fv (hK 7 (memE rfl))), rho_in rfl (fv (hK 9 (memE rfl))), trivial⟩) rfl (fun wq hI => by exact run_int_add (c := ((a + x1 : Nat) : Int)) rfl rfl rfl (by rw [i64_id (by omega) (by omega)]; omega)) ?_
        refine w_val [(69, _), (70, _), (74, _)] (_) (fun vs w hK => ⟨wants_none rfl, rho_in rfl (fv (hK 5 (memE rfl))), rho_in rfl (fv (hK 6 (memE rfl))), rho_in rfl (fv (hK 10 (memE rfl))), trivial⟩) rfl (fun wq hI => by exact run_slice_op rfl rfl (HCU3.out wq)) ?_
        refine w_val [(75, _)] (_) (fun vs w hK => ⟨wants_none rfl, rho_in rfl (fv (hK 11 (memE rfl))), trivial⟩) rfl (fun wq hI => by exact run_conv_op rfl rfl ((conv_rds (dst := 9) tb Try.underlying5 Try.underlying9 (HC3.out wq hI.bel)).trans (congrArg (fun s => Result.ok (Value.string s) wq) HS1.out))) ?_
        refine w_val [(67, _), (76, _)] (_) (fun vs w hK => ⟨wants_none rfl, rho_in rfl (fv (hK 3 (memE rfl))), rho_in rfl (fv (hK 12 (memE rfl))), trivial⟩) rfl (fun wq hI => by exact run_cat_op rfl rfl rfl (by omega)) ?_
        refine w_val [(3, _)] _ (fun vs w hK => ⟨wants_none rfl, rho_out rfl rfl, trivial⟩) rfl (fun wq hI => by simp only [execOp, Option.map_some, Option.map_none, lk_tmp, lk_const, lkT_cons, ↓reduceIte, Nat.reduceEqDiff]; go_simp; (first | done | rfl)) ?_
        refine w_val [(78, _)] (_) (fun vs w hK => ⟨wants_none rfl, rho_in rfl (fv (hK 14 (memE rfl))), trivial⟩) rfl (fun wq hI => by exact run_load_cell (ad := ⟨B, 0, none⟩) (v := .slice Ab nb cb) rfl rfl rfl Try.underlying25 rfl (by simp [World.cell?, hI.p_])) ?_
        refine w_move (.inl rfl) (fun vs w hK => ⟨wants_none rfl, rho_out rfl rfl⟩) ?_
        refine w_val [(9, _)] (_) (fun vs w hK => ⟨wants_none rfl, rho_out rfl rfl, trivial⟩) rfl (fun wq hI => by exact op_index_arr (i := 1) rfl Try.underlying102 info3 rfl rfl rfl (by decide)) ?_
        refine w_val [(81, _)] (_) (fun vs w hK => ⟨wants_none rfl, rho_in rfl (fv (hK 17 (memE rfl))), trivial⟩) rfl (fun wq hI => by exact run_load_cell (ad := ⟨B + 1 + 1, 1, none⟩) (v := .int .i64 (x1 : Nat)) rfl rfl rfl Try.underlying3 rfl (by simp [World.cell?, hI.n_])) ?_
        refine w_val [(80, _), (82, _)] (_) (fun vs w hK => ⟨wants_none rfl, rho_in rfl (fv (hK 16 (memE rfl))), rho_in rfl (fv (hK 18 (memE rfl))), trivial⟩) rfl (fun wq hI => by exact run_int_add (c := ((a + x1 : Nat) : Int)) rfl rfl rfl (by rw [i64_id (by omega) (by omega)]; omega)) ?_
        refine w_move (.inl rfl) (fun vs w hK => ⟨wants_none rfl, rho_out rfl rfl⟩) ?_
        refine w_val [(9, _)] (_) (fun vs w hK => ⟨wants_none rfl, rho_out rfl rfl, trivial⟩) rfl (fun wq hI => by exact op_index_arr (i := 1) rfl Try.underlying102 info3 rfl rfl rfl (by decide)) ?_
        refine w_val [(85, _)] (_) (fun vs w hK => ⟨wants_none rfl, rho_in rfl (fv (hK 21 (memE rfl))), trivial⟩) rfl (fun wq hI => by exact run_load_cell (ad := ⟨B + 1 + 1, 1, none⟩) (v := .int .i64 (x1 : Nat)) rfl rfl rfl Try.underlying3 rfl (by simp [World.cell?, hI.n_])) ?_
        refine w_val [(84, _), (86, _)] (_) (fun vs w hK => ⟨wants_none rfl, rho_in rfl (fv (hK 20 (memE rfl))), rho_in rfl (fv (hK 22 (memE rfl))), trivial⟩) rfl (fun wq hI => by exact run_int_add (c := ((a + x1 : Nat) : Int)) rfl rfl rfl (by rw [i64_id (by omega) (by omega)]; omega)) ?_
        refine w_val [(9, _)] (_) (fun vs w hK => ⟨wants_none rfl, rho_out rfl rfl, trivial⟩) rfl (fun wq hI => by exact op_index_arr (i := 2) rfl Try.underlying102 info3 rfl rfl rfl (by decide)) ?_
        refine w_val [(88, _)] (_) (fun vs w hK => ⟨wants_none rfl, rho_in rfl (fv (hK 24 (memE rfl))), trivial⟩) rfl (fun wq hI => by exact run_load_cell (ad := ⟨B + 1 + 1, 2, none⟩) (v := .int .i64 (x2 : Nat)) rfl rfl rfl Try.underlying3 rfl (by simp [World.cell?, hI.n_])) ?_
        refine w_val [(87, _), (89, _)] (_) (fun vs w hK => ⟨wants_none rfl, rho_in rfl (fv (hK 23 (memE rfl))), rho_in rfl (fv (hK 25 (memE rfl))), trivial⟩) rfl (fun wq hI => by exact run_int_add (c := ((a + x1 + x2 : Nat) : Int)) rfl rfl rfl (by rw [i64_id (by omega) (by omega)]; omega)) ?_
        refine w_val [(79, _), (83, _), (90, _)] (_) (fun vs w hK => ⟨wants_none rfl, rho_in rfl (fv (hK 15 (memE rfl))), rho_in rfl (fv (hK 19 (memE rfl))), rho_in rfl (fv (hK 26 (memE rfl))), trivial⟩) rfl (fun wq hI => by exact run_slice_op rfl rfl (HCU4.out wq)) ?_
        refine w_val [(91, _)] (_) (fun vs w hK => ⟨wants_none rfl, rho_in rfl (fv (hK 27 (memE rfl))), trivial⟩) rfl (fun wq hI => by exact run_conv_op rfl rfl ((conv_rds (dst := 9) tb Try.underlying5 Try.underlying9 (HC4.out wq hI.bel)).trans (congrArg (fun s => Result.ok (Value.string s) wq) HS2.out))) ?_
        refine w_val [(77, _), (92, _)] (_) (fun vs w hK => ⟨wants_none rfl, rho_in rfl (fv (hK 13 (memE rfl))), rho_in rfl (fv (hK 28 (memE rfl))), trivial⟩) rfl (fun wq hI => by exact op_build rfl (built30 _ _)) ?_
        refine w_move (.inl rfl) (fun vs w hK => ⟨wants_none rfl, rho_out rfl rfl⟩) ?_
        refine w_val [(9, _)] (_) (fun vs w hK => ⟨wants_none rfl, rho_out rfl rfl, trivial⟩) rfl (fun wq hI => by exact op_index_arr (i := 1) rfl Try.underlying102 info3 rfl rfl rfl (by decide)) ?_
        refine w_val [(95, _)] (_) (fun vs w hK => ⟨wants_none rfl, rho_in rfl (fv (hK 31 (memE rfl))), trivial⟩) rfl (fun wq hI => by exact run_load_cell (ad := ⟨B + 1 + 1, 1, none⟩) (v := .int .i64 (x1 : Nat)) rfl rfl rfl Try.underlying3 rfl (by simp [World.cell?, hI.n_])) ?_
        refine w_val [(94, _), (96, _)] (_) (fun vs w hK => ⟨wants_none rfl, rho_in rfl (fv (hK 30 (memE rfl))), rho_in rfl (fv (hK 32 (memE rfl))), trivial⟩) rfl (fun wq hI => by exact run_int_add (c := ((a + x1 : Nat) : Int)) rfl rfl rfl (by rw [i64_id (by omega) (by omega)]; omega)) ?_
        refine w_val [(9, _)] (_) (fun vs w hK => ⟨wants_none rfl, rho_out rfl rfl, trivial⟩) rfl (fun wq hI => by exact op_index_arr (i := 2) rfl Try.underlying102 info3 rfl rfl rfl (by decide)) ?_
        refine w_val [(98, _)] (_) (fun vs w hK => ⟨wants_none rfl, rho_in rfl (fv (hK 34 (memE rfl))), trivial⟩) rfl (fun wq hI => by exact run_load_cell (ad := ⟨B + 1 + 1, 2, none⟩) (v := .int .i64 (x2 : Nat)) rfl rfl rfl Try.underlying3 rfl (by simp [World.cell?, hI.n_])) ?_
        refine w_val [(97, _), (99, _)] (_) (fun vs w hK => ⟨wants_none rfl, rho_in rfl (fv (hK 33 (memE rfl))), rho_in rfl (fv (hK 35 (memE rfl))), trivial⟩) rfl (fun wq hI => by exact run_int_add (c := ((a + x1 + x2 : Nat) : Int)) rfl rfl rfl (by rw [i64_id (by omega) (by omega)]; omega)) ?_
        refine w_lin (FW.of (fun _ W => W.heap[B + 1]? = some (.cells #[.string (last.extract 0 x0 ++ s1), .string s2] 30 (0, 0))) (fun _ W W' h hb => box_stays h hb)) (by decide) (fun vs wq hI hJ hK => ?_) ?_
        · have hA := hJ (by decide) (by decide)
          exact ob_store_box (old := [.string ⟨#[]⟩, .string ⟨#[]⟩]) (cs := [.string (last.extract 0 x0 ++ s1), .string s2]) [(6, _), (93, _)] (wants_none rfl) ⟨rho_out rfl rfl, rho_in rfl (fv (hK 29 (memE rfl))), trivial⟩ rfl rfl rfl rfl hA rfl info30 rfl (fun w' hs => ⟨⟨hs.then_ hI.bel (by have := HBD.out; omega), hs.keep hI.p_ (by omega), hs.keep hI.n_ (by omega)⟩, hs.at_⟩)
        refine w_move (.inr rfl) (fun vs w hK => ⟨wants_none rfl, rho_in rfl (fv (hK 36 (memE rfl)))⟩) ?_
        refine w_const (.inr rfl) (fun vs w hK => wants_none rfl) ?_
        refine w_end rfl rfl rfl (fun vs wq hI hF => ?_)
        simp only [List.reverse_cons, List.reverse_nil, List.nil_append, List.cons_append, finL_val, finL_of, finL_any, finL_app, finL_new, finL_gr, finL_row, finL_box, finL_nil, Act.put, List.setIfInBounds_toArray, List.set_cons_zero, List.set_cons_succ, Nat.reduceAdd]
        have HX7 : Hid (wq.heap[B + 1]? = some (.cells #[.string (last.extract 0 x0 ++ s1), .string s2] 30 (0, 0))) := Lib.hid (hF 37 (by decide) rfl)
        have HB7 := Lib.hid hI.bel
        clear hI hF
        go_wp2_with fail
        (try simp only [Exit.inBlock, Exit.then])
        refine bodyPost_ret (results_box_tmp2 rfl rfl (loadVar_box (cs := [.string (last.extract 0 x0 ++ s1), .string s2]) HX7.out Try.underlying30 rfl info30)) rfl ?_
        exact ⟨HB7.out, .inl ⟨_, _, _, rfl, HFS.out⟩⟩
end Go.Proofs.Ytnkeijdpjcclcaa.Pg

