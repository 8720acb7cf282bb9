/- The walk of the law CrcKnown. -/
import Derived.Test.YtakjmhcdmchgdaaDoorCrcRefSum
import Derived.Test.YtakjmhcdmchgdaaDoorWGuard
namespace Go.Proofs.YtakjmhcdmchgdaaDoor.Crc
set_option linter.unusedVariables false
open Go.Proofs.YtakjmhcdmchgdaaDoor.Kit Go.RowKit Go.Proofs.YtakjmhcdmchgdaaDoorW.PrintWords Go.Proofs.YtakjmhcdmchgdaaDoorW.PrintLast Go.Proofs.YtakjmhcdmchgdaaDoorW.PrintMore

theorem wf_u8 {x : Int} (h : (Lit.int .u8 x).wf = true) : 0 ≤ x ∧ x < 256 := by
  simp [Lit.wf, IntKind.min, IntKind.max, IntKind.signed, IntKind.bits] at h
  omega
theorem isByte_one {x : Int} (h : 0 ≤ x ∧ x < 256) : isByte [x] := fun y hy => by
  rcases List.mem_singleton.1 hy with rfl
  exact h
theorem isByte_rep {x : Int} (h : 0 ≤ x ∧ x < 256) (m : Nat) : isByte (List.replicate m x) := fun y hy => by
  rw [List.eq_of_mem_replicate hy]
  exact h
/-- a run, its first k bytes laid -/
def run (x : Int) (m k : Nat) : List Int := List.replicate k x ++ List.replicate (m - k) 0
theorem run_length (x : Int) (m k : Nat) (h : k ≤ m) : (run x m k).length = m := by simp [run]; omega
theorem run_zero (x : Int) (m : Nat) : run x m 0 = List.replicate m 0 := by simp [run]
theorem run_all (x : Int) (m : Nat) : run x m m = List.replicate m x := by simp [run]
theorem run_set (x : Int) (m k : Nat) (h : k < m) : (run x m k).set k x = run x m (k + 1) := by
  unfold run
  rw [List.set_append]
  simp only [List.length_replicate, Nat.lt_irrefl, if_false, Nat.sub_self]
  obtain ⟨j, hj⟩ : ∃ j, m - k = j + 1 := ⟨m - k - 1, by omega⟩
  rw [hj, List.replicate_succ, List.set_cons_zero, show m - (k + 1) = j by omega, List.replicate_succ', List.append_assoc]
  rfl
structure RunRel (w wr : World) (v : Value) (xs : List Int) : Prop where
  ox : Own .u8 5 wr w.heap.size v xs
  bel : Below w.heap.size w wr
section
variable {P : Program} {ops : Array Oper} {rest : List Oper} {o : Oper} {a : Act} {Q : Exit → Act → World → Prop} {Kc : Act → World → Prop} {α : Type} {enc : α → Value} {h1 : ∀ x, (enc x).oneCell' = true} {z : Value} {t e : TypeId} {bytes : Nat}
/-- append(v, x) of one element: the block's number given. -/
theorem app_one_at (T : SlTy P t e z bytes) (hgd : o.guard = none) (s x : Operand) (ho : o.op = .call { callee := .builtin .append, args := #[s, x], argTypes := #[t, t] })
    {w0 W : World} {B g : Nat} {v : Value} {xs : List α} {p : α} (hs : a.eval s = v) (hx : a.eval x = .slice (some ⟨g, 0, none⟩) 1 1) (hg : W.heap.size = g)
    (HO : OwnE enc h1 e W B v xs) (HB : Below B w0 W) (hbase : B ≤ W.heap.size) (hl : (xs.length + 1) * bytes ≤ 140737488355328)
    (h : ∀ v1 w1, OwnE enc h1 e w1 B v1 (xs ++ [p]) → Below B w0 w1 → B ≤ w1.heap.size → Fr W w1 v v1 → wpList P ops Q rest (a.put o.dst v1) w1) :
    wpList P ops Q (o :: rest) a (W.alloc (.cells #[enc p] e)) := by
  subst hg
  exact app_one T hgd s x ho hs hx HO HB hbase hl h
end
theorem rds_lit_at (k : IntKind) (w : World) (t : TypeId) (fr : Nat × Nat) (l : List Int) (n g : Nat) (hg : w.heap.size = g) (hn : l.length ≤ 9223372036854775807) (hl : l.length = n) :
    Rds k (w.alloc (.cells (nums k l).toArray t fr)) (some ⟨g, 0, none⟩) n l := by subst hg; exact C_lit w k t fr l hn n hl
theorem sum_nil : sum [] = 0 := more_nil 0
set_option maxRecDepth 100000 in
set_option maxHeartbeats 1600000 in
theorem known_any (x n : Int) (w : World) (hT : Halves w) (hwx : (Lit.int .u8 x).wf = true) (hwn : (Lit.int .i64 n).wf = true) :
    Calls Tryd.prog 7 #[.int .u8 x, .int .i64 n] w fun e w' => e = .returned (.bool true) ∧ Below w.heap.size w w' := by
  have hx := wf_u8 hwx
  obtain ⟨m, hm, hm63⟩ := i64_mask n 63 (by omega)
  rw [show ((63 : Nat) : Int) = 63 from rfl] at hm
  have hmk := make_run tb rfl m (by omega)
  clear hwx hwn
  go_enter Tryd.func7, Tryd.ntmps7
  go_wp2_with fail
  refine (head_any w hT).mono ?_
  rintro e w1 ⟨rfl, hB1⟩
  have HB1 := Lib.hid hB1
  clear hB1
  have hR0 : RunRel w (w1.alloc (.cells (madeCells #[.int .u8 0] m) 5)) (.slice (some ⟨w1.heap.size, 0, none⟩) m m) (run x m 0) :=
    ⟨by rw [run_zero]; exact own_of_make .u8 5 w1 w.heap.size m HB1.out.size (by omega), below_alloc HB1.out _⟩
  have HR0 := Lib.hid hR0
  clear hR0
  go_wp2_with fail
  go_loopw [15] (fun i wr => ∃ k : Nat, k ≤ m ∧ i = .int .i64 k ∧ RunRel w wr (.slice (some ⟨w1.heap.size, 0, none⟩) m m) (run x m k)) (fun i _ => m - (intOf i).toNat)
  case atStart => exact ⟨0, Nat.zero_le _, rfl, HR0.out⟩
  case round =>
    obtain ⟨k, hk, rfl, hR⟩ := hrel
    by_cases hlt : k < m
    · obtain ⟨hc1, hf1⟩ := own_cell 0 hR.ox k hlt
      have i0 : (0 : Int) ≤ (k : Int) := Int.natCast_nonneg _
      have i1 : (k : Int) < (m : Int) := by omega
      have ho2 := own_set hR.ox k x
      rw [run_set x m k hlt] at ho2
      have HR2 : Hid (RunRel w _ _ (run x m (k + 1))) := Lib.hid ⟨ho2, hR.bel.setCell (Nat.le_trans HB1.out.size (Nat.le_refl _)) _⟩
      clear ho2
      go_wp2_with fail
      go_roundw
      case rel => exact ⟨k + 1, by omega, by go_num, HR2.out⟩
      case measure => simp [intOf]; omega
    · obtain rfl : k = m := by omega
      rw [run_all] at hR
      have HR := Lib.hid hR
      have hTr := hT.below hR.bel
      have hsz := hR.bel.size
      clear hR hm hmk
      obtain ⟨wo, rfl⟩ : ∃ wo : World, wo = wr := ⟨_, rfl⟩
      go_wp2_with fail
      have D0 := Lib.hid HR.out.bel
      have E0 := Lib.hid (Below.refl wo.heap.size wo)
      have D1 := Lib.hid (below_alloc D0.out (.cells #[.int .u8 x] 5))
      have E1 := Lib.hid (below_alloc E0.out (.cells #[.int .u8 x] 5))
      have D2 := Lib.hid (below_alloc D1.out (.cells #[.int .u8 x] 5))
      have E2 := Lib.hid (below_alloc E1.out (.cells #[.int .u8 x] 5))
      have c1 := sum_any none 0 0 [] wo hTr (rds_nil _ _) rfl (by omega) isByte_nil
      rw [sum_nil] at c1
      have C1 := Lib.hid c1
      clear c1
      refine C1.out.mono ?_
      rintro e w' ⟨rfl, rfl⟩
      go_wp2_with fail
      have C2 := Lib.hid (sum_any (some ⟨wo.heap.size, 0, none⟩) 1 1 [x] _ (hT.below D1.out) (C_lit wo .u8 5 (0, 0) [x] (by simp) 1 rfl) rfl (by omega) (isByte_one hx))
      refine C2.out.mono ?_
      rintro e w' ⟨rfl, rfl⟩
      go_wp2_with fail
      have C3 := Lib.hid (refsum_any (some ⟨wo.heap.size + 1, 0, none⟩) 1 1 [x] _ (rds_lit_at .u8 (wo.alloc (.cells #[.int .u8 x] 5)) 5 (0, 0) [x] 1 (wo.heap.size + 1) (by simp) (by simp) rfl) rfl (by omega) (isByte_one hx))
      refine C3.out.mono ?_
      rintro e w3 ⟨rfl, hb3⟩
      have D3 := Lib.hid (below_then D2.out D2.out.size hb3)
      have E3 := Lib.hid (below_then E2.out E2.out.size hb3)
      clear hb3
      go_wp2_with fail
      have C4 := Lib.hid (sum_any (some ⟨w1.heap.size, 0, none⟩) k k (List.replicate k x) w3 (hT.below D3.out) (rds_below (own_rds HR.out.ox) E3.out) (by simp) (by omega) (isByte_rep hx k))
      refine C4.out.mono ?_
      rintro e w' ⟨rfl, rfl⟩
      go_wp2_with fail
      have D4 := Lib.hid (below_alloc D3.out (.cells #[.int .u8 x] 5))
      have E4 := Lib.hid (below_alloc E3.out (.cells #[.int .u8 x] 5))
      have C5 := Lib.hid (more_any (sum (List.replicate k x)) (sum_lt (isByte_rep hx k)) (some ⟨w3.heap.size, 0, none⟩) 1 1 [x] _ (hT.below D4.out) (C_lit w3 .u8 5 (0, 0) [x] (by simp) 1 rfl) rfl (by omega) (isByte_one hx))
      refine C5.out.mono ?_
      rintro e w' ⟨rfl, rfl⟩
      go_wp2_with ((with_reducible refine gate_builtin (b := .append) (xs := #[.tmp 40, .tmp 42]) rfl ?_); (try (refine gate_guard (by rfl) ?_; dsimp only)); at_builtin; refine app_one_at tb rfl (.tmp 40) (.tmp 42) rfl rfl rfl ?cG (own_below HR.out.ox E4.out) D4.out D4.out.size ?cL ?_; (case cG => simp); (case cL => simp; omega); intro v6 w6 ho6 hb6 hs6 _; obtain ⟨A6, n6, c6, e6, _, HL6, hm6, hC6⟩ := own_open ho6; subst e6; have HC6 := Lib.hid hC6; have D6 := Lib.hid hb6; clear ho6 hb6 hs6 hC6)
      have c7 := refsum_any A6 n6 c6 _ w6 HC6.out HL6.out hm6 (isByte_append (isByte_rep hx k) (isByte_one hx))
      rw [show sum (List.replicate k x ++ [x]) = more (sum (List.replicate k x)) [x] by unfold sum; rw [more_append]] at c7
      have C7 := Lib.hid c7
      clear c7
      refine C7.out.mono ?_
      rintro e w8 ⟨rfl, hb8⟩
      have D8 := Lib.hid (below_then D6.out D6.out.size hb8)
      clear hb8
      go_wp2_with fail
      go_ret
      exact ⟨rfl, D8.out⟩
end Go.Proofs.YtakjmhcdmchgdaaDoor.Crc
