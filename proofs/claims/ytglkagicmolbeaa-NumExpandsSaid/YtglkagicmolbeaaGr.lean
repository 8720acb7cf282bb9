/- Rows that may be appended to: rows of the call's own, and rows that are full (a constant's bytes, which bear a mark). -/
import Derived.Test.YtglkagicmolbeaaKit
import Derived.Test.YtglkagicmolbeaaWGuard
import Derived.Lib.SlBytesConst
namespace Go.Proofs.Ytglkagicmolbeaa.Kit
set_option linter.unusedVariables false
open Go.RowKit Go.Proofs.YtglkagicmolbeaaW.PrintWords Go.Proofs.YtglkagicmolbeaaW.PrintLast Go.Proofs.YtglkagicmolbeaaW.PrintMore

section
variable {P : Program} {ops : Array Oper} {rest : List Oper} {o : Oper} {a : Act} {Q : Exit → Act → World → Prop} {Kc : Act → World → Prop} {α : Type} {enc : α → Value} {h1 : ∀ x, (enc x).oneCell' = true} {z : Value} {t e : TypeId} {bytes : Nat}
/-- A row of the call's own, or a full one, which no append writes. -/
def GrE {α : Type} (enc : α → Value) (h1 : ∀ x, (enc x).oneCell' = true) (e : TypeId) (w : World) (B : Nat) (v : Value) (xs : List α) : Prop :=
  OwnE enc h1 e w B v xs ∨ ∃ g n, v = .slice (some ⟨g, 0, none⟩) n n ∧ B ≤ g ∧ g < w.heap.size ∧ RdsE enc h1 w (some ⟨g, 0, none⟩) n xs
abbrev Gr (k : IntKind) (e : TypeId) (w : World) (B : Nat) (v : Value) (xs : List Int) : Prop := GrE (Value.int k) (int_one k) e w B v xs
theorem gr_own {w : World} {B : Nat} {v : Value} {xs : List α} (h : OwnE enc h1 e w B v xs) : GrE enc h1 e w B v xs := .inl h
theorem gr_nil (e : TypeId) (w : World) (B : Nat) : GrE enc h1 e w B (.slice none 0 0) [] := .inl (own_e_nil e w B)
theorem gr_lower {w : World} {B B' : Nat} {v : Value} {xs : List α} (h : GrE enc h1 e w B v xs) (hb : B' ≤ B) : GrE enc h1 e w B' v xs := by
  rcases h with h | ⟨g, n, hv, h1, h2, h3⟩
  · exact .inl (own_lower h hb)
  · exact .inr ⟨g, n, hv, by omega, h2, h3⟩
theorem gr_below {w w' : World} {B : Nat} {v : Value} {xs : List α} (h : GrE enc h1 e w B v xs) (hb : Below w.heap.size w w') : GrE enc h1 e w' B v xs := by
  rcases h with h | ⟨g, n, hv, h1, h2, h3⟩
  · exact .inl (own_below h hb)
  · exact .inr ⟨g, n, hv, h1, Nat.lt_of_lt_of_le h2 hb.size, rds_below h3 hb⟩
theorem gr_open {w : World} {B : Nat} {v : Value} {xs : List α} (h : GrE enc h1 e w B v xs) :
    ∃ A n c, v = .slice A n c ∧ n ≤ c ∧ Hid (xs.length = n) ∧ n ≤ 9223372036854775807 ∧ RdsE enc h1 w A n xs := by
  rcases h with h | ⟨g, n, hv, h1, h2, h3⟩
  · exact own_open h
  · exact ⟨_, n, n, hv, Nat.le_refl _, Lib.hid (rds_len h3), rds_max h3, h3⟩
theorem gr_base {w : World} {B : Nat} {v : Value} {xs : List α} (h : GrE enc h1 e w B v xs) : ∀ j, v.ownBlock = some j → B ≤ j := by
  rcases h with h | ⟨g, n, rfl, h1, h2, h3⟩
  · exact fun j hj => own_base (Kd.own_of_R h) j hj
  · intro j hj
    simp only [Value.ownBlock, Option.some.injEq] at hj
    omega
theorem gr_lt {w : World} {B : Nat} {v : Value} {xs : List α} (h : GrE enc h1 e w B v xs) : ∀ j, v.ownBlock = some j → j < w.heap.size := by
  rcases h with h | ⟨g, n, rfl, h1, h2, h3⟩
  · exact fun j hj => own_lt (Kd.own_of_R h) j hj
  · intro j hj
    simp only [Value.ownBlock, Option.some.injEq] at hj
    omega
/-- A constant's bytes, as they are laid: a marked row. -/
theorem gr_marked {e : TypeId} (w : World) (B : Nat) (fr : Nat × Nat) (d : α) (xs : List α) (n : Nat) (hn : xs.length = n) (hB : B ≤ w.heap.size) (hm : xs.length ≤ 9223372036854775807) :
    GrE enc h1 e (w.alloc (.cells (encs enc xs).toArray e fr)) B (.slice (some ⟨w.heap.size, 0, none⟩) n n) xs :=
  .inr ⟨w.heap.size, n, rfl, hB, by simp, rds_lit w e fr d xs hm n hn⟩
/-- The run of an append onto a full row. -/
theorem full_run (d : α) (T : SlTy P t e z bytes) (ty : TypeId) {W : World} {B g n : Nat} {xs : List α} {p : α} (hr : RdsE enc h1 W (some ⟨g, 0, none⟩) n xs) (hbase : B ≤ W.heap.size) (hl : (xs.length + 1) * bytes ≤ 140737488355328) :
    ∃ v1 w1, (Builtin.append_ #[t, t] ty #[.slice (some ⟨g, 0, none⟩) n n, .slice (some ⟨W.heap.size, 0, none⟩) 1 1]).run P (W.alloc (.cells #[enc p] e)) = .ok v1 w1 ∧
      OwnE enc h1 e w1 B v1 (xs ++ [p]) ∧ Below W.heap.size W w1 ∧ v1.ownBlock = some (W.heap.size + 1) := by
  obtain ⟨i, hi, hz, hsize, hby⟩ : ∃ i, P.info? e = some i ∧ i.zero = some z ∧ i.size = 1 ∧ i.bytes = bytes := by
    have h := T.info
    cases hi : P.info? e with
    | none => rw [hi] at h; simp at h
    | some i =>
      rw [hi] at h
      simp only [Option.map_some, Option.some.injEq, Prod.mk.injEq] at h
      exact ⟨i, rfl, h.1, h.2.1, h.2.2⟩
  have hlen := rds_len hr
  have hmx := rds_max hr
  have hp := T.pos
  have hn1 : xs.length + 1 ≤ 140737488355328 := Nat.le_trans (Nat.le_mul_of_pos_right _ hp) hl
  have hrun := run_append_grow (P := P) (W.alloc (.cells #[enc p] e)) t ty e i z T.und hi hz ⟨g, 0, none⟩ n n (encs enc xs) (by rw [hsize, encs, List.length_map]; omega)
    (fun j v hv => by
      have hj : j < xs.length := by
        rcases Nat.lt_or_ge j (encs enc xs).length with h | h
        · simpa [encs] using h
        · rw [List.getElem?_eq_none h] at hv; cases hv
      obtain ⟨ad, ha, hc⟩ := rds_at d (rds_below hr (below_alloc (Below.refl _ _) (.cells #[enc p] e))) j (by omega)
      injection ha with ha
      subst ha
      rw [hc]
      have h2 : (encs enc xs)[j]? = some (enc (xs.getD j d)) := by simp [encs, List.getElem?_eq_getElem hj, List.getD_eq_getElem?_getD]
      rw [← hv, h2])
    ⟨W.heap.size, 0, none⟩ 1 1 [enc p] (by rw [hsize]; rfl) (cell_one_new W (enc p) e) (by omega) (by omega)
    (by rw [hby]; exact growslice_fits (by omega) (by rw [← hlen]; exact hl))
  refine ⟨_, _, hrun, ?_, ?_, ?_⟩
  · refine Kd.R_of_own ?_ (fun _ _ => trivial)
    have hcm : grownCap (W.alloc (.cells #[enc p] e)) (n + 1) n e ≤ maxLen := grownCap_le_maxLen _ _ _ _ (by simp only [maxLen]; omega)
    have hge := grownCap_ge (W.alloc (.cells #[enc p] e)) (n + 1) n e
    have hlx : (xs ++ [p]).length = n + 1 := by rw [List.length_append, List.length_singleton, hlen]
    rw [hlx]
    refine ⟨by simp [encs, hlen], .inr ⟨_, _, _, rfl, ?_, heap_alloc_new (W.alloc (.cells #[enc p] e)).drew _, hge, hcm, ?_, ?_⟩⟩
    · simp only [World.alloc, Array.size_push]; omega
    · simp only [Array.size_append, List.size_toArray, size_zeroCells, encs, List.length_map, hlen, T.one, List.length_singleton]
      omega
    · simp only [Array.toList_append, encs, List.map_append, List.map_cons, List.map_nil, List.append_assoc]
      rw [← List.append_assoc, List.take_left' (by simp [hlen])]
  · exact below_alloc (below_drew (below_alloc (Below.refl _ _) _)) _
  · simp [Value.ownBlock]
/-- append(v, x) of one element onto such a row: what is left is the call's own. -/
theorem gapp_one (T : SlTy P t e z bytes) (hgd : o.guard = none) (s x : Operand) (ho : o.op = .call { callee := .builtin .append, args := #[s, x], argTypes := #[t, t] })
    {w0 W : World} {B : Nat} {v : Value} {xs : List α} {p : α} (hs : a.eval s = v) (hx : a.eval x = .slice (some ⟨W.heap.size, 0, none⟩) 1 1)
    (HO : GrE enc h1 e W B v xs) (HB : Below B w0 W) (hbase : B ≤ W.heap.size) (hl : (xs.length + 1) * bytes ≤ 140737488355328)
    (h : ∀ v1 w1, GrE enc h1 e w1 B v1 (xs ++ [p]) → Below B w0 w1 → B ≤ w1.heap.size → Fr W w1 v v1 → wpList P ops Q rest (a.put o.dst v1) w1) :
    wpList P ops Q (o :: rest) a (W.alloc (.cells #[enc p] e)) := by
  rcases HO with HO | ⟨g, n, rfl, hg, hlt, hr⟩
  · exact app_one T hgd s x ho hs hx HO HB hbase hl fun v1 w1 k1 k2 k3 k4 => h v1 w1 (.inl k1) k2 k3 k4
  · obtain ⟨v1, w1, hrun, k1, k2, k3⟩ := full_run (p := p) p T o.type hr hbase hl
    refine wpList_plain hgd fun K hK => ?_
    unfold Oper.wp execOp
    simp only [ho, resolve, invoke, builtin, Sem.run_bind, Sem.run_pure, Result.andThen_ok, List.map_toArray, List.map_cons, List.map_nil, hs, hx, hrun]
    exact hK _ _ (h v1 w1 (.inl k1) (below_then HB hbase k2) (Nat.le_trans hbase k2.size) ⟨⟨k2.os, k2.tape, k2.output, k2.size, fun k hk _ => k2.block k hk⟩, .inr ⟨_, k3, by omega⟩⟩)
theorem conv_gr {P : Program} {t e dst : TypeId} {bytes : Nat} {z : Value} (T : SlTy P t e z bytes) (he : P.underlying e = some (.int .u8)) (hd : P.underlying dst = some .string) {w : World} {B : Nat} {v : Value} {xs : List Int} (h : Gr .u8 e w B v xs) :
    (convert t dst v).run P w = .ok (.string (strOfNums xs)) w := by
  obtain ⟨A, n, c, rfl, _, hl, _, hr⟩ := gr_open h
  have hl := hl.out
  subst hl
  exact Kd.C_string T.und he hd hr
end
end Go.Proofs.Ytglkagicmolbeaa.Kit
