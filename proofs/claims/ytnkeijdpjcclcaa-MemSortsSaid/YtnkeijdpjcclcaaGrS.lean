/- append(b, s...): a text's bytes onto a row of bytes, own or marked. -/
import Derived.Test.YtnkeijdpjcclcaaOps
import Derived.Lib.AppendStr
namespace Go.Proofs.Ytnkeijdpjcclcaa.Kit
set_option linter.unusedVariables false
set_option linter.unusedSimpArgs false
open Go.RowKit Go.Proofs.YtnkeijdpjcclcaaW.PrintWords Go.Proofs.YtnkeijdpjcclcaaW.PrintLast Go.Proofs.YtnkeijdpjcclcaaW.PrintMore
theorem strCells_eq (s : ByteArray) : Lib.strCells s = encs (Value.int .u8) (numsOf s) := by
  rw [numsOf_data, Lib.strCells, encs, List.map_map]
  rfl
/-- Cells stored ahead of a row's mark. -/
theorem mk_store {P : Program} {g n : Nat} {e : TypeId} {fr : Nat × Nat} : ∀ (vs : List Value) (i : Nat) (cur : Array Value) (w : World), w.heap[g]? = some (.cells cur e fr) → cur.size ≤ fr.1 → n + i + vs.length ≤ cur.size → (∀ v ∈ vs, v.oneCell' = true) →
    (storeCells ⟨g, n, none⟩ vs i).run P w = .ok () (w.setRow g (cur.toList.take (n + i) ++ vs ++ cur.toList.drop (n + i + vs.length)).toArray) := by
  intro vs
  induction vs with
  | nil =>
    intro i cur w hg _ _ _
    simp only [storeCells, List.append_nil, List.length_nil, Nat.add_zero, List.take_append_drop, Array.toArray_toList]
    rw [setRow_self w g cur e fr hg]
    rfl
  | cons v rest ih =>
    intro i cur w hg hfr hl h1
    have hi : n + i < cur.size := by simp at hl; omega
    have hadd : (⟨g, n, none⟩ : Addr).add i = ⟨g, n + i, none⟩ := by unfold Addr.add; split <;> simp_all
    have hcell : w.cell? ⟨g, n + i, none⟩ = some cur[n + i] := by simp [World.cell?, hg, hi]
    have hfro : w.frozen? ⟨g, n + i, none⟩ = false := by
      obtain ⟨lo, hi'⟩ := fr
      simp only [World.frozen?, hg, Bool.and_eq_false_iff, decide_eq_false_iff_not]
      left
      simp only at hfr
      omega
    have hst : (store ((⟨g, n, none⟩ : Addr).add i) v).run P w = .ok () (w.setRow g (cur.setIfInBounds (n + i) v)) := by
      rw [hadd, run_store P w _ v _ (h1 v (by simp)), hcell]
      simp [hfro, setCell_eq_setRow w g (n + i) cur e fr v hg]
    have ih := ih (i + 1) (cur.setIfInBounds (n + i) v) (w.setRow g (cur.setIfInBounds (n + i) v)) (setRow_heap w g cur _ e _ hg) (by simpa using hfr) (by simp at hl ⊢; omega) (fun x hx => h1 x (by simp [hx]))
    simp only [storeCells, Sem.run_bind, hst, Result.andThen_ok, ih, setRow_setRow]
    congr 3
    have e := list_seg_step cur.toList (n + i) v rest (by simp at hl ⊢; omega)
    simpa [Array.toList_setIfInBounds, Nat.add_assoc] using e
theorem gr_run_str {P : Program} {t u e : TypeId} {bytes : Nat} (T : SlTy P t e (.int .u8 0) bytes) (hb1 : bytes = 1) (hu : P.underlying u = some .string) (ty : TypeId) {W : World} {B : Nat} {v : Value} {xs : List Int} (s : ByteArray) (HO : Gr .u8 e W B v xs) (hbase : B ≤ W.heap.size) (hl : xs.length + s.size ≤ 140737488355328) :
    ∃ v1 w1, (Builtin.append_ #[t, u] ty #[v, .string s]).run P W = .ok v1 w1 ∧ Apd (Value.int .u8) (int_one .u8) e W w1 B v v1 (xs ++ numsOf s) := by
  obtain ⟨i, hi, hz, hsize, hby⟩ := info_of T
  have hby1 : i.bytes = 1 := by rw [hby, hb1]
  have hnl : (numsOf s).length = s.size := numsOf_length s
  have hone : ∀ v ∈ Lib.strCells s, v.oneCell' = true := Lib.strCells_oneCell s
  have hcl : (Lib.strCells s).length = s.size := Lib.strCells_length s
  have henc : encs (Value.int .u8) (xs ++ numsOf s) = encs (Value.int .u8) xs ++ Lib.strCells s := by rw [strCells_eq]; simp [encs]
  rcases HO with HO | ⟨g, cap, cur, fr, rfl, k1, k2, k3, k4, k5, k6, k7⟩
  · have hown := Kd.own_of_R HO
    obtain ⟨v1, w1, hrun, h2, hg, _⟩ := Lib.run_append_own_string (P := P) W B t u ty e i T.und hu hi hz hsize hby1 v xs.length (encs (Value.int .u8) xs) hown s (by simp only [maxLen]; omega) hl hbase
    refine ⟨v1, w1, hrun, .inl (Kd.R_of_own ?_ (fun _ _ => trivial)), ⟨hg, ?_⟩⟩
    · rw [List.length_append, hnl, henc]
      exact h2
    · rcases hown.2 with ⟨rfl, hn⟩ | ⟨g, cap, cur, rfl, hbg, hgb, hnc, hcm, hcs, htake⟩
      · by_cases hm : s.size = 0
        · have hn0 : Lib.strCells s = [] := List.eq_nil_of_length_eq_zero (by rw [hcl]; exact hm)
          have hf := Lib.run_firstCells_string (P := P) W 1 s
          rw [hm] at hf
          have hr : (Builtin.append_ #[t, u] ty #[.slice none 0 0, .string s]).run P W = .ok (.slice none 0 0) W := by
            simp [Builtin.append_, run_underlying T.und, run_underlying hu, sizeOf, typeInfo, hi, hsize, Builtin.lenOf, hm, hf]
          rw [hr] at hrun
          cases hrun
          exact .inl rfl
        · have hr := run_append_nil_string (P := P) W t u ty e i (.int .u8 0) T.und hu hi hz s (by omega) (by omega) (by rw [hby1]; omega)
          rw [hr] at hrun
          cases hrun
          exact .inr ⟨_, rfl, Nat.le_refl _⟩
      · by_cases hroom : xs.length + s.size ≤ cap
        · have hcs1 : cur.size = cap := by simpa using hcs
          have hr := Lib.run_append_room_string (P := P) W t u ty e i T.und hu hi hsize g xs.length cap cur hgb s hroom (by omega)
          rw [hr] at hrun
          cases hrun
          exact .inl rfl
        · have holds : ∀ j u, (encs (Value.int .u8) xs)[j]? = some u → W.cell? ((⟨g, 0, none⟩ : Addr).add j) = some u := hown.cells (g := g) rfl
          have hr := Lib.run_append_grow_string (P := P) W t u ty e i (.int .u8 0) T.und hu hi hz ⟨g, 0, none⟩ xs.length cap (encs (Value.int .u8) xs) (by rw [hsize, encs, List.length_map]; omega) holds s (by omega) (by omega) (by rw [hby1]; exact growslice_fits (by omega) (by omega))
          rw [hr] at hrun
          cases hrun
          exact .inr ⟨_, rfl, Nat.le_refl _⟩
  · by_cases hroom : xs.length + s.size ≤ cap
    · have hst := mk_store (P := P) (n := xs.length) (Lib.strCells s) 0 cur W k2 k3 (by rw [hcl]; omega) hone
      simp only [Nat.add_zero] at hst
      have hf := Lib.run_firstCells_string (P := P) W 1 s
      have hrun : (Builtin.append_ #[t, u] ty #[.slice (some ⟨g, 0, none⟩) xs.length cap, .string s]).run P W = .ok (.slice (some ⟨g, 0, none⟩) (xs.length + s.size) cap) (W.setRow g (cur.toList.take xs.length ++ Lib.strCells s ++ cur.toList.drop (xs.length + (Lib.strCells s).length)).toArray) := by
        simp [Builtin.append_, run_underlying T.und, run_underlying hu, sizeOf, typeInfo, hi, Builtin.lenOf, hroom, hf, Addr.add_lit, hsize, hst]
      refine ⟨_, _, hrun, .inr ⟨g, cap, _, fr, by rw [List.length_append, hnl], k1, setRow_heap W g cur _ e _ k2, ?_, by rw [List.length_append, hnl]; exact hroom, k5, ?_, ?_⟩, ⟨⟨rfl, rfl, rfl, by simp, fun k _ hk => setRow_other W g k _ (fun e => hk (by simp [Value.ownBlock, e]))⟩, .inl rfl⟩⟩
      · simp only [List.size_toArray, List.length_append, List.length_take, List.length_drop, Array.length_toList, hcl]
        omega
      · simp only [List.size_toArray, List.length_append, List.length_take, List.length_drop, Array.length_toList, hcl]
        omega
      · have hlx : (encs (Value.int .u8) xs).length = xs.length := by simp [encs]
        rw [k7, List.length_append, hnl, henc, List.append_assoc]
        rw [← List.append_assoc, List.take_left' (by rw [List.length_append, hlx, hcl])]
    · have hr := Lib.run_append_grow_string (P := P) W t u ty e i (.int .u8 0) T.und hu hi hz ⟨g, 0, none⟩ xs.length cap (encs (Value.int .u8) xs) (by rw [hsize, encs, List.length_map]; omega) (mk_cells (cap := cap) k2 k7) s (by omega) (by omega) (by rw [hby1]; exact growslice_fits (by omega) (by omega))
      refine ⟨_, _, hr, .inl (Kd.R_of_own ?_ (fun _ _ => trivial)), ⟨⟨rfl, rfl, rfl, by simp, fun k hk _ => heap_alloc_old W.drew _ hk⟩, .inr ⟨_, rfl, Nat.le_refl _⟩⟩⟩
      have hcm : grownCap W (xs.length + s.size) cap e ≤ maxLen := grownCap_le_maxLen _ _ _ _ (by simp only [maxLen]; omega)
      have hge := grownCap_ge W (xs.length + s.size) cap e
      refine ⟨by simp [encs, hnl], .inr ⟨_, _, _, by rw [List.length_append, hnl], hbase, heap_alloc_new W.drew _, by rw [List.length_append, hnl]; exact hge, hcm, ?_, ?_⟩⟩
      · have hz1 : (Value.int IntKind.u8 0).cells.size = 1 := rfl
        simp only [Array.size_append, List.size_toArray, size_zeroCells, hz1, hcl, encs, List.length_map, hnl]
        omega
      · simp only [Array.toList_append, henc, List.append_assoc]
        rw [← List.append_assoc, List.take_left' (by simp [encs, hcl, hnl])]
section
variable {P : Program} {ops : Array Oper} {rest : List Oper} {o : Oper} {a : Act} {Q : Exit → Act → World → Prop} {t u e : TypeId} {bytes : Nat}
/-- append(v, s...), behind at_builtin. -/
theorem gapp_str (T : SlTy P t e (.int .u8 0) bytes) (hb1 : bytes = 1) (hu : P.underlying u = some .string) (hgd : o.guard = none) (s x : Operand) (ho : o.op = .call { callee := .builtin .append, args := #[s, x], argTypes := #[t, u] })
    {w0 W : World} {B : Nat} {v : Value} {xs : List Int} {str : ByteArray} (hs : a.eval s = v) (hx : a.eval x = .string str)
    (HO : Gr .u8 e W B v xs) (HB : Below B w0 W) (hbase : B ≤ W.heap.size) (hl : xs.length + str.size ≤ 140737488355328)
    (h : ∀ v1 w1, Gr .u8 e w1 B v1 (xs ++ numsOf str) → Below B w0 w1 → B ≤ w1.heap.size → Fr W w1 v v1 → wpList P ops Q rest (a.put o.dst v1) w1) :
    wpList P ops Q (o :: rest) a W := by
  obtain ⟨v1, w1, hrun, hA⟩ := gr_run_str T hb1 hu o.type str HO hbase hl
  refine wpList_plain hgd fun K hK => ?_
  unfold Oper.wp execOp
  simp only [ho, resolve, invoke, builtin, Sem.run_bind, Sem.run_pure, Result.andThen_ok, List.map_toArray, List.map_cons, List.map_nil, hs, hx, hrun]
  exact hK _ _ (h v1 w1 hA.own (HB.grown hA.fr.grown hbase (gr_base HO)) (Nat.le_trans hbase hA.fr.size) hA.fr)
end
theorem run_append_str_op {P : Program} {o : Oper} {l : List (Nat × Value)} {s x : Operand} {ts : Array TypeId} {str : ByteArray} {v v1 : Value} {w w1 : World} (ho : o.op = .call { callee := .builtin .append, args := #[s, x], argTypes := ts }) (hs : lk l s = v) (hx : lk l x = .string str)
    (hrun : (Builtin.append_ ts o.type #[v, .string str]).run P w = .ok v1 w1) : (execOp (lk l) o).run P w = .ok (.value v1) w1 := run_append_op ho hs hx hrun
end Go.Proofs.Ytnkeijdpjcclcaa.Kit
