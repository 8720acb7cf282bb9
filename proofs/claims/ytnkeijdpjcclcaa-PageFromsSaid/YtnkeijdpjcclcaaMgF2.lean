/- Merged of: GrS Open St Fld Fld2 StO PgA PgB PgC PgD PgQ PgE PgF PgG PgH -/
import Derived.Test.YtnkeijdpjcclcaaMgF1
import Derived.Lib.AppendStr
import Derived.OpenShut
import Derived.ChangeOld
import Derived.Lib.SmallJoins
import Derived.Deep.Slices
import Derived.ChangeSame
import Derived.Deep.Strs
import Derived.DataElems
import Derived.Maps.AppendAt
import Derived.Great.BuildSlice
import Derived.Lib.SliceRun
import Derived.Test.YtnkeijdpjcclcaaWEqStruct
-- GrS
/- append(b, s...): a text's bytes onto a row of bytes, own or marked. -/
namespace Go.Proofs.Ytnkeijdpjcclcaa.Kit
set_option linter.unusedVariables false
set_option linter.unusedSimpArgs false
open Go.RowKit Go.Proofs.YtnkeijdpjcclcaaW.PrintWords Go.Proofs.YtnkeijdpjcclcaaW.PrintLast Go.Proofs.YtnkeijdpjcclcaaW.PrintMore
theorem strCells_eq (s : ByteArray) : Lib.strCells s = encs (Value.int .u8) (numsOf s) := by
  rw [numsOf_data, Lib.strCells, encs, List.map_map]
  rfl
/-- Cells stored ahead of a row's mark. -/
theorem mk_store {P : Program} {g n : Nat} {e : TypeId} {fr : Nat × Nat} : ∀ (vs : List Value) (i : Nat) (cur : Array Value) (w : World), w.heap[g]? = some (.cells cur e fr) → cur.size ≤ fr.1 → n + i + vs.length ≤ cur.size → (∀ v ∈ vs, v.oneCell' = true) →
    (storeCells ⟨g, n, none⟩ vs i).run P w = .ok () (w.setRow g (cur.toList.take (n + i) ++ vs ++ cur.toList.drop (n + i + vs.length)).toArray) := by
  intro vs
  induction vs with
  | nil =>
    intro i cur w hg _ _ _
    simp only [storeCells, List.append_nil, List.length_nil, Nat.add_zero, List.take_append_drop, Array.toArray_toList]
    rw [setRow_self w g cur e fr hg]
    rfl
  | cons v rest ih =>
    intro i cur w hg hfr hl h1
    have hi : n + i < cur.size := by simp at hl; omega
    have hadd : (⟨g, n, none⟩ : Addr).add i = ⟨g, n + i, none⟩ := by unfold Addr.add; split <;> simp_all
    have hcell : w.cell? ⟨g, n + i, none⟩ = some cur[n + i] := by simp [World.cell?, hg, hi]
    have hfro : w.frozen? ⟨g, n + i, none⟩ = false := by
      obtain ⟨lo, hi'⟩ := fr
      simp only [World.frozen?, hg, Bool.and_eq_false_iff, decide_eq_false_iff_not]
      left
      simp only at hfr
      omega
    have hst : (store ((⟨g, n, none⟩ : Addr).add i) v).run P w = .ok () (w.setRow g (cur.setIfInBounds (n + i) v)) := by
      rw [hadd, run_store P w _ v _ (h1 v (by simp)), hcell]
      simp [hfro, setCell_eq_setRow w g (n + i) cur e fr v hg]
    have ih := ih (i + 1) (cur.setIfInBounds (n + i) v) (w.setRow g (cur.setIfInBounds (n + i) v)) (setRow_heap w g cur _ e _ hg) (by simpa using hfr) (by simp at hl ⊢; omega) (fun x hx => h1 x (by simp [hx]))
    simp only [storeCells, Sem.run_bind, hst, Result.andThen_ok, ih, setRow_setRow]
    congr 3
    have e := list_seg_step cur.toList (n + i) v rest (by simp at hl ⊢; omega)
    simpa [Array.toList_setIfInBounds, Nat.add_assoc] using e
theorem gr_run_str {P : Program} {t u e : TypeId} {bytes : Nat} (T : SlTy P t e (.int .u8 0) bytes) (hb1 : bytes = 1) (hu : P.underlying u = some .string) (ty : TypeId) {W : World} {B : Nat} {v : Value} {xs : List Int} (s : ByteArray) (HO : Gr .u8 e W B v xs) (hbase : B ≤ W.heap.size) (hl : xs.length + s.size ≤ 140737488355328) :
    ∃ v1 w1, (Builtin.append_ #[t, u] ty #[v, .string s]).run P W = .ok v1 w1 ∧ Apd (Value.int .u8) (int_one .u8) e W w1 B v v1 (xs ++ numsOf s) := by
  obtain ⟨i, hi, hz, hsize, hby⟩ := info_of T
  have hby1 : i.bytes = 1 := by rw [hby, hb1]
  have hnl : (numsOf s).length = s.size := numsOf_length s
  have hone : ∀ v ∈ Lib.strCells s, v.oneCell' = true := Lib.strCells_oneCell s
  have hcl : (Lib.strCells s).length = s.size := Lib.strCells_length s
  have henc : encs (Value.int .u8) (xs ++ numsOf s) = encs (Value.int .u8) xs ++ Lib.strCells s := by rw [strCells_eq]; simp [encs]
  rcases HO with HO | ⟨g, cap, cur, fr, rfl, k1, k2, k3, k4, k5, k6, k7⟩
  · have hown := Kd.own_of_R HO
    obtain ⟨v1, w1, hrun, h2, hg, _⟩ := Lib.run_append_own_string (P := P) W B t u ty e i T.und hu hi hz hsize hby1 v xs.length (encs (Value.int .u8) xs) hown s (by simp only [maxLen]; omega) hl hbase
    refine ⟨v1, w1, hrun, .inl (Kd.R_of_own ?_ (fun _ _ => trivial)), ⟨hg, ?_⟩⟩
    · rw [List.length_append, hnl, henc]
      exact h2
    · rcases hown.2 with ⟨rfl, hn⟩ | ⟨g, cap, cur, rfl, hbg, hgb, hnc, hcm, hcs, htake⟩
      · by_cases hm : s.size = 0
        · have hn0 : Lib.strCells s = [] := List.eq_nil_of_length_eq_zero (by rw [hcl]; exact hm)
          have hf := Lib.run_firstCells_string (P := P) W 1 s
          rw [hm] at hf
          have hr : (Builtin.append_ #[t, u] ty #[.slice none 0 0, .string s]).run P W = .ok (.slice none 0 0) W := by
            simp [Builtin.append_, run_underlying T.und, run_underlying hu, sizeOf, typeInfo, hi, hsize, Builtin.lenOf, hm, hf]
          rw [hr] at hrun
          cases hrun
          exact .inl rfl
        · have hr := run_append_nil_string (P := P) W t u ty e i (.int .u8 0) T.und hu hi hz s (by omega) (by omega) (by rw [hby1]; omega)
          rw [hr] at hrun
          cases hrun
          exact .inr ⟨_, rfl, Nat.le_refl _⟩
      · by_cases hroom : xs.length + s.size ≤ cap
        · have hcs1 : cur.size = cap := by simpa using hcs
          have hr := Lib.run_append_room_string (P := P) W t u ty e i T.und hu hi hsize g xs.length cap cur hgb s hroom (by omega)
          rw [hr] at hrun
          cases hrun
          exact .inl rfl
        · have holds : ∀ j u, (encs (Value.int .u8) xs)[j]? = some u → W.cell? ((⟨g, 0, none⟩ : Addr).add j) = some u := hown.cells (g := g) rfl
          have hr := Lib.run_append_grow_string (P := P) W t u ty e i (.int .u8 0) T.und hu hi hz ⟨g, 0, none⟩ xs.length cap (encs (Value.int .u8) xs) (by rw [hsize, encs, List.length_map]; omega) holds s (by omega) (by omega) (by rw [hby1]; exact growslice_fits (by omega) (by omega))
          rw [hr] at hrun
          cases hrun
          exact .inr ⟨_, rfl, Nat.le_refl _⟩
  · by_cases hroom : xs.length + s.size ≤ cap
    · have hst := mk_store (P := P) (n := xs.length) (Lib.strCells s) 0 cur W k2 k3 (by rw [hcl]; omega) hone
      simp only [Nat.add_zero] at hst
      have hf := Lib.run_firstCells_string (P := P) W 1 s
      have hrun : (Builtin.append_ #[t, u] ty #[.slice (some ⟨g, 0, none⟩) xs.length cap, .string s]).run P W = .ok (.slice (some ⟨g, 0, none⟩) (xs.length + s.size) cap) (W.setRow g (cur.toList.take xs.length ++ Lib.strCells s ++ cur.toList.drop (xs.length + (Lib.strCells s).length)).toArray) := by
        simp [Builtin.append_, run_underlying T.und, run_underlying hu, sizeOf, typeInfo, hi, Builtin.lenOf, hroom, hf, Addr.add_lit, hsize, hst]
      refine ⟨_, _, hrun, .inr ⟨g, cap, _, fr, by rw [List.length_append, hnl], k1, setRow_heap W g cur _ e _ k2, ?_, by rw [List.length_append, hnl]; exact hroom, k5, ?_, ?_⟩, ⟨⟨rfl, rfl, rfl, by simp, fun k _ hk => setRow_other W g k _ (fun e => hk (by simp [Value.ownBlock, e]))⟩, .inl rfl⟩⟩
      · simp only [List.size_toArray, List.length_append, List.length_take, List.length_drop, Array.length_toList, hcl]
        omega
      · simp only [List.size_toArray, List.length_append, List.length_take, List.length_drop, Array.length_toList, hcl]
        omega
      · have hlx : (encs (Value.int .u8) xs).length = xs.length := by simp [encs]
        rw [k7, List.length_append, hnl, henc, List.append_assoc]
        rw [← List.append_assoc, List.take_left' (by rw [List.length_append, hlx, hcl])]
    · have hr := Lib.run_append_grow_string (P := P) W t u ty e i (.int .u8 0) T.und hu hi hz ⟨g, 0, none⟩ xs.length cap (encs (Value.int .u8) xs) (by rw [hsize, encs, List.length_map]; omega) (mk_cells (cap := cap) k2 k7) s (by omega) (by omega) (by rw [hby1]; exact growslice_fits (by omega) (by omega))
      refine ⟨_, _, hr, .inl (Kd.R_of_own ?_ (fun _ _ => trivial)), ⟨⟨rfl, rfl, rfl, by simp, fun k hk _ => heap_alloc_old W.drew _ hk⟩, .inr ⟨_, rfl, Nat.le_refl _⟩⟩⟩
      have hcm : grownCap W (xs.length + s.size) cap e ≤ maxLen := grownCap_le_maxLen _ _ _ _ (by simp only [maxLen]; omega)
      have hge := grownCap_ge W (xs.length + s.size) cap e
      refine ⟨by simp [encs, hnl], .inr ⟨_, _, _, by rw [List.length_append, hnl], hbase, heap_alloc_new W.drew _, by rw [List.length_append, hnl]; exact hge, hcm, ?_, ?_⟩⟩
      · have hz1 : (Value.int IntKind.u8 0).cells.size = 1 := rfl
        simp only [Array.size_append, List.size_toArray, size_zeroCells, hz1, hcl, encs, List.length_map, hnl]
        omega
      · simp only [Array.toList_append, henc, List.append_assoc]
        rw [← List.append_assoc, List.take_left' (by simp [encs, hcl, hnl])]
section
variable {P : Program} {ops : Array Oper} {rest : List Oper} {o : Oper} {a : Act} {Q : Exit → Act → World → Prop} {t u e : TypeId} {bytes : Nat}
/-- append(v, s...), behind at_builtin. -/
theorem gapp_str (T : SlTy P t e (.int .u8 0) bytes) (hb1 : bytes = 1) (hu : P.underlying u = some .string) (hgd : o.guard = none) (s x : Operand) (ho : o.op = .call { callee := .builtin .append, args := #[s, x], argTypes := #[t, u] })
    {w0 W : World} {B : Nat} {v : Value} {xs : List Int} {str : ByteArray} (hs : a.eval s = v) (hx : a.eval x = .string str)
    (HO : Gr .u8 e W B v xs) (HB : Below B w0 W) (hbase : B ≤ W.heap.size) (hl : xs.length + str.size ≤ 140737488355328)
    (h : ∀ v1 w1, Gr .u8 e w1 B v1 (xs ++ numsOf str) → Below B w0 w1 → B ≤ w1.heap.size → Fr W w1 v v1 → wpList P ops Q rest (a.put o.dst v1) w1) :
    wpList P ops Q (o :: rest) a W := by
  obtain ⟨v1, w1, hrun, hA⟩ := gr_run_str T hb1 hu o.type str HO hbase hl
  refine wpList_plain hgd fun K hK => ?_
  unfold Oper.wp execOp
  simp only [ho, resolve, invoke, builtin, Sem.run_bind, Sem.run_pure, Result.andThen_ok, List.map_toArray, List.map_cons, List.map_nil, hs, hx, hrun]
  exact hK _ _ (h v1 w1 hA.own (HB.grown hA.fr.grown hbase (gr_base HO)) (Nat.le_trans hbase hA.fr.size) hA.fr)
end
theorem run_append_str_op {P : Program} {o : Oper} {l : List (Nat × Value)} {s x : Operand} {ts : Array TypeId} {str : ByteArray} {v v1 : Value} {w w1 : World} (ho : o.op = .call { callee := .builtin .append, args := #[s, x], argTypes := ts }) (hs : lk l s = v) (hx : lk l x = .string str)
    (hrun : (Builtin.append_ ts o.type #[v, .string str]).run P w = .ok v1 w1) : (execOp (lk l) o).run P w = .ok (.value v1) w1 := run_append_op ho hs hx hrun
end Go.Proofs.Ytnkeijdpjcclcaa.Kit
-- Open
/- Opening data: arrays, structs by value. -/
namespace Go.Proofs.Ytnkeijdpjcclcaa.Kit
set_option linter.unusedVariables false
set_option linter.unusedSimpArgs false
open Go.RowKit Go.Proofs.YtnkeijdpjcclcaaW.PrintWords Go.Proofs.YtnkeijdpjcclcaaW.PrintLast Go.Proofs.YtnkeijdpjcclcaaW.PrintMore
section
variable {H : Type} {enc : TypeId × Value → H} {P : Program} {w : World} {base : Nat} {sp : Nat → Bool} {held : Bool} {m : Nat} {t e : TypeId} {cs : List Value} {x : DataW H × List MemPlace}
theorem nums_of {k : IntKind} {cs : List Value} (h : ∀ j, j < cs.length → ∃ n, cs[j]? = some (.int k n) ∧ (Lit.int k n).wf = true) : ∃ l : List Int, cs = nums k l ∧ ∀ n ∈ l, (Lit.int k n).wf = true := by
  induction cs with
  | nil => exact ⟨[], rfl, by simp⟩
  | cons c r ih =>
    obtain ⟨n, h1, h2⟩ := h 0 (by simp)
    simp only [List.getElem?_cons_zero, Option.some.injEq] at h1
    subst h1
    obtain ⟨l, rfl, hl⟩ := ih (fun j hj => by
      obtain ⟨n, h1, h2⟩ := h (j + 1) (by simpa using hj)
      exact ⟨n, by simpa using h1, h2⟩)
    exact ⟨n :: l, rfl, fun y hy => by
      rcases List.mem_cons.1 hy with rfl | hy
      · exact h2
      · exact hl y hy⟩
theorem open_arr_ints {k : IntKind} {n : Nat} (ht : P.underlying t = some (.array n e)) (he : P.underlying e = some (.int k)) (hc : P.cellsOf e = 1) (hct : P.cellsOf t = n) (h : DataW.trod enc P w base sp held m t cs = some x) :
    ∃ l : List Int, cs = nums k l ∧ l.length = n ∧ ∀ y ∈ l, (Lit.int k y).wf = true := by
  obtain ⟨xs, m', _, _, hl, hx, hf⟩ := DataW.trod_array ht h
  rw [hct] at hl
  obtain ⟨l, rfl, hw⟩ := nums_of (k := k) (cs := cs) (fun j hj => by
    have h1 := hf j (by omega)
    rw [hc, Nat.mul_one, List.getElem?_eq_getElem (by omega)] at h1
    obtain ⟨n', h2, _, h3⟩ := DataW.trod_int he h1
    refine ⟨n', ?_, h3⟩
    have h4 : ((cs.drop j).take 1)[0]? = some (.int k n') := by rw [h2]; rfl
    rw [List.getElem?_take, if_pos (by omega), List.getElem?_drop, Nat.add_zero] at h4
    exact h4)
  exact ⟨l, rfl, by simpa [nums] using hl, hw⟩
theorem cut_cons {α : Type} {cs A R : List α} {o s o' : Nat} (h : (cs.drop o).take s = A) (ho : o + s = o') (r : cs.drop o' = R) : cs.drop o = A ++ R := by
  subst ho
  rw [← h, ← r, ← List.drop_drop, List.take_append_drop]
theorem cut_end {α : Type} {cs : List α} {n : Nat} (h : cs.length = n) : cs.drop n = [] := by rw [← h]; simp
theorem agg_of {c : Array Value} {l : List Value} (h : c.toList = l) : c = l.toArray := by rw [← h]
theorem field_some {α : Type} {xs : List α} {n i : Nat} (h : xs.length = n) (hi : i < n) : ∃ y, xs[i]? = some y := ⟨_, List.getElem?_eq_getElem (by omega)⟩
end
end Go.Proofs.Ytnkeijdpjcclcaa.Kit
-- St
/- Slices whose elements have several cells (structs) or are texts: read; opened as arguments. -/
namespace Go.Proofs.Ytnkeijdpjcclcaa.Kit
set_option linter.unusedVariables false
set_option linter.unusedSimpArgs false
open Go.RowKit Go.ChangeShapes Go.WideShapes Go.Proofs.YtnkeijdpjcclcaaW.PrintWords Go.Proofs.YtnkeijdpjcclcaaW.PrintLast Go.Proofs.YtnkeijdpjcclcaaW.PrintMore
/-- A slice of elements of k cells each, that is read. -/
structure Sts {α : Type} (enc : α → List Value) (k : Nat) (w : World) (A : Option Addr) (n : Nat) (xs : List α) : Prop where
  len : xs.length = n
  max : n ≤ 9223372036854775807
  row : 0 < n → ∃ ad, A = some ad ∧ ∀ i x, xs[i]? = some x → ∀ j v, (enc x)[j]? = some v → w.cell? ((ad.add (i * k)).add j) = some v
theorem sts_below {α : Type} {enc : α → List Value} {k : Nat} {w w' : World} {A : Option Addr} {n : Nat} {xs : List α} (h : Sts enc k w A n xs) (hb : Below w.heap.size w w') : Sts enc k w' A n xs :=
  ⟨h.len, h.max, fun hn => by
    obtain ⟨ad, e, hc⟩ := h.row hn
    exact ⟨ad, e, fun i x hx j v hv => below_cell hb (hc i x hx j v hv)⟩⟩
theorem sts_nil {α : Type} (enc : α → List Value) (k : Nat) (w : World) (A : Option Addr) : Sts enc k w A 0 [] := ⟨rfl, by omega, fun h => absurd h (by omega)⟩
/-- Such a slice's type. -/
structure StTy (P : Program) (t e : TypeId) (k : Nat) : Prop where
  und : P.underlying t = some (.slice e)
  size : (P.info? e).map (·.size) = some k
theorem st_sizeOf {P : Program} {t e : TypeId} {k : Nat} (T : StTy P t e k) (w : World) : (sizeOf (P.elem t)).run P w = .ok k w := by
  have hel : P.elem t = e := by simp [Program.elem, T.und]
  rw [hel]
  have h := T.size
  cases hi : P.info? e with
  | none => rw [hi] at h; simp at h
  | some i =>
    rw [hi] at h
    have hs : i.size = k := by simpa using h
    simp [sizeOf, typeInfo, hi, hs]
theorem run_index_st {P : Program} {t e : TypeId} {k : Nat} (T : StTy P t e k) {ad : Addr} {n c i : Nat} {kd : IntKind} {j : Int} (hj : j = (i : Int)) (hi : i < n) (w : World) :
    (Instr.indexAt t (.slice (some ad) n c) (.int kd j)).run P w = .ok (.pointer (some (ad.add (i * k)))) w := by
  subst hj
  have hel : P.elem t = e := by simp [Program.elem, T.und]
  rw [run_indexAt_slice w t ad n c kd (i : Int) (by rw [hel]; exact T.und), if_pos ⟨by omega, by omega⟩, st_sizeOf T w]
  simp [Result.andThen]
theorem loadVar_at {P : Program} (w : World) (ad : Addr) (ty : TypeId) (cs : List Value) (d : TypeDesc) (hc : ∀ j v, cs[j]? = some v → w.cell? (ad.add j) = some v) (hu : P.underlying ty = some d) (hd : d.isRow = true) (hi : (P.info? ty).map (·.size) = some cs.length) :
    (loadVar ty ad).run P w = .ok (.agg cs.toArray) w := by
  have hl : (loadCells ad cs.length).run P w = .ok cs.toArray w := run_loadCells_list (P := P) w ad cs hc
  cases hq : P.info? ty with
  | none => simp [hq] at hi
  | some i =>
    have hs : i.size = cs.length := by simpa [hq] using hi
    have hagg : (isAgg ty).run P w = .ok true w := by
      unfold isAgg
      rw [Sem.run_bind, run_underlying hu w]
      cases d <;> simp_all
    simp [loadVar, Sem.run_bind, hagg, sizeOf, typeInfo, hq, hs, hl]
theorem run_loadAt_at {P : Program} (w : World) (ad : Addr) (ty : TypeId) (cs : List Value) (d : TypeDesc) (hc : ∀ j v, cs[j]? = some v → w.cell? (ad.add j) = some v) (hu : P.underlying ty = some d) (hd : d.isRow = true) (hi : (P.info? ty).map (·.size) = some cs.length) :
    (Instr.loadAt ty (.pointer (some ad))).run P w = .ok (.agg cs.toArray) w := by
  simp only [Instr.loadAt, Instr.sureAddr, Sem.run_bind, Sem.run_pure, Result.andThen_ok, loadVar_at w ad ty cs d hc hu hd hi]
section
variable {P : Program} {ops : Array Oper} {rest : List Oper} {op : Oper} {a : Act} {w : World} {Q : Exit → Act → World → Prop}
theorem wpList_index_st (hgd : op.guard = none) (t : TypeId) (x y : Operand) (ho : op.op = .indexAddr t x y) {e : TypeId} {k : Nat} (T : StTy P t e k) {ad : Addr} {n c i : Nat} {kd : IntKind} {j : Int} (hx : a.eval x = .slice (some ad) n c) (hy : a.eval y = .int kd j) (hj : j = (i : Int)) (hi : i < n)
    (h : wpList P ops Q rest (a.put op.dst (.pointer (some (ad.add (i * k))))) w) : wpList P ops Q (op :: rest) a w := by
  refine wpList_plain hgd fun K hK => ?_
  unfold Oper.wp execOp
  simp only [ho, hx, hy, Sem.run_bind, run_index_st T hj hi w, Result.andThen_ok, Sem.run_pure]
  exact hK _ _ h
theorem wpList_load_at (hgd : op.guard = none) (ty : TypeId) (x : Operand) (ho : op.op = .load ty x) (ad : Addr) (cs : List Value) (hx : a.eval x = .pointer (some ad)) {d : TypeDesc}
    (hc : ∀ j v, cs[j]? = some v → w.cell? (ad.add j) = some v) (hu : P.underlying ty = some d) (hd : d.isRow = true) (hi : (P.info? ty).map (·.size) = some cs.length)
    (h : wpList P ops Q rest (a.put op.dst (.agg cs.toArray)) w) : wpList P ops Q (op :: rest) a w := by
  refine wpList_plain hgd fun K hK => ?_
  unfold Oper.wp execOp
  simp only [ho, hx, Sem.run_bind, run_loadAt_at w ad ty cs d hc hu hd hi, Result.andThen_ok, Sem.run_pure]
  exact hK _ _ h
end
section
variable {P : Program} {o : Oper} {l : List (Nat × Value)} {x y : Operand} {w : World}
theorem op_index_st {t e : TypeId} {k : Nat} (T : StTy P t e k) (ho : o.op = .indexAddr t x y) {ad : Addr} {n c i : Nat} {kd : IntKind} {j : Int} (hx : lk l x = .slice (some ad) n c) (hy : lk l y = .int kd j) (hj : j = (i : Int)) (hi : i < n) :
    (execOp (lk l) o).run P w = .ok (.value (.pointer (some (ad.add (i * k))))) w := by
  unfold execOp
  simp only [ho, hx, hy, Sem.run_bind, run_index_st T hj hi w, Result.andThen_ok, Sem.run_pure]
theorem op_load_at {ty : TypeId} (ho : o.op = .load ty x) (ad : Addr) (cs : List Value) (hx : lk l x = .pointer (some ad)) {d : TypeDesc}
    (hc : ∀ j v, cs[j]? = some v → w.cell? (ad.add j) = some v) (hu : P.underlying ty = some d) (hd : d.isRow = true) (hi : (P.info? ty).map (·.size) = some cs.length) :
    (execOp (lk l) o).run P w = .ok (.value (.agg cs.toArray)) w := run_load_op ho hx (run_loadAt_at w ad ty cs d hc hu hd hi)
end
section
variable {H : Type} {enc : TypeId × Value → H} {P : Program} {w : World} {base m : Nat} {held : Bool} {t e : TypeId}
/-- Such an argument, opened. -/
theorem open_sts {α : Type} [Inhabited α] (enc' : α → List Value) (ok : α → Prop) {k : Nat} {A : Option Addr} {n c : Nat} {x : DataW H × List MemPlace} (ht : P.underlying t = some (.slice e)) (hk : P.cellsOf e = k)
    (hel : ∀ (cs : List Value) (m' : Nat) (y : DataW H × List MemPlace), DataW.trod enc P w base (fun _ => true) held m' e cs = some y → ∃ z : α, cs = enc' z ∧ ok z)
    (h : DataW.trod enc P w base (fun _ => true) held m t [.slice A n c] = some x) : ∃ xs, Sts enc' k w A n xs ∧ n ≤ c ∧ ∀ z ∈ xs, ok z := by
  have hmx : maxLen = 9223372036854775807 := rfl
  rcases Go.Deep.open_slice ht h with ⟨hcs, _⟩ | ⟨a, len, cap, m', n', D, Pl, hcs, hb, hl, hm, hmm, hx, hV⟩
  · simp at hcs
    obtain ⟨rfl, rfl, rfl⟩ := hcs
    exact ⟨[], sts_nil _ _ _ _, Nat.le_refl _, fun z hz => by cases hz⟩
  · simp at hcs
    obtain ⟨rfl, rfl, rfl⟩ := hcs
    have hm2 : m' = c := by simpa using hmm
    have hp : ∀ i, i < n → ∃ z : α, (∀ j v, (enc' z)[j]? = some v → w.cell? ((a.add (i * k)).add j) = some v) ∧ ok z := fun i hi => by
      obtain ⟨cs', h1, h2⟩ := hV i (by omega)
      obtain ⟨z, hz, hok⟩ := hel _ _ _ h2
      obtain ⟨_, hlen, hcell⟩ := World.cells?_some h1
      refine ⟨z, fun j v hv => ?_, hok⟩
      rw [← hz] at hv
      have hj : j < cs'.length := (List.getElem?_eq_some_iff.1 hv).1
      rw [← hk, hcell j (by omega)]
      exact hv
    obtain ⟨f, hf⟩ := Go.Deep.choose_lt hp
    refine ⟨(List.range n).map f, ⟨by simp, by omega, fun _ => ⟨a, rfl, fun i x hx j v hv => ?_⟩⟩, hl, fun z hz => ?_⟩
    · rw [List.getElem?_map] at hx
      have hin : i < n := by
        rcases Nat.lt_or_ge i n with g | g
        · exact g
        · rw [List.getElem?_eq_none (by simpa using g)] at hx; cases hx
      rw [List.getElem?_range hin] at hx
      simp only [Option.map_some, Option.some.injEq] at hx
      subst hx
      exact (hf i hin).1 j v hv
    · obtain ⟨i, hi, rfl⟩ := List.mem_map.1 hz
      exact (hf i (by simpa using hi)).2
end
end Go.Proofs.Ytnkeijdpjcclcaa.Kit
-- Fld
/- Fields' addresses, stores, structs built: operations in regions. -/
namespace Go.Proofs.Ytnkeijdpjcclcaa.Kit
set_option linter.unusedVariables false
set_option linter.unusedSimpArgs false
open Go.RowKit Go.Proofs.YtnkeijdpjcclcaaW.PrintWords Go.Proofs.YtnkeijdpjcclcaaW.PrintLast Go.Proofs.YtnkeijdpjcclcaaW.PrintMore
section
variable {P : Program} {o : Oper} {l : List (Nat × Value)} {x y : Operand} {t t2 : TypeId} {m : Nat} {k k2 : IntKind} {a b c : Int} {w : World}
theorem op_field {fs : Array Field} {f : Field} {i g off d : Nat} (ho : o.op = .fieldAddr t x i) (hx : lk l x = .pointer (some ⟨g, d, none⟩)) (hu : P.underlying t = some (.struct fs)) (hf : fs[i]? = some f) (hof : f.offset = off) (hft : f.type = t2) (hs : (P.info? t2).map (·.size) = some m) (hm : m ≠ 0) :
    (execOp (lk l) o).run P w = .ok (.value (.pointer (some ⟨g, d + off, none⟩))) w := by
  subst hof
  subst hft
  cases hq : P.info? f.type with
  | none => simp [hq] at hs
  | some i0 =>
    have hs2 : i0.size ≠ 0 := by simp [hq] at hs; omega
    unfold execOp
    simp [ho, hx, Instr.fieldAt, run_underlying hu, hf, Instr.sureAddr, fieldPlace, sizeOf, typeInfo, hq, hs2, Addr.add]
theorem op_or (ho : o.op = .binOp .or t x y m) (hx : lk l x = .int k a) (hy : lk l y = .int k b) (h : Go.bits .or k a b = c) : (execOp (lk l) o).run P w = .ok (.value (.int k c)) w := by
  subst h
  unfold execOp
  have e : Op.intBits .or k a b = pure (.int k (Go.bits .or k a b)) := rfl
  simp [ho, hx, hy, eqGuard, binOp, Op.intArith, e]
theorem op_build {ps : Array (Nat × Operand)} {cells : Array Value} (ho : o.op = .build t ps) (h : P.built t (ps.toList.map fun p => (p.1, lk l p.2)) = some cells) : (execOp (lk l) o).run P w = .ok (.value (.agg cells)) w := by
  unfold execOp
  have := run_build w t (ps.map fun (x : Nat × Operand) => (x.1, lk l x.2)) cells (by rw [Array.toList_map]; exact h)
  simp [ho, this]
/-- A store of one cell. -/
theorem ob_store_cell {dsts : List (Option Tmp)} {vs : Nat → Value} {a0 : Act} {R : Value → World → Prop} (l : List (Nat × Value)) {ad : Addr} {v old : Value} (hw : Wants o vs = true) (hv : Vs (rho dsts vs a0) l) (hc : covers o (l.map (·.1)) = true)
    (ho : o.op = .store t x y) (hx : lk l x = .pointer (some ad)) (hy : lk l y = v) (hv1 : v.oneCell' = true) (hcell : w.cell? ad = some old) (hfr : w.frozen? ad = false) (hi : (P.info? t).map (·.size) = some 1)
    (hR : R undef (w.setCell ad v)) : Ob P dsts o vs a0 w R := by
  have hst := storeVar_cell (P := P) t hi ad v _ hv1 w hcell hfr
  unfold Ob
  have hrun : (execOp (lk l) o).run P w = .ok .skip (w.setCell ad v) := by
    unfold execOp
    simp only [ho, hx, hy, Instr.storeAt, Instr.sureAddr, Sem.run_bind, Sem.run_pure, Result.andThen_ok, hst]
  rw [if_pos hw, lk_of (fun x hx => rho_else x hx) hv hc, hrun]
  exact hR
end
section
variable {P : Program} {ops : Array Oper} {rest : List Oper} {op : Oper} {a : Act} {w : World} {Q : Exit → Act → World → Prop} {x y : Operand}
/-- max(x, y), its answer known. -/
theorem wpList_max2 (hgd : op.guard = none) {ts : Array TypeId} (ho : op.op = .call { callee := .builtin .max, args := #[x, y], argTypes := ts }) {p q c : Int} (hx : a.eval x = .int .i64 p) (hy : a.eval y = .int .i64 q) (hc : mx p q = c)
    (h : wpList P ops Q rest (a.put op.dst (.int .i64 c)) w) : wpList P ops Q (op :: rest) a w := by
  refine wpList_plain hgd fun K hK => ?_
  have hrun : (execOp a.eval op).run P w = .ok (.value (.int .i64 c)) w := by
    subst hc
    unfold execOp
    simp [ho, resolve, invoke, builtin, hx, hy, run_max2, Result.andThen]
  unfold Oper.wp
  rw [hrun]
  exact hK _ _ h
end
theorem gr_made {W : World} {B : Nat} (k : IntKind) (e : TypeId) (m : Nat) (hB : B ≤ W.heap.size) (hm : m ≤ 9223372036854775807) : Gr k e (W.alloc (.cells (madeCells #[.int k 0] m) e)) B (.slice (some ⟨W.heap.size, 0, none⟩) m m) (List.replicate m 0) := by
  have h : (madeCells #[Value.int k 0] m) = (nums k (List.replicate m 0)).toArray := by
    apply Array.toList_inj.1
    simp only [madeCells, nums, List.map_replicate]
    apply List.ext_getElem
    · simp
    · intro i h1 h2
      simp [Nat.mod_one]
  rw [h]
  exact .inl (own_lit_ k e W B _ m List.length_replicate hB (by simpa using hm))
end Go.Proofs.Ytnkeijdpjcclcaa.Kit
-- Fld2
/- A struct stored into a variable, in regions. -/
namespace Go.Proofs.Ytnkeijdpjcclcaa.Kit
set_option linter.unusedVariables false
set_option linter.unusedSimpArgs false
open Go.RowKit Go.Proofs.YtnkeijdpjcclcaaW.PrintWords Go.Proofs.YtnkeijdpjcclcaaW.PrintLast Go.Proofs.YtnkeijdpjcclcaaW.PrintMore
section
variable {P : Program} {o : Oper} {x y : Operand} {ty : TypeId} {w : World}
theorem ob_store_box {dsts : List (Option Tmp)} {vs : Nat → Value} {a0 : Act} {R : Value → World → Prop} (l : List (Nat × Value)) {g : Nat} {cs old : List Value} {t : TypeId} (hw : Wants o vs = true) (hv : Vs (rho dsts vs a0) l) (hc : covers o (l.map (·.1)) = true)
    (ho : o.op = .store ty x y) (hx : lk l x = .pointer (some ⟨g, 0, none⟩)) (hy : lk l y = .agg cs.toArray) (hg : w.heap[g]? = some (.cells old.toArray t (0, 0))) (hl : old.length = cs.length) (hi : (P.info? ty).map (·.size) = some cs.length) (h1 : cs.all (·.oneCell') = true)
    (hR : ∀ w', Set1 w g (.cells cs.toArray t (0, 0)) w' → R undef w') : Ob P dsts o vs a0 w R := by
  have hst := run_storeVar_row (P := P) w g t ty old.toArray cs.toArray hg (by simpa using hi) (by simpa using hl) (by simpa using h1)
  unfold Ob
  have hrun : (execOp (lk l) o).run P w = .ok .skip (w.setRow g cs.toArray) := by
    unfold execOp
    simp only [ho, hx, hy, Instr.storeAt, Instr.sureAddr, Sem.run_bind, Sem.run_pure, Result.andThen_ok, hst]
  rw [if_pos hw, lk_of (fun x hx => rho_else x hx) hv hc, hrun]
  exact hR _ (set1_row hg)
end
/-- .. and what lay beside the box stays. -/
theorem Set1.keepB {w0 w w' : World} {g : Nat} {o : Obj} (h : Set1 w g o w') (hb : Below w0.heap.size w0 w) (hg : w0.heap.size ≤ g) : Below w0.heap.size w0 w' := h.then_ hb hg
end Go.Proofs.Ytnkeijdpjcclcaa.Kit
-- StO
/- Rows of the call's own, of elements that have several cells. -/
namespace Go.Proofs.Ytnkeijdpjcclcaa.Kit
set_option linter.unusedVariables false
set_option linter.unusedSimpArgs false
open Go.RowKit Go.ChangeShapes Go.WideShapes Go.Proofs.YtnkeijdpjcclcaaW.PrintWords Go.Proofs.YtnkeijdpjcclcaaW.PrintLast Go.Proofs.YtnkeijdpjcclcaaW.PrintMore
section
variable {α : Type} {enc : α → List Value} {k : Nat} {e : TypeId} {w w' : World} {B : Nat} {v : Value} {xs : List α}
def OwnK {α : Type} (enc : α → List Value) (k : Nat) (e : TypeId) (w : World) (B : Nat) (v : Value) (xs : List α) : Prop := w.ownsRow B e k v xs.length (xs.flatMap enc)
theorem ownk_nil (enc : α → List Value) (k : Nat) (e : TypeId) (w : World) (B : Nat) : OwnK enc k e w B (.slice none 0 0) [] := World.ownsRow_nil w B e k
theorem ownk_lower {B' : Nat} (h : OwnK enc k e w B v xs) (hb : B' ≤ B) : OwnK enc k e w B' v xs := ⟨h.1, h.2.imp id fun ⟨g, cap, cur, a, b, c⟩ => ⟨g, cap, cur, a, Nat.le_trans hb b, c⟩⟩
theorem ownk_move (h : OwnK enc k e w B v xs) (hb : ∀ j, v.ownBlock = some j → w'.heap[j]? = w.heap[j]?) : OwnK enc k e w' B v xs := own_move h hb
theorem ownk_lt (h : OwnK enc k e w B v xs) : ∀ j, v.ownBlock = some j → j < w.heap.size := own_lt h
theorem ownk_base (h : OwnK enc k e w B v xs) : ∀ j, v.ownBlock = some j → B ≤ j := own_base h
theorem ownk_below (h : OwnK enc k e w B v xs) (hb : Below w.heap.size w w') : OwnK enc k e w' B v xs := ownk_move h fun j hj => hb.block j (ownk_lt h j hj)
theorem flat_length (hk : ∀ x, (enc x).length = k) : ∀ xs : List α, (xs.flatMap enc).length = xs.length * k
  | [] => by simp
  | x :: xs => by
    rw [List.flatMap_cons, List.length_append, flat_length hk xs, hk, List.length_cons, Nat.add_mul, Nat.one_mul]; omega
theorem flat_get (hk : ∀ x, (enc x).length = k) : ∀ (xs : List α) (i : Nat) (x : α), xs[i]? = some x → ∀ j u, (enc x)[j]? = some u → (xs.flatMap enc)[i * k + j]? = some u
  | [], i, x, hx, j, u, hu => by simp at hx
  | y :: xs, 0, x, hx, j, u, hu => by
    simp only [List.getElem?_cons_zero, Option.some.injEq] at hx
    subst hx
    rw [List.flatMap_cons, Nat.zero_mul, Nat.zero_add, List.getElem?_append_left]
    · exact hu
    · rcases Nat.lt_or_ge j (enc y).length with g | g
      · exact g
      · rw [List.getElem?_eq_none g] at hu; cases hu
  | y :: xs, i + 1, x, hx, j, u, hu => by
    rw [List.getElem?_cons_succ] at hx
    have ih := flat_get hk xs i x hx j u hu
    have e1 : (i + 1) * k + j = (enc y).length + (i * k + j) := by rw [hk, Nat.add_mul, Nat.one_mul]; omega
    rw [List.flatMap_cons, e1, List.getElem?_append_right (by omega), Nat.add_sub_cancel_left]
    exact ih
theorem ownk_open (hk : ∀ x, (enc x).length = k) (h : OwnK enc k e w B v xs) : ∃ A n c, v = .slice A n c ∧ n ≤ c ∧ Hid (xs.length = n) ∧ n ≤ 9223372036854775807 ∧ Sts enc k w A n xs := by
  rcases h.2 with ⟨rfl, hn⟩ | ⟨g, cap, cur, rfl, b, c, d, e1, f, g2⟩
  · obtain rfl : xs = [] := List.eq_nil_of_length_eq_zero hn
    exact ⟨none, 0, 0, rfl, Nat.le_refl _, Lib.hid rfl, by omega, sts_nil enc k w none⟩
  · have hm : xs.length ≤ 9223372036854775807 := by simp only [maxLen] at e1; omega
    refine ⟨_, _, cap, rfl, d, Lib.hid rfl, hm, ⟨rfl, hm, fun hp => ⟨_, rfl, fun i x hx j u hu => ?_⟩⟩⟩
    have hf := flat_get hk xs i x hx j u hu
    rw [Go.Proofs.YtnkeijdpjcclcaaW.PrintWords.add_plain, WideShapes.add_plain]
    rw [← g2, List.getElem?_take] at hf
    split at hf
    · simp only [World.cell?, c]
      simpa using hf
    · cases hf
/-- What an element type is. -/
structure EType (P : Program) (t e : TypeId) (k bytes : Nat) (z : Value) : Prop where
  und : P.underlying t = some (.slice e)
  info : (P.info? e).map (fun i => (i.zero, i.size, i.bytes)) = some (some z, k, bytes)
  zs : z.cells.size = k
  pos : 0 < k
theorem etype_st {P : Program} {t e : TypeId} {k bytes : Nat} {z : Value} (T : EType P t e k bytes z) : StTy P t e k := ⟨T.und, by
  have h := T.info
  cases hi : P.info? e with
  | none => rw [hi] at h; simp at h
  | some i => rw [hi] at h; simp only [Option.map_some, Option.some.injEq, Prod.mk.injEq] at h; simp [h.2.1]⟩
/-- The run of an append of elements of several cells. -/
theorem ownk_run {P : Program} {t : TypeId} {bytes : Nat} {z : Value} (hk : ∀ x, (enc x).length = k) (h1 : ∀ x, ∀ u ∈ enc x, u.oneCell' = true) (T : EType P t e k bytes z) (ty : TypeId)
    {W : World} {B : Nat} {v : Value} {xs ys : List α} {ad : Addr} {m c : Nat}
    (HO : OwnK enc k e W B v xs) (HR : Sts enc k W (some ad) m ys) (hbase : B ≤ W.heap.size) (hl : (xs.length + m) * bytes ≤ 140737488355328) (hl2 : xs.length + m ≤ 9223372036854775807) :
    ∃ v1 w1, (Builtin.append_ #[t, t] ty #[v, .slice (some ad) m c]).run P W = .ok v1 w1 ∧ OwnK enc k e w1 B v1 (xs ++ ys) ∧ Fr W w1 v v1 := by
  have hi := T.info
  cases hq : P.info? e with
  | none => rw [hq] at hi; simp at hi
  | some i =>
    rw [hq] at hi
    simp only [Option.map_some, Option.some.injEq, Prod.mk.injEq] at hi
    obtain ⟨i1, i2, i3⟩ := hi
    have hnews : ∀ j u, (ys.flatMap enc)[j]? = some u → W.cell? (ad.add j) = some u := by
      intro j u hu
      have hjl : j < ys.length * k := by
        rw [← flat_length hk ys]
        rcases Nat.lt_or_ge j (ys.flatMap enc).length with g | g
        · exact g
        · rw [List.getElem?_eq_none g] at hu; cases hu
      have hpos := T.pos
      have hm : 0 < m := by
        rw [← HR.len]
        rcases Nat.eq_zero_or_pos ys.length with g | g
        · rw [g] at hjl; omega
        · exact g
      obtain ⟨ad', e1, hc⟩ := HR.row hm
      injection e1 with e1
      subst e1
      have hdm := Nat.div_add_mod j k
      have hji : j / k < ys.length := Nat.div_lt_of_lt_mul (by rw [Nat.mul_comm]; exact hjl)
      have hmod : j % k < k := Nat.mod_lt _ hpos
      have hsplit : j = j / k * k + j % k := by rw [Nat.mul_comm]; omega
      have hxx : ys[j / k]? = some ys[j / k] := List.getElem?_eq_getElem hji
      have huu : (enc ys[j / k])[j % k]? = some ((enc ys[j / k])[j % k]'(by rw [hk]; exact hmod)) := List.getElem?_eq_getElem _
      have hf := flat_get hk ys _ _ hxx _ _ huu
      rw [← hsplit, hu] at hf
      injection hf with hf
      have := hc _ _ hxx _ _ huu
      rw [← hf] at this
      rw [← this, Addr.add_add, ← hsplit]
    obtain ⟨v1, w1, r1, r2, r3, _, r5⟩ := run_append_own_at (P := P) W B t ty e i z k bytes T.und hq i1 i2 i3 T.zs T.pos v xs.length (xs.flatMap enc) HO ad m c (ys.flatMap enc) (by rw [flat_length hk, HR.len]) hnews (fun u hu => by
      obtain ⟨y, _, hy⟩ := List.mem_flatMap.1 hu
      exact h1 y u hy) (by simp only [maxLen]; exact hl2) hl hbase
    refine ⟨v1, w1, r1, ?_, ⟨r3, ?_⟩⟩
    · show w1.ownsRow B e k v1 (xs ++ ys).length ((xs ++ ys).flatMap enc)
      rw [List.length_append, HR.len, List.flatMap_append]
      exact r2
    · rcases r5 with r5 | r5
      · exact .inl r5
      · exact .inr ⟨_, r5, Nat.le_refl _⟩
/-- append(v, x...) of elements of several cells, behind at_builtin. -/
theorem gapp_sts {P : Program} {ops : Array Oper} {rest : List Oper} {o : Oper} {a : Act} {Q : Exit → Act → World → Prop} {t : TypeId} {bytes : Nat} {z : Value} (hk : ∀ x, (enc x).length = k) (h1 : ∀ x, ∀ u ∈ enc x, u.oneCell' = true) (T : EType P t e k bytes z) (hgd : o.guard = none) (s x : Operand) (ho : o.op = .call { callee := .builtin .append, args := #[s, x], argTypes := #[t, t] })
    {w0 W : World} {B : Nat} {v : Value} {xs ys : List α} {ad : Addr} {m c : Nat} (hs : a.eval s = v) (hx : a.eval x = .slice (some ad) m c)
    (HO : OwnK enc k e W B v xs) (HR : Sts enc k W (some ad) m ys) (HB : Below B w0 W) (hbase : B ≤ W.heap.size) (hl : (xs.length + m) * bytes ≤ 140737488355328) (hl2 : xs.length + m ≤ 9223372036854775807)
    (h : ∀ v1 w1, OwnK enc k e w1 B v1 (xs ++ ys) → Below B w0 w1 → B ≤ w1.heap.size → Fr W w1 v v1 → wpList P ops Q rest (a.put o.dst v1) w1) :
    wpList P ops Q (o :: rest) a W := by
  obtain ⟨v1, w1, hrun, k1, k2⟩ := ownk_run (c := c) hk h1 T o.type HO HR hbase hl hl2
  refine wpList_plain hgd fun K hK => ?_
  unfold Oper.wp execOp
  simp only [ho, resolve, invoke, builtin, Sem.run_bind, Sem.run_pure, Result.andThen_ok, List.map_toArray, List.map_cons, List.map_nil, hs, hx, hrun]
  exact hK _ _ (h v1 w1 k1 (HB.grown k2.grown hbase (ownk_base HO)) (Nat.le_trans hbase k2.grown.size) k2)
/-- A literal of one element of several cells. -/
theorem op_lit1 {P : Program} {o : Oper} {l : List (Nat × Value)} {x : Operand} {t : TypeId} {bytes : Nat} {z : Value} (T : EType P t e k bytes z) (hk24 : k ≤ 16777216) (ho : o.op = .buildSlice t 1 #[(0, x)]) {cs : List Value} (hx : lk l x = .agg cs.toArray)
    (hfill : Instr.fill (fun i => some (i * k, k)) ((Array.range (1 * k)).map (z.cells[· % z.cells.size]!)) [(0, .agg cs.toArray)] = some cs.toArray) :
    (execOp (lk l) o).run P w = .ok (.value (.slice (some ⟨w.heap.size, 0, none⟩) 1 1)) (w.alloc (.cells cs.toArray e)) := by
  have hi := T.info
  have hp := T.pos
  cases hq : P.info? e with
  | none => rw [hq] at hi; simp at hi
  | some i =>
    rw [hq] at hi
    simp only [Option.map_some, Option.some.injEq, Prod.mk.injEq] at hi
    obtain ⟨i1, i2, i3⟩ := hi
    have hrun := run_buildSlice (P := P) w t e 1 #[(0, .agg cs.toArray)] cs.toArray i z T.und hq i1 (by rw [i2]; omega) (by rw [i2]; omega) (by rw [i2]; exact hfill)
    unfold execOp
    simp only [ho, Sem.run_bind, List.map_toArray, List.map_cons, List.map_nil, hx, hrun, Result.andThen_ok, Sem.run_pure]
theorem sts_one {g : Nat} {cs : List Value} {p : α} (hk : ∀ x, (enc x).length = k) (hp : enc p = cs) (h : w.heap[g]? = some (.cells cs.toArray e)) : Sts enc k w (some ⟨g, 0, none⟩) 1 [p] :=
  ⟨rfl, by omega, fun _ => ⟨_, rfl, fun i x hx j u hu => by
    cases i with
    | succ i => simp at hx
    | zero =>
      simp only [List.getElem?_cons_zero, Option.some.injEq] at hx
      subst hx
      rw [Nat.zero_mul, Go.Proofs.YtnkeijdpjcclcaaW.PrintWords.add_plain, WideShapes.add_plain, Nat.zero_add]
      rw [hp] at hu
      simp only [World.cell?, h]
      simpa using hu⟩⟩
end
end Go.Proofs.Ytnkeijdpjcclcaa.Kit
-- PgA
/- The contract of page.common. -/
namespace Go.Proofs.Ytnkeijdpjcclcaa.Pg
set_option linter.unusedVariables false
set_option linter.unusedSimpArgs false
open Go.Proofs.Ytnkeijdpjcclcaa.Kit Go.Proofs.Ytnkeijdpjcclcaa.Num Go.RowKit Go.Proofs.YtnkeijdpjcclcaaW.PrintWords Go.Proofs.YtnkeijdpjcclcaaW.PrintLast Go.Proofs.YtnkeijdpjcclcaaW.PrintMore NumPure
theorem cmn_bool (a b : ByteArray) (n : Nat) (h : n ≤ cmn (numsOf a) (numsOf b)) :
    ((decide ((n : Int) < (a.size : Int)) && decide ((n : Int) < (b.size : Int))) && ((numsOf a).getD n 0 == (numsOf b).getD n 0)) = decide (n < cmn (numsOf a) (numsOf b)) := by
  have hs := cmn_step (numsOf a) (numsOf b) n h
  rw [numsOf_length, numsOf_length] at hs
  by_cases h5 : n < cmn (numsOf a) (numsOf b)
  · obtain ⟨h1, h2, h3⟩ := hs.2 h5
    have e1 : decide ((n : Int) < (a.size : Int)) = true := decide_eq_true (by omega)
    have e2 : decide ((n : Int) < (b.size : Int)) = true := decide_eq_true (by omega)
    rw [e1, e2, h3, decide_eq_true h5]
    simp
  · rw [decide_eq_false h5]
    by_cases h1 : n < a.size
    · by_cases h2 : n < b.size
      · have h3 : ¬ (numsOf a).getD n 0 = (numsOf b).getD n 0 := fun h3 => h5 (hs.1 ⟨h1, h2, h3⟩)
        have e3 : ((numsOf a).getD n 0 == (numsOf b).getD n 0) = false := by simp only [beq_eq_false_iff_ne]; exact h3
        rw [e3, Bool.and_false]
      · have e2 : decide ((n : Int) < (b.size : Int)) = false := decide_eq_false (by omega)
        rw [e2, Bool.and_false, Bool.false_and]
    · have e1 : decide ((n : Int) < (a.size : Int)) = false := decide_eq_false (by omega)
      rw [e1, Bool.false_and, Bool.false_and]
theorem reg_45_2 : RegOk (opsOf Try.f45 2) [[], [], [1], [0, 1, 2], [0, 1, 2, 3], [0, 1, 2, 3, 4], [0, 1, 2, 3, 4], [0, 1, 2, 3, 4, 6], [0, 1, 2, 3, 4, 5, 6, 7], [0, 1, 2, 3, 4, 5, 6, 7, 8], [0, 1, 2, 3, 4, 5, 6, 7, 8, 9], [0, 1, 2, 3, 4, 5, 6, 7, 8, 9, 10], [0, 1, 2, 3, 4, 5, 6, 7, 8, 9, 10], [0, 1, 2, 3, 4, 5, 6, 7, 8, 9, 10, 11, 12], [0, 1, 2, 3, 4, 5, 6, 7, 8, 9, 10], [0, 1, 2, 3, 4, 5, 6, 7, 8, 9, 10], [0, 1, 2, 3, 4, 5, 6, 7, 8, 9, 10, 14, 15], [0, 1, 2, 3, 4, 5, 6, 7, 8, 9, 10, 11, 12, 13, 14, 15, 16], [0, 1, 2, 3, 4, 5, 6, 7, 8, 9, 10, 11, 12, 13, 14, 15, 16, 17]] [] [some 6, some 7, some 8, some 9, some 10, some 11, some 12, some 13, some 14, some 15, some 16, some 17, some 18, some 19, some 20, some 21, some 22, some 23, some 24] := regOk (by kernel_rfl)
set_option maxRecDepth 20000 in
set_option maxHeartbeats 1600000 in
theorem common_any (a b : ByteArray) (w : World) (ha : a.size ≤ 4611686018427387904) :
    Calls Try.prog 45 #[.string a, .string b] w fun e w' => e = .returned (.int .i64 (cmn (numsOf a) (numsOf b) : Nat)) ∧ Below w.heap.size w w' := by
  have hle : cmn (numsOf a) (numsOf b) ≤ a.size := by rw [← numsOf_length]; exact cmn_left _ _
  have HC := Lib.hid (fun n h => cmn_bool a b n h)
  generalize cmn (numsOf a) (numsOf b) = m at hle HC ⊢
  go_enter Try.func45, Try.ntmps45
  go_wp2_with fail
  go_loopw [5] (fun i wr => ∃ n : Nat, n ≤ m ∧ i = .int .i64 n ∧ Hid (Below w.heap.size w wr)) (fun i _ => m + 1 - (intOf i).toNat)
  case atStart => exact ⟨0, by omega, rfl, Lib.hid (Below.refl _ _)⟩
  case round =>
    obtain ⟨n, hn, rfl, HW⟩ := hrel
    obtain ⟨D, hD⟩ : ∃ D, decide (n < m) = D := ⟨_, rfl⟩
    have hcb := HC.out n hn
    rw [hD] at hcb
    have HD := Lib.hid hcb
    have HDD := Lib.hid hD
    clear hcb hD
    go_upto_region 2 with fail
    refine draws_ (fun wq => Below wr.heap.size wr wq) (fun _ => True) (by kernel_rfl) reg_45_2 rfl inv0 (fun _ _ _ _ => trivial) (below_drew (Below.refl _ _)) trivial ?_
    refine w_move (.inl rfl) (fun vs w hK => ⟨wants_none rfl, rho_out rfl rfl⟩) ?_
    refine w_move (.inl rfl) (fun vs w hK => ⟨wants_none rfl, rho_out rfl rfl⟩) ?_
    refine w_val [(7, _)] _ (fun vs w hK => ⟨wants_none rfl, rho_in rfl (fv (hK 1 (memE rfl))), trivial⟩) rfl (fun wq hI => by simp only [execOp, Option.map_some, Option.map_none, lk_tmp, lk_const, lkT_cons, ↓reduceIte, Nat.reduceEqDiff]; go_simp; (first | done | rfl)) ?_
    refine w_val [(6, _), (8, _)] (_) (fun vs w hK => ⟨wants_none rfl, rho_in rfl (fv (hK 0 (memE rfl))), rho_in rfl (fv (hK 2 (memE rfl))), trivial⟩) rfl (fun wq hI => by exact run_int_lss rfl rfl rfl rfl) ?_
    refine w_move (.inl rfl) (fun vs w hK => ⟨wants_none rfl, rho_in rfl (fv (hK 3 (memE rfl)))⟩) ?_
    refine w_moveG (.inl rfl) (fun vs w hK => wantsT rfl (fv (hK 4 (memE rfl)))) (fun hG vs w hK => (rho_out rfl rfl)) ?_
    refine w_moveG (.inl rfl) (fun vs w hK => wantsT rfl (fv (hK 4 (memE rfl)))) (fun hG vs w hK => (rho_out rfl rfl)) ?_
    refine w_valG [(12, _)] (_) (fun vs w hK => wantsT rfl (fv (hK 4 (memE rfl)))) (fun hG vs w hK => ⟨(rho_in rfl (fvg (hK 6 (memE rfl)) hG)), trivial⟩) rfl (fun hG wq hI => by simp only [execOp, Option.map_some, Option.map_none, lk_tmp, lk_const, lkT_cons, ↓reduceIte, Nat.reduceEqDiff]; go_simp; (first | done | rfl)) ?_
    refine w_valG [(11, _), (13, _)] (_) (fun vs w hK => wantsT rfl (fv (hK 4 (memE rfl)))) (fun hG vs w hK => ⟨(rho_in rfl (fvg (hK 5 (memE rfl)) hG)), (rho_in rfl (fvg (hK 7 (memE rfl)) hG)), trivial⟩) rfl (fun hG wq hI => by exact run_int_lss rfl rfl rfl rfl) ?_
    refine w_and rfl (fun vs w hK => wants_none rfl) (fun vs w hK => (rho_in rfl (fv (hK 4 (memE rfl))))) (fun hB vs w hK => (rho_in rfl (fvg (hK 8 (memE rfl)) hB))) ?_
    refine w_move (.inl rfl) (fun vs w hK => ⟨wants_none rfl, rho_in rfl (fv (hK 9 (memE rfl)))⟩) ?_
    refine w_moveG (.inl rfl) (fun vs w hK => wantsT rfl (fv (hK 10 (memE rfl)))) (fun hG vs w hK => (rho_out rfl rfl)) ?_
    refine w_moveG (.inl rfl) (fun vs w hK => wantsT rfl (fv (hK 10 (memE rfl)))) (fun hG vs w hK => (rho_out rfl rfl)) ?_
    refine w_valG [(17, _), (18, _)] (_) (fun vs w hK => wantsT rfl (fv (hK 10 (memE rfl)))) (fun hG vs w hK => ⟨(rho_in rfl (fvg (hK 11 (memE rfl)) hG)), (rho_in rfl (fvg (hK 12 (memE rfl)) hG)), trivial⟩) rfl (fun hG wq hI => by exact op_index_str (i := n) rfl Try.underlying9 rfl rfl rfl (by have h := hG; simp only [Bool.and_eq_true, decide_eq_true_eq] at h; omega) rfl) ?_
    refine w_moveG (.inl rfl) (fun vs w hK => wantsT rfl (fv (hK 10 (memE rfl)))) (fun hG vs w hK => (rho_out rfl rfl)) ?_
    refine w_moveG (.inl rfl) (fun vs w hK => wantsT rfl (fv (hK 10 (memE rfl)))) (fun hG vs w hK => (rho_out rfl rfl)) ?_
    refine w_valG [(20, _), (21, _)] (_) (fun vs w hK => wantsT rfl (fv (hK 10 (memE rfl)))) (fun hG vs w hK => ⟨(rho_in rfl (fvg (hK 14 (memE rfl)) hG)), (rho_in rfl (fvg (hK 15 (memE rfl)) hG)), trivial⟩) rfl (fun hG wq hI => by exact op_index_str (i := n) rfl Try.underlying9 rfl rfl rfl (by have h := hG; simp only [Bool.and_eq_true, decide_eq_true_eq] at h; omega) rfl) ?_
    refine w_valG [(19, _), (22, _)] (_) (fun vs w hK => wantsT rfl (fv (hK 10 (memE rfl)))) (fun hG vs w hK => ⟨(rho_in rfl (fvg (hK 13 (memE rfl)) hG)), (rho_in rfl (fvg (hK 16 (memE rfl)) hG)), trivial⟩) rfl (fun hG wq hI => by exact run_int_eql rfl rfl rfl rfl) ?_
    refine w_and rfl (fun vs w hK => wants_none rfl) (fun vs w hK => (rho_in rfl (fv (hK 10 (memE rfl))))) (fun hB vs w hK => (rho_in rfl (fvg (hK 17 (memE rfl)) hB))) ?_
    refine w_as (c' := .bool D) (congrArg Value.bool HD.out) ?_
    refine w_endM [false, false, false, false, false, false, false, false, false, false, false, false, false, false, false, false, false, false, true] rfl rfl rfl (fun vs wq hI hF => ?_)
    simp only [List.reverse_cons, List.reverse_nil, List.nil_append, List.cons_append, finL_val, finL_of, finL_any, finL_app, finL_new, finL_gr, finL_row, finL_box, finL_nil, Act.put, List.setIfInBounds_toArray, List.set_cons_zero, List.set_cons_succ, Nat.reduceAdd, maskF, finL_imp, Bool.not_false, Bool.not_true, Bool.true_and, Bool.false_and]
    have HW2 := Lib.hid (below_then HW.out HW.out.size hI)
    clear hI hF
    cases D with
    | true =>
      have hlt : n < m := of_decide_eq_true HDD.out
      go_wp2_with fail
      go_roundw
      case rel => exact ⟨n + 1, by omega, by go_num, HW2⟩
      case measure => simp [intOf]; omega
    | false =>
      have hge : ¬ n < m := of_decide_eq_false HDD.out
      obtain rfl : n = m := by omega
      go_wp2_with fail
      go_ret
      exact ⟨rfl, HW2.out⟩
end Go.Proofs.Ytnkeijdpjcclcaa.Pg
-- PgB
/- The contract of page.Make. -/
namespace Go.Proofs.Ytnkeijdpjcclcaa.Pg
set_option linter.unusedVariables false
set_option linter.unusedSimpArgs false
open Go.Proofs.Ytnkeijdpjcclcaa.Kit Go.Proofs.Ytnkeijdpjcclcaa.Num Go.RowKit Go.Proofs.YtnkeijdpjcclcaaW.PrintWords Go.Proofs.YtnkeijdpjcclcaaW.PrintLast Go.Proofs.YtnkeijdpjcclcaaW.PrintMore NumPure
/-- A pair, as it lies. -/
abbrev PB := ByteArray × ByteArray
def encP (p : PB) : List Value := [.string p.1, .string p.2]
theorem encP_one : ∀ p : PB, ∀ u ∈ encP p, u.oneCell' = true := by
  intro p u hu
  simp only [encP, List.mem_cons, List.not_mem_nil, or_false] at hu
  rcases hu with rfl | rfl <;> rfl
theorem encP_len (p : PB) : (encP p).length = 2 := rfl
def nn (ps : List PB) : List PR := ps.map fun p => (numsOf p.1, numsOf p.2)
theorem nn_length (ps : List PB) : (nn ps).length = ps.length := by simp [nn]
theorem nn_append (ps qs : List PB) : nn (ps ++ qs) = nn ps ++ nn qs := by simp [nn]
theorem nn_take (ps : List PB) (k : Nat) : nn (ps.take k) = (nn ps).take k := by simp [nn, List.map_take]
theorem numsOf_default : numsOf (default : PB).1 = [] ∧ numsOf (default : PB).2 = [] := by
  have h : (default : ByteArray) = ⟨#[]⟩ := rfl
  constructor
  · exact numsOf_empty
  · exact numsOf_empty
theorem nm_nn (ps : List PB) (k : Nat) : nmAt (nn ps) k = numsOf (ps.getD k default).1 := by
  unfold nmAt nn
  rw [List.getD_eq_getElem?_getD, List.getD_eq_getElem?_getD, List.getElem?_map]
  cases ps[k]? with
  | none => exact numsOf_default.1.symm
  | some p => rfl
theorem vl_nn (ps : List PB) (k : Nat) : vlAt (nn ps) k = numsOf (ps.getD k default).2 := by
  unfold vlAt nn
  rw [List.getD_eq_getElem?_getD, List.getD_eq_getElem?_getD, List.getElem?_map]
  cases ps[k]? with
  | none => exact numsOf_default.2.symm
  | some p => rfl
def lastS (ps : List PB) (k : Nat) : ByteArray := if k = 0 then ⟨#[]⟩ else (ps.getD (k - 1) default).1
theorem last_nn (ps : List PB) (k : Nat) : lastAt (nn ps) k = numsOf (lastS ps k) := by
  unfold lastAt lastS
  split
  · exact numsOf_empty.symm
  · exact nm_nn _ _
theorem lastS_succ (ps : List PB) (k : Nat) : lastS ps (k + 1) = (ps.getD k default).1 := by simp [lastS]
theorem sts22 : StTy Try.prog 22 30 2 := ⟨Try.underlying22, by kernel_rfl⟩
theorem info30 : (Try.prog.info? 30).map (·.size) = some 2 := by kernel_rfl
theorem leq_not : ∀ a b : List UInt8, (Op.bytesLess a b || a == b) = !Op.bytesLess b a
  | [], [] => rfl
  | [], _ :: _ => rfl
  | _ :: _, [] => rfl
  | x :: a, y :: b => by
    have ih := leq_not a b
    simp only [Op.bytesLess]
    by_cases h1 : x < y
    · have h2 : ¬ y < x := by
        have := UInt8.lt_iff_toNat_lt.1 h1
        intro h; have := UInt8.lt_iff_toNat_lt.1 h; omega
      have h3 : ¬ y = x := by
        intro h; subst h; exact h2 h1
      simp [h1, h2, h3]
    · by_cases h2 : y < x
      · have h3 : ¬ x = y := by
          intro h; subst h; exact h1 h2
        simp [h1, h2, h3]
      · have h3 : x = y := by
          have a1 : ¬ x.toNat < y.toNat := fun h => h1 (UInt8.lt_iff_toNat_lt.2 h)
          have a2 : ¬ y.toNat < x.toNat := fun h => h2 (UInt8.lt_iff_toNat_lt.2 h)
          exact UInt8.toNat_inj.1 (by omega)
        subst h3
        simpa [h1] using ih
instance (l : List PR) (k : Nat) : Decidable (Ord l k) := inferInstanceAs (Decidable (k = 0 ∨ ltN (lastAt l k) (nmAt l k) = true))
theorem lastS_size {ps : List PB} (h : ∀ p ∈ ps, p.1.size ≤ 1000000 ∧ p.2.size ≤ 1000000) (k : Nat) : (lastS ps k).size ≤ 1000000 := by
  unfold lastS
  split
  · exact Nat.zero_le _
  · rw [List.getD_eq_getElem?_getD]
    cases hp : ps[k - 1]? with
    | none => exact Nat.zero_le _
    | some p => exact (h p (List.mem_of_getElem? hp)).1
theorem op_str_leq {P : Program} {o : Oper} {l : List (Nat × Value)} {x y : Operand} {t : TypeId} {m : Nat} {a b : ByteArray} {r : Bool} {w : World} (ho : o.op = .binOp .leq t x y m) (hx : lk l x = .string a) (hy : lk l y = .string b) (h : (!Op.bytesLess b.toList a.toList) = r) : (execOp (lk l) o).run P w = .ok (.value (.bool r)) w := by
  subst h
  unfold execOp
  simp only [← leq_not]
  simp [ho, hx, hy, eqGuard, binOp, Op.stringOp]
/-- What a round of Make's loop holds. -/
structure MkR (w : World) (l : List PR) (k : Nat) (b wh : Value) (wr : World) : Prop where
  good : Good l k
  b_ : Gr .u8 5 wr w.heap.size b (bodyAt l k)
  wh_ : Gr .u8 5 wr w.heap.size wh (wholeAt l k)
  ap : Apart b wh
  bel : Below w.heap.size w wr
/-- What Make tells. -/
def MakePost (l : List PR) (w : World) (e : Ending) (w' : World) : Prop := Below w.heap.size w w' ∧ ∃ (v : Value) (ex : Nat), e = .returned (.tuple #[v, .int .i64 ex]) ∧
  ((ex = 0 ∧ Good l l.length ∧ Gr .u8 5 w' w.heap.size v (pageOf l)) ∨ (ex = 1 ∧ v = .slice none 0 0 ∧ ∃ k, k < l.length ∧ Good l k ∧ ¬ Ord l k) ∨ (ex = 6 ∧ v = .slice none 0 0 ∧ ∃ k, k < l.length ∧ Good l k ∧ Ord l k ∧ ¬ Fit l k))
theorem ord_bool (l : List PR) (k : Nat) (a b : ByteArray) (ha : lastAt l k = numsOf a) (hb : nmAt l k = numsOf b) : (decide ((0 : Int) < (k : Int)) && !Op.bytesLess a.toList b.toList) = decide (¬ Ord l k) := by
  rw [less_nums, ← ha, ← hb]
  by_cases hO : Ord l k
  · have e2 : decide (¬ Ord l k) = false := decide_eq_false (fun h => h hO)
    rw [e2]
    rcases hO with h | h
    · subst h; rfl
    · rw [h]; simp
  · have e2 : decide (¬ Ord l k) = true := decide_eq_true hO
    rw [e2]
    have h0 : ¬ k = 0 := fun h => hO (.inl h)
    have h1 : ltN (lastAt l k) (nmAt l k) = false := by
      cases h : ltN (lastAt l k) (nmAt l k) with
      | false => rfl
      | true => exact absurd (.inr h) hO
    have e1 : decide ((0 : Int) < (k : Int)) = true := decide_eq_true (by omega)
    rw [e1, h1]
    rfl
theorem reg_16_7 : RegOk (opsOf Try.f16 7) [[], [0], [0, 1], [0, 1, 2], [0, 1, 2, 3], [0, 1, 2], [0, 1, 2, 3, 4, 5], [0, 1, 2, 3, 4, 5, 6]] [] [some 18, some 19, some 20, some 21, some 22, some 23, some 24, some 25] := regOk (by kernel_rfl)
theorem reg_16_10 : RegOk (opsOf Try.f16 10) [[], [0], [0, 1]] [] [some 26, some 27, some 28] := regOk (by kernel_rfl)
theorem reg_16_14 : RegOk (opsOf Try.f16 14) [[], [], [1], [0, 1, 2], [], [4], [4, 5], [], [4, 5, 6, 7], [4, 5, 6, 7, 8], [0, 1, 2, 3, 4, 5, 6, 7, 8, 9], [], [11], [11, 12], [11, 12, 13], [0, 1, 2, 3, 4, 5, 6, 7, 8, 9, 10, 11, 12, 13, 14], [0, 1, 2, 3, 4, 5, 6, 7, 8, 9, 10, 11, 12, 13, 14, 15]] [3, 10, 15, 16] [some 40, some 41, some 42, some 43, some 44, some 45, some 46, some 47, some 48, some 49, some 50, some 51, some 52, some 53, some 54, some 55, some 4] := regOk (by kernel_rfl)
theorem reg_16_15 : RegOk (opsOf Try.f16 15) [[], [], [1], [], [1, 2, 3], [0, 1, 2, 3, 4], [], [6], [0, 1, 2, 3, 4, 5, 6, 7], [0, 1, 2, 3, 4, 5, 6, 7, 8]] [5, 8, 9] [some 56, some 57, some 58, some 59, some 60, some 61, some 62, some 63, some 64, some 4] := regOk (by kernel_rfl)
set_option maxRecDepth 20000 in
set_option maxHeartbeats 3200000 in
theorem make_any (A : Option Addr) (n c : Nat) (ps : List PB) (w : World) (hr : Sts encP 2 w A n ps) (hn : n ≤ 1000000) (hsz : ∀ p ∈ ps, p.1.size ≤ 1000000 ∧ p.2.size ≤ 1000000) :
    Calls Try.prog 16 #[.slice A n c] w (MakePost (nn ps) w) := by
  have hlen := hr.len
  have HR := Lib.hid hr
  have HSZ := Lib.hid hsz
  have HLEN := Lib.hid hlen
  clear hr hsz hlen
  go_enter Try.func16, Try.ntmps16
  go_wp2_with fail
  go_loopw [4, 5, 6, 7, 13] (fun b wh cn la i wr => ∃ k : Nat, k ≤ n ∧ i = .int .i64 k ∧ cn = .int .i64 (cntAt k : Nat) ∧ la = .string (lastS ps k) ∧ Hid (MkR w (nn ps) k b wh wr)) (fun _ _ _ _ i _ => n - (intOf i).toNat)
  case atStart => exact ⟨0, by omega, rfl, rfl, rfl, Lib.hid ⟨fun j hj => absurd hj (by omega), gr_nil _ _ _, gr_nil _ _ _, Apart.nil _, Below.refl _ _⟩⟩
  case round =>
    obtain ⟨k, hk, rfl, rfl, rfl, HM⟩ := hrel
    have hlast := last_nn ps k
    have hlz := lastS_size HSZ.out k
    by_cases hlt : k < n
    · have t1 : decide ((k : Int) < (n : Int)) = true := decide_eq_true (by omega)
      obtain ⟨ad, rfl, hc⟩ := (sts_below HR.out HM.out.bel).row (by omega)
      obtain ⟨⟨nm, vl⟩, hp⟩ : ∃ p : PB, ps[k]? = some p := ⟨_, List.getElem?_eq_getElem (by rw [HLEN.out]; exact hlt)⟩
      have hcell := hc k _ hp
      have hgd : ps.getD k default = (nm, vl) := by rw [List.getD_eq_getElem?_getD, hp]; rfl
      have HNm : Hid (nmAt (nn ps) k = numsOf nm) := Lib.hid (by rw [nm_nn, hgd])
      have HVl : Hid (vlAt (nn ps) k = numsOf vl) := Lib.hid (by rw [vl_nn, hgd])
      have HGD : Hid ((ps.getD k default).1 = nm) := Lib.hid (by rw [hgd])
      have hsm := HSZ.out _ (List.mem_of_getElem? hp)
      have hs1 : nm.size ≤ 1000000 := hsm.1
      have hs2 : vl.size ≤ 1000000 := hsm.2
      have hbf := body_fit HM.out.good
      have HGood := Lib.hid HM.out.good
      have HK := Lib.hid hlt
      obtain ⟨O, hO⟩ : ∃ O, decide (¬ Ord (nn ps) k) = O := ⟨_, rfl⟩
      have hob := ord_bool (nn ps) k (lastS ps k) nm hlast HNm.out
      rw [hO] at hob
      have HO := Lib.hid hO
      have HOB := Lib.hid hob
      have HLast := Lib.hid hlast
      generalize lastS ps k = la at HOB HLast hlz ⊢
      clear hO hob hc hp hgd hsm hlast
      go_upto_region 7 with (first
        | (refine wpList_index_st rfl 22 _ _ rfl sts22 rfl rfl rfl hlt ?_)
        | (refine wpList_load_at rfl 30 _ rfl _ [.string nm, .string vl] rfl hcell Try.underlying30 rfl info30 ?_)
        | (refine wpList_store_box rfl 30 (.tmp 9) (.tmp 17) rfl wr.heap.size [.string nm, .string vl] rfl rfl (heap_alloc_new wr _) rfl info30 rfl ?_; intro w1 hs1; have HS1 := Lib.hid hs1; clear hs1))
      have hb1 : Below wr.heap.size wr w1 := HS1.out.then_ (below_alloc (Below.refl _ _) _) (Nat.le_refl _)
      have HX1 := Lib.hid HS1.out.at_
      have HB1 := Lib.hid (gr_below HM.out.b_ hb1)
      have HW1 := Lib.hid (gr_below HM.out.wh_ hb1)
      have HBel1 := Lib.hid (below_then HM.out.bel HM.out.bel.size hb1)
      have HAp1 := Lib.hid HM.out.ap
      have HNB : Hid (u4.ownBlock ≠ some wr.heap.size) := Lib.hid (fun h => by have := gr_lt HM.out.b_ _ h; omega)
      have HNW : Hid (u5.ownBlock ≠ some wr.heap.size) := Lib.hid (fun h => by have := gr_lt HM.out.wh_ _ h; omega)
      clear HM hb1 HS1 hcell
      generalize wr.heap.size = B at HX1 HNB HNW ⊢
      obtain ⟨Ab, nb, cb, rfl, hbc, HLb, hbm, _⟩ := gr_open HB1.out
      have hcq : cntAt k ≤ 1000000 := by unfold cntAt; omega
      have hnb : (bodyAt (nn ps) k).length = nb := HLb.out
      refine plain_ (fun wq => Below w1.heap.size w1 wq) (fun _ => True) reg_16_7 rfl inv0 (fun _ _ _ _ => trivial) (Below.refl _ _) trivial ?_
      refine w_move (.inl rfl) (fun vs w hK => ⟨wants_none rfl, rho_out rfl rfl⟩) ?_
      refine w_val [(18, _)] (_) (fun vs w hK => ⟨wants_none rfl, rho_in rfl (fv (hK 0 (memE rfl))), trivial⟩) rfl (fun wq hI => by exact run_int_gtr rfl rfl rfl rfl) ?_
      refine w_move (.inl rfl) (fun vs w hK => ⟨wants_none rfl, rho_in rfl (fv (hK 1 (memE rfl)))⟩) ?_
      refine w_valG [(9, _)] (_) (fun vs w hK => wantsT rfl (fv (hK 2 (memE rfl)))) (fun hG vs w hK => ⟨(rho_out rfl rfl), trivial⟩) rfl (fun hG wq hI => by simp only [execOp, Option.map_some, Option.map_none, lk_tmp, lk_const, lkT_cons, ↓reduceIte, Nat.reduceEqDiff]; go_simp; (first | done | rfl)) ?_
      refine w_valG [(21, _)] (_) (fun vs w hK => wantsT rfl (fv (hK 2 (memE rfl)))) (fun hG vs w hK => ⟨(rho_in rfl (fvg (hK 3 (memE rfl)) hG)), trivial⟩) rfl (fun hG wq hI => by exact run_load_cell (v := .string nm) rfl rfl rfl Try.underlying9 rfl (by have := box_stays HX1.out hI; simp [World.cell?, this])) ?_
      refine w_moveG (.inl rfl) (fun vs w hK => wantsT rfl (fv (hK 2 (memE rfl)))) (fun hG vs w hK => (rho_out rfl rfl)) ?_
      refine w_valG [(22, _), (23, _)] (_) (fun vs w hK => wantsT rfl (fv (hK 2 (memE rfl)))) (fun hG vs w hK => ⟨(rho_in rfl (fvg (hK 4 (memE rfl)) hG)), (rho_in rfl (fvg (hK 5 (memE rfl)) hG)), trivial⟩) rfl (fun hG wq hI => by exact op_str_leq rfl rfl rfl rfl) ?_
      refine w_and rfl (fun vs w hK => wants_none rfl) (fun vs w hK => (rho_in rfl (fv (hK 2 (memE rfl))))) (fun hB vs w hK => (rho_in rfl (fvg (hK 6 (memE rfl)) hB))) ?_
      refine w_as (c' := .bool O) (congrArg Value.bool HOB.out) ?_
      refine w_endM [false, false, false, false, false, false, false, true] rfl rfl rfl (fun vs wq hI hF => ?_)
      simp only [List.reverse_cons, List.reverse_nil, List.nil_append, List.cons_append, finL_val, finL_of, finL_any, finL_app, finL_new, finL_gr, finL_row, finL_box, finL_nil, Act.put, List.setIfInBounds_toArray, List.set_cons_zero, List.set_cons_succ, Nat.reduceAdd, maskF, finL_imp, Bool.not_false, Bool.not_true, Bool.true_and, Bool.false_and]
      have HX2 := Lib.hid (box_stays HX1.out hI)
      have HB2 := Lib.hid (gr_below HB1.out hI)
      have HW2 := Lib.hid (gr_below HW1.out hI)
      have HBel2 := Lib.hid (below_then HBel1.out HBel1.out.size hI)
      clear hI hF HX1 HB1 HW1 HBel1
      obtain ⟨w2, rfl⟩ : ∃ w2 : World, w2 = wq := ⟨_, rfl⟩
      cases O with
      | true =>
        have HQ : Hid (¬ Ord (nn ps) k) := Lib.hid (of_decide_eq_true HO.out)
        go_wp2_with fail
        go_ret2
        exact ⟨HBel2.out, _, 1, rfl, .inr (.inl ⟨rfl, rfl, k, by rw [nn_length, HLEN.out]; exact HK.out, HGood.out, HQ.out⟩)⟩
      | false =>
      have HOrd : Hid (Ord (nn ps) k) := Lib.hid (Decidable.of_not_not (of_decide_eq_false HO.out))
      clear HO HOB
      obtain ⟨E, hE⟩ : ∃ E, decide (k % 8 = 0) = E := ⟨_, rfl⟩
      have HE1 : Hid ((((k % 8 : Nat) : Int) == 0) = E) := Lib.hid (by
        rw [← hE]
        by_cases h : k % 8 = 0
        · rw [h]; rfl
        · rw [decide_eq_false h]; simp only [beq_eq_false_iff_ne]; omega)
      have HE2 := Lib.hid hE
      clear hE
      go_upto_region 10 with fail
      refine plain_ (fun wq => Below w2.heap.size w2 wq) (fun _ => True) reg_16_10 rfl inv0 (fun _ _ _ _ => trivial) (Below.refl _ _) trivial ?_
      refine w_move (.inl rfl) (fun vs w hK => ⟨wants_none rfl, rho_out rfl rfl⟩) ?_
      refine w_val [(26, _)] (_) (fun vs w hK => ⟨wants_none rfl, rho_in rfl (fv (hK 0 (memE rfl))), trivial⟩) rfl (fun wq hI => by exact op_rem rfl rfl rfl (by decide) (rem_nat k 8)) ?_
      refine w_val [(27, _)] (_) (fun vs w hK => ⟨wants_none rfl, rho_in rfl (fv (hK 1 (memE rfl))), trivial⟩) rfl (fun wq hI => by exact run_int_eql (r := E) rfl rfl rfl HE1.out) ?_
      refine w_end rfl rfl rfl (fun vs wq hI hF => ?_)
      simp only [List.reverse_cons, List.reverse_nil, List.nil_append, List.cons_append, finL_val, finL_of, finL_any, finL_app, finL_new, finL_gr, finL_row, finL_box, finL_nil, Act.put, List.setIfInBounds_toArray, List.set_cons_zero, List.set_cons_succ, Nat.reduceAdd]
      have HX3 := Lib.hid (box_stays HX2.out hI)
      have HB3 := Lib.hid (gr_below HB2.out hI)
      have HW3 := Lib.hid (gr_below HW2.out hI)
      have HBel3 := Lib.hid (below_then HBel2.out HBel2.out.size hI)
      clear hI hF HX2 HB2 HW2 HBel2 HE1
      obtain ⟨w3, rfl⟩ : ∃ w3 : World, w3 = wq := ⟨_, rfl⟩
      have h12 := put7_len10 (n := vl.size) (by omega)
      cases E with
      | true =>
        have HE : Hid (k % 8 = 0) := Lib.hid (of_decide_eq_true HE2.out)
        have hwn : IntKind.u64.wrap (nb : Int) = (nb : Int) := u64_nat nb (by omega)
        go_wp2_with fail
        refine (putLittle_any nb 4 (by omega) u5 (wholeAt (nn ps) k) w _ HW3.out HBel3.out (by rw [whole_length]; unfold cntAt; omega)).mono ?_
        rintro e w4 ⟨v4, rfl, hA⟩
        have HBb := Lib.hid (hA.fr.keep_gr HB3.out HAp1.out)
        have HAp := Lib.hid (hA.fr.apart_gr HB3.out HAp1.out)
        have HBel := Lib.hid hA.bel
        have hwe : wholeAt (nn ps) k ++ le nb (min (4 : Int).toNat 8) = wholeAt (nn ps) (k + 1) := by
          rw [show wholeAt (nn ps) (k + 1) = if k % 8 = 0 then wholeAt (nn ps) k ++ le (bodyAt (nn ps) k).length 4 else wholeAt (nn ps) k from rfl, if_pos HE.out, hnb]
          rfl
        have HWh := Lib.hid (hwe ▸ hA.own)
        have HX : Hid (w4.heap[B]? = some (.cells #[.string nm, .string vl] 30 (0, 0))) := Lib.hid (by rw [hA.fr.grown.block B (mk_lt HX3.out) (Ne.symm HNW.out)]; exact HX3.out)
        have HSame : Hid (sameAt (nn ps) k = 0) := Lib.hid (by unfold sameAt; rw [if_pos HE.out])
        have hSn : 0 ≤ nm.size := Nat.zero_le _
        have hES : (nm.extract 0 nm.size).size = nm.size - 0 := by simp
        have h10 := put7_len10 (n := 0) (by omega)
        have h11 := put7_len10 (n := nm.size - 0) (by omega)
        clear hA hwe hwn HX3 HB3 HW3 HBel3 HAp1 HE2
        generalize hxs4 : bodyAt (nn ps) k = xs4 at HBb hnb hbf
        have HXS := Lib.hid hxs4
        clear hxs4
        have HJ0 := Lib.hid (app_start HBb.out HBel.out (below_drew (Below.refl _ _)) : AppB w w4 w4.drew (.slice Ab nb cb) (.slice Ab nb cb) xs4)
        have HI0 := Lib.hid (Keeps.mk (below_drew HBel.out) HX.out : Keeps w B (.cells #[.string nm, .string vl] 30 (0, 0)) w4.drew)
        have HG := Lib.hid (mk_lt HX.out)
        go_upto_region 14 with fail
        refine draws_ (Keeps w B (.cells #[.string nm, .string vl] 30 (0, 0))) (fun w' => AppB w w4 w' (.slice Ab nb cb) (.slice Ab nb cb) xs4) (by kernel_rfl) reg_16_14 rfl keeps_below app_st HI0.out HJ0.out ?_
        refine w_move (.inl rfl) (fun vs w hK => ⟨wants_none rfl, rho_out rfl rfl⟩) ?_
        refine w_move (.inl rfl) (fun vs w hK => ⟨wants_none rfl, rho_out rfl rfl⟩) ?_
        refine w_val [(41, _)] (_) (fun vs w hK => ⟨wants_none rfl, rho_in rfl (fv (hK 1 (memE rfl))), trivial⟩) rfl (fun wq hI => by exact op_conv_int rfl Try.underlying3 Try.underlying32 rfl (u64_nat 0 (by omega))) ?_
        refine w_lin (FW.app .u8 5 w w4 (.slice Ab nb cb) (xs4 ++ put7 0)) (by decide) (fun vs wq hI hJ hK => ?_) ?_
        · have hA := hJ (by decide) (by decide)
          refine ob_call [(40, _), (42, _)] _ (wants_none rfl) ⟨rho_in rfl (fv (hK 0 (memE rfl))), rho_in rfl (fv (hK 2 (memE rfl))), trivial⟩ rfl rfl Try.func18 (by kernel_rfl) rfl (margs rfl) ((put_any 0 (by omega) (.slice Ab nb cb) xs4 w wq hA.own hA.bel (by omega)).mono ?_)
          rintro e w5 ⟨v5, rfl, hA2⟩
          exact ⟨v5, rfl, keeps_fr hI hA2.bel hA2.fr (app_ne hA HG.out HNB.out), app_next hA hA2⟩
        refine w_val [(9, _)] _ (fun vs w hK => ⟨wants_none rfl, rho_out rfl rfl, trivial⟩) rfl (fun wq hI => by simp only [execOp, Option.map_some, Option.map_none, lk_tmp, lk_const, lkT_cons, ↓reduceIte, Nat.reduceEqDiff]; go_simp; (first | done | rfl)) ?_
        refine w_val [(44, _)] (_) (fun vs w hK => ⟨wants_none rfl, rho_in rfl (fv (hK 4 (memE rfl))), trivial⟩) rfl (fun wq hI => by exact run_load_cell (ad := ⟨B, 0, none⟩) (v := .string nm) rfl rfl rfl Try.underlying9 rfl (by simp [World.cell?, hI.at_])) ?_
        refine w_val [(45, _)] (_) (fun vs w hK => ⟨wants_none rfl, rho_in rfl (fv (hK 5 (memE rfl))), trivial⟩) rfl (fun wq hI => by exact run_len_str rfl Try.underlying9 rfl rfl) ?_
        refine w_move (.inl rfl) (fun vs w hK => ⟨wants_none rfl, rho_out rfl rfl⟩) ?_
        refine w_val [(46, _), (47, _)] (_) (fun vs w hK => ⟨wants_none rfl, rho_in rfl (fv (hK 6 (memE rfl))), rho_in rfl (fv (hK 7 (memE rfl))), trivial⟩) rfl (fun wq hI => by exact run_int_sub (c := ((nm.size - 0 : Nat) : Int)) rfl rfl rfl (by rw [i64_id (by omega) (by omega)]; omega)) ?_
        refine w_val [(48, _)] (_) (fun vs w hK => ⟨wants_none rfl, rho_in rfl (fv (hK 8 (memE rfl))), trivial⟩) rfl (fun wq hI => by exact op_conv_int rfl Try.underlying3 Try.underlying32 rfl (u64_nat (nm.size - 0) (by omega))) ?_
        refine w_lin (FW.app .u8 5 w w4 (.slice Ab nb cb) (xs4 ++ put7 0 ++ put7 (nm.size - 0))) (by decide) (fun vs wq hI hJ hK => ?_) ?_
        · have hA : AppB w w4 wq (.slice Ab nb cb) (vs 3) (xs4 ++ put7 0) := hK 3 (memE rfl)
          refine ob_call [(43, _), (49, _)] _ (wants_none rfl) ⟨rho_in rfl rfl, rho_in rfl (fv (hK 9 (memE rfl))), trivial⟩ rfl rfl Try.func18 (by kernel_rfl) rfl (margs rfl) ((put_any (nm.size - 0) (by omega) (vs 3) (xs4 ++ put7 0) w wq hA.own hA.bel (by rw [List.length_append]; omega)).mono ?_)
          rintro e w5 ⟨v5, rfl, hA2⟩
          exact ⟨v5, rfl, keeps_fr hI hA2.bel hA2.fr (app_ne hA HG.out HNB.out), app_next hA hA2⟩
        refine w_val [(9, _)] _ (fun vs w hK => ⟨wants_none rfl, rho_out rfl rfl, trivial⟩) rfl (fun wq hI => by simp only [execOp, Option.map_some, Option.map_none, lk_tmp, lk_const, lkT_cons, ↓reduceIte, Nat.reduceEqDiff]; go_simp; (first | done | rfl)) ?_
        refine w_val [(51, _)] (_) (fun vs w hK => ⟨wants_none rfl, rho_in rfl (fv (hK 11 (memE rfl))), trivial⟩) rfl (fun wq hI => by exact run_load_cell (ad := ⟨B, 1, none⟩) (v := .string vl) rfl rfl rfl Try.underlying9 rfl (by simp [World.cell?, hI.at_])) ?_
        refine w_val [(52, _)] (_) (fun vs w hK => ⟨wants_none rfl, rho_in rfl (fv (hK 12 (memE rfl))), trivial⟩) rfl (fun wq hI => by exact run_len_str rfl Try.underlying9 rfl rfl) ?_
        refine w_val [(53, _)] (_) (fun vs w hK => ⟨wants_none rfl, rho_in rfl (fv (hK 13 (memE rfl))), trivial⟩) rfl (fun wq hI => by exact op_conv_int rfl Try.underlying3 Try.underlying32 rfl (u64_nat vl.size (by omega))) ?_
        refine w_lin (FW.app .u8 5 w w4 (.slice Ab nb cb) (xs4 ++ put7 0 ++ put7 (nm.size - 0) ++ put7 vl.size)) (by decide) (fun vs wq hI hJ hK => ?_) ?_
        · have hA : AppB w w4 wq (.slice Ab nb cb) (vs 10) (xs4 ++ put7 0 ++ put7 (nm.size - 0)) := hK 10 (memE rfl)
          refine ob_call [(50, _), (54, _)] _ (wants_none rfl) ⟨rho_in rfl rfl, rho_in rfl (fv (hK 14 (memE rfl))), trivial⟩ rfl rfl Try.func18 (by kernel_rfl) rfl (margs rfl) ((put_any vl.size (by omega) (vs 10) (xs4 ++ put7 0 ++ put7 (nm.size - 0)) w wq hA.own hA.bel (by rw [List.length_append, List.length_append]; omega)).mono ?_)
          rintro e w5 ⟨v5, rfl, hA2⟩
          exact ⟨v5, rfl, keeps_fr hI hA2.bel hA2.fr (app_ne hA HG.out HNB.out), app_next hA hA2⟩
        refine w_lin (FW.app .u8 5 w w4 (.slice Ab nb cb) (xs4 ++ put7 0 ++ put7 (nm.size - 0) ++ put7 vl.size)) (by decide) (fun vs wq hI hJ hK => ?_) ?_
        · exact ob_copy (.inr rfl) (wants_none rfl) (rho_in rfl rfl) ⟨hI, hK 15 (memE rfl)⟩
        refine w_end rfl rfl rfl (fun vs wq hI hF => ?_)
        simp only [List.reverse_cons, List.reverse_nil, List.nil_append, List.cons_append, finL_val, finL_of, finL_any, finL_app, finL_new, finL_gr, finL_row, finL_box, finL_nil, Act.put, List.setIfInBounds_toArray, List.set_cons_zero, List.set_cons_succ, Nat.reduceAdd]
        have hfin : AppB w w4 wq (.slice Ab nb cb) (vs 16) (xs4 ++ put7 0 ++ put7 (nm.size - 0) ++ put7 vl.size) := hF 16 (by decide) rfl
        have HBb5 := Lib.hid hfin.own
        have HBel5 := Lib.hid hfin.bel
        have HWh5 := Lib.hid (hfin.fr.keep_gr HWh.out HAp.out.symm)
        have HAp5 := Lib.hid (hfin.fr.apart_gr HWh.out HAp.out.symm)
        have HNB5 := Lib.hid (app_ne hfin HG.out HNB.out)
        have HX5 := Lib.hid hI.at_
        have hl5 : (xs4 ++ put7 0 ++ put7 (nm.size - 0) ++ put7 vl.size).length ≤ 262144 + 30 := by
          simp only [List.length_append]
          omega
        have HE5 : Hid (xs4 ++ put7 0 ++ put7 (nm.size - 0) ++ put7 vl.size ++ numsOf (nm.extract 0 nm.size) ++ numsOf vl = bodyAt (nn ps) (k + 1)) := Lib.hid (by
          rw [show bodyAt (nn ps) (k + 1) = bodyAt (nn ps) k ++ rowOf (sameAt (nn ps) k) (nmAt (nn ps) k) (vlAt (nn ps) k) from rfl, HSame.out, HNm.out, HVl.out, HXS.out, rowOf, numsOf_length, numsOf_length, numsOf_extract, List.take_of_length_le (by rw [List.length_drop, numsOf_length]; exact Nat.le_refl _)]
          simp only [List.append_assoc])
        clear hfin hF hI HBb HBel HWh HAp HNB HX HJ0 HI0 HG h10 h11 h12
        generalize xs4 ++ put7 0 ++ put7 (nm.size - 0) ++ put7 vl.size = xs5 at HBb5 HE5 hl5
        generalize vs 16 = b5 at HBb5 HAp5 HNB5 ⊢
        obtain ⟨w5, rfl⟩ : ∃ w5 : World, w5 = wq := ⟨_, rfl⟩
        have HJ0 := Lib.hid (app_start HBb5.out HBel5.out (below_drew (Below.refl _ _)) : AppB w w5 w5.drew b5 b5 xs5)
        have HI0 := Lib.hid (Keeps.mk (below_drew HBel5.out) HX5.out : Keeps w B (.cells #[.string nm, .string vl] 30 (0, 0)) w5.drew)
        have HG := Lib.hid (mk_lt HX5.out)
        go_upto_region 15 with fail
        refine draws_ (Keeps w B (.cells #[.string nm, .string vl] 30 (0, 0))) (fun w' => AppB w w5 w' b5 b5 xs5) (by kernel_rfl) reg_16_15 rfl keeps_below app_st HI0.out HJ0.out ?_
        refine w_move (.inl rfl) (fun vs w hK => ⟨wants_none rfl, rho_out rfl rfl⟩) ?_
        refine w_val [(9, _)] _ (fun vs w hK => ⟨wants_none rfl, rho_out rfl rfl, trivial⟩) rfl (fun wq hI => by simp only [execOp, Option.map_some, Option.map_none, lk_tmp, lk_const, lkT_cons, ↓reduceIte, Nat.reduceEqDiff]; go_simp; (first | done | rfl)) ?_
        refine w_val [(57, _)] (_) (fun vs w hK => ⟨wants_none rfl, rho_in rfl (fv (hK 1 (memE rfl))), trivial⟩) rfl (fun wq hI => by exact run_load_cell (ad := ⟨B, 0, none⟩) (v := .string nm) rfl rfl rfl Try.underlying9 rfl (by simp [World.cell?, hI.at_])) ?_
        refine w_move (.inl rfl) (fun vs w hK => ⟨wants_none rfl, rho_out rfl rfl⟩) ?_
        refine w_val [(58, _), (59, _)] (_) (fun vs w hK => ⟨wants_none rfl, rho_in rfl (fv (hK 2 (memE rfl))), rho_in rfl (fv (hK 3 (memE rfl))), trivial⟩) rfl (fun wq hI => by exact op_cut_from (a := 0) rfl Try.underlying9 rfl rfl rfl hSn rfl) ?_
        refine w_lin (FW.app .u8 5 w w5 b5 (xs5 ++ numsOf (nm.extract 0 nm.size))) (by decide) (fun vs wq hI hJ hK => ?_) ?_
        · have hA := hJ (by decide) (by decide)
          obtain ⟨v1, w1, hrun, hA1⟩ := gr_run_str tb rfl Try.underlying9 25 (nm.extract 0 nm.size) hA.own hA.bel.size (by rw [hES]; omega)
          have hA2 := app_of_run hA hA1
          exact ob_run [(56, _), (60, _)] (wants_none rfl) ⟨rho_in rfl (fv (hK 0 (memE rfl))), rho_in rfl (fv (hK 4 (memE rfl))), trivial⟩ rfl (run_append_op rfl rfl rfl hrun) ⟨keeps_fr hI hA2.bel hA1.fr (app_ne hA HG.out HNB5.out), hA2⟩
        refine w_val [(9, _)] _ (fun vs w hK => ⟨wants_none rfl, rho_out rfl rfl, trivial⟩) rfl (fun wq hI => by simp only [execOp, Option.map_some, Option.map_none, lk_tmp, lk_const, lkT_cons, ↓reduceIte, Nat.reduceEqDiff]; go_simp; (first | done | rfl)) ?_
        refine w_val [(62, _)] (_) (fun vs w hK => ⟨wants_none rfl, rho_in rfl (fv (hK 6 (memE rfl))), trivial⟩) rfl (fun wq hI => by exact run_load_cell (ad := ⟨B, 1, none⟩) (v := .string vl) rfl rfl rfl Try.underlying9 rfl (by simp [World.cell?, hI.at_])) ?_
        refine w_lin (FW.app .u8 5 w w5 b5 (xs5 ++ numsOf (nm.extract 0 nm.size) ++ numsOf vl)) (by decide) (fun vs wq hI hJ hK => ?_) ?_
        · have hA : AppB w w5 wq b5 (vs 5) (xs5 ++ numsOf (nm.extract 0 nm.size)) := hK 5 (memE rfl)
          obtain ⟨v1, w1, hrun, hA1⟩ := gr_run_str tb rfl Try.underlying9 25 vl hA.own hA.bel.size (by rw [List.length_append, numsOf_length, hES]; omega)
          have hA2 := app_of_run hA hA1
          exact ob_run [(61, _), (63, _)] (wants_none rfl) ⟨rho_in rfl rfl, rho_in rfl (fv (hK 7 (memE rfl))), trivial⟩ rfl (run_append_op rfl rfl rfl hrun) ⟨keeps_fr hI hA2.bel hA1.fr (app_ne hA HG.out HNB5.out), hA2⟩
        refine w_lin (FW.app .u8 5 w w5 b5 (xs5 ++ numsOf (nm.extract 0 nm.size) ++ numsOf vl)) (by decide) (fun vs wq hI hJ hK => ?_) ?_
        · exact ob_copy (.inr rfl) (wants_none rfl) (rho_in rfl rfl) ⟨hI, hK 8 (memE rfl)⟩
        refine w_end rfl rfl rfl (fun vs wq hI hF => ?_)
        simp only [List.reverse_cons, List.reverse_nil, List.nil_append, List.cons_append, finL_val, finL_of, finL_any, finL_app, finL_new, finL_gr, finL_row, finL_box, finL_nil, Act.put, List.setIfInBounds_toArray, List.set_cons_zero, List.set_cons_succ, Nat.reduceAdd]
        have hfin : AppB w w5 wq b5 (vs 9) (xs5 ++ numsOf (nm.extract 0 nm.size) ++ numsOf vl) := hF 9 (by decide) rfl
        rw [HE5.out] at hfin
        have HBb6 := Lib.hid hfin.own
        have HBel6 := Lib.hid hfin.bel
        have HWh6 := Lib.hid (hfin.fr.keep_gr HWh5.out HAp5.out)
        have HAp6 := Lib.hid (hfin.fr.apart_gr HWh5.out HAp5.out)
        have HX6 := Lib.hid hI.at_
        clear hfin hF hI HBb5 HBel5 HWh5 HAp5 HNB5 HX5 HE5 HJ0 HI0 HG
        generalize vs 9 = b6 at HBb6 HAp6 ⊢
        obtain ⟨w6, rfl⟩ : ∃ w6 : World, w6 = wq := ⟨_, rfl⟩
        obtain ⟨A6, n6, c6, rfl, h6c, HL6, h6m, _⟩ := gr_open HBb6.out
        have hcx : w6.cell? ⟨B, 0, none⟩ = some (.string nm) := by simp [World.cell?, HX6.out]
        have HL6' : (bodyAt (nn ps) (k + 1)).length = n6 := HL6.out
        by_cases hF : 262144 < n6
        · have t4 : decide ((262144 : Int) < (n6 : Int)) = true := decide_eq_true (by omega)
          have HQ : Hid (¬ Fit (nn ps) k) := Lib.hid (by unfold Fit; rw [HL6']; omega)
          clear HL6' hF
          go_wp2_with fail
          go_ret2
          exact ⟨HBel6.out, _, 6, rfl, .inr (.inr ⟨rfl, rfl, k, by rw [nn_length, HLEN.out]; exact HK.out, HGood.out, HOrd.out, HQ.out⟩)⟩
        · have t4 : decide ((262144 : Int) < (n6 : Int)) = false := decide_eq_false (by omega)
          have HQ : Hid (Fit (nn ps) k) := Lib.hid (by unfold Fit; rw [HL6']; omega)
          clear HL6' hF
          go_wp2_with fail
          go_roundw
          case rel => exact ⟨k + 1, by omega, by go_num, by rw [cnt_succ, if_pos HE.out]; go_num, by rw [lastS_succ, HGD.out], Lib.hid ⟨good_succ HGood.out HOrd.out HQ.out, HBb6.out, HWh6.out, HAp6.out.symm, HBel6.out⟩⟩
          case measure => simp [intOf]; omega
      | false =>
        have HE : Hid (¬ k % 8 = 0) := Lib.hid (of_decide_eq_false HE2.out)
        have hcx : w3.cell? ⟨B, 0, none⟩ = some (.string nm) := by simp [World.cell?, HX3.out]
        go_wp2_with fail
        refine (common_any la nm _ (by omega)).mono ?_
        rintro e w4 ⟨rfl, hb4⟩
        have HBb := Lib.hid (gr_below HB3.out hb4)
        have HAp := HAp1
        have HBel := Lib.hid (below_then HBel3.out HBel3.out.size hb4)
        have HX : Hid (w4.heap[B]? = some (.cells #[.string nm, .string vl] 30 (0, 0))) := Lib.hid (box_stays HX3.out hb4)
        have hwe : wholeAt (nn ps) k = wholeAt (nn ps) (k + 1) := by
          rw [show wholeAt (nn ps) (k + 1) = if k % 8 = 0 then wholeAt (nn ps) k ++ le (bodyAt (nn ps) k).length 4 else wholeAt (nn ps) k from rfl, if_neg HE.out]
        have HWh := Lib.hid (hwe ▸ gr_below HW3.out hb4)
        have hsame : sameAt (nn ps) k = cmn (numsOf la) (numsOf nm) := by unfold sameAt; rw [if_neg HE.out, HLast.out, HNm.out]
        have hSn : cmn (numsOf la) (numsOf nm) ≤ nm.size := by rw [← numsOf_length]; exact cmn_right _ _
        generalize cmn (numsOf la) (numsOf nm) = S at hsame hSn ⊢
        have HSame := Lib.hid hsame
        have hES : (nm.extract S nm.size).size = nm.size - S := by simp
        have h10 := put7_len10 (n := S) (by omega)
        have h11 := put7_len10 (n := nm.size - S) (by omega)
        clear hb4 hwe hsame hcx HX3 HB3 HW3 HBel3 HAp1 HE2
        generalize hxs4 : bodyAt (nn ps) k = xs4 at HBb hnb hbf
        have HXS := Lib.hid hxs4
        clear hxs4
        have HJ0 := Lib.hid (app_start HBb.out HBel.out (below_drew (Below.refl _ _)) : AppB w w4 w4.drew (.slice Ab nb cb) (.slice Ab nb cb) xs4)
        have HI0 := Lib.hid (Keeps.mk (below_drew HBel.out) HX.out : Keeps w B (.cells #[.string nm, .string vl] 30 (0, 0)) w4.drew)
        have HG := Lib.hid (mk_lt HX.out)
        go_upto_region 14 with fail
        refine draws_ (Keeps w B (.cells #[.string nm, .string vl] 30 (0, 0))) (fun w' => AppB w w4 w' (.slice Ab nb cb) (.slice Ab nb cb) xs4) (by kernel_rfl) reg_16_14 rfl keeps_below app_st HI0.out HJ0.out ?_
        refine w_move (.inl rfl) (fun vs w hK => ⟨wants_none rfl, rho_out rfl rfl⟩) ?_
        refine w_move (.inl rfl) (fun vs w hK => ⟨wants_none rfl, rho_out rfl rfl⟩) ?_
        refine w_val [(41, _)] (_) (fun vs w hK => ⟨wants_none rfl, rho_in rfl (fv (hK 1 (memE rfl))), trivial⟩) rfl (fun wq hI => by exact op_conv_int rfl Try.underlying3 Try.underlying32 rfl (u64_nat S (by omega))) ?_
        refine w_lin (FW.app .u8 5 w w4 (.slice Ab nb cb) (xs4 ++ put7 S)) (by decide) (fun vs wq hI hJ hK => ?_) ?_
        · have hA := hJ (by decide) (by decide)
          refine ob_call [(40, _), (42, _)] _ (wants_none rfl) ⟨rho_in rfl (fv (hK 0 (memE rfl))), rho_in rfl (fv (hK 2 (memE rfl))), trivial⟩ rfl rfl Try.func18 (by kernel_rfl) rfl (margs rfl) ((put_any S (by omega) (.slice Ab nb cb) xs4 w wq hA.own hA.bel (by omega)).mono ?_)
          rintro e w5 ⟨v5, rfl, hA2⟩
          exact ⟨v5, rfl, keeps_fr hI hA2.bel hA2.fr (app_ne hA HG.out HNB.out), app_next hA hA2⟩
        refine w_val [(9, _)] _ (fun vs w hK => ⟨wants_none rfl, rho_out rfl rfl, trivial⟩) rfl (fun wq hI => by simp only [execOp, Option.map_some, Option.map_none, lk_tmp, lk_const, lkT_cons, ↓reduceIte, Nat.reduceEqDiff]; go_simp; (first | done | rfl)) ?_
        refine w_val [(44, _)] (_) (fun vs w hK => ⟨wants_none rfl, rho_in rfl (fv (hK 4 (memE rfl))), trivial⟩) rfl (fun wq hI => by exact run_load_cell (ad := ⟨B, 0, none⟩) (v := .string nm) rfl rfl rfl Try.underlying9 rfl (by simp [World.cell?, hI.at_])) ?_
        refine w_val [(45, _)] (_) (fun vs w hK => ⟨wants_none rfl, rho_in rfl (fv (hK 5 (memE rfl))), trivial⟩) rfl (fun wq hI => by exact run_len_str rfl Try.underlying9 rfl rfl) ?_
        refine w_move (.inl rfl) (fun vs w hK => ⟨wants_none rfl, rho_out rfl rfl⟩) ?_
        refine w_val [(46, _), (47, _)] (_) (fun vs w hK => ⟨wants_none rfl, rho_in rfl (fv (hK 6 (memE rfl))), rho_in rfl (fv (hK 7 (memE rfl))), trivial⟩) rfl (fun wq hI => by exact run_int_sub (c := ((nm.size - S : Nat) : Int)) rfl rfl rfl (by rw [i64_id (by omega) (by omega)]; omega)) ?_
        refine w_val [(48, _)] (_) (fun vs w hK => ⟨wants_none rfl, rho_in rfl (fv (hK 8 (memE rfl))), trivial⟩) rfl (fun wq hI => by exact op_conv_int rfl Try.underlying3 Try.underlying32 rfl (u64_nat (nm.size - S) (by omega))) ?_
        refine w_lin (FW.app .u8 5 w w4 (.slice Ab nb cb) (xs4 ++ put7 S ++ put7 (nm.size - S))) (by decide) (fun vs wq hI hJ hK => ?_) ?_
        · have hA : AppB w w4 wq (.slice Ab nb cb) (vs 3) (xs4 ++ put7 S) := hK 3 (memE rfl)
          refine ob_call [(43, _), (49, _)] _ (wants_none rfl) ⟨rho_in rfl rfl, rho_in rfl (fv (hK 9 (memE rfl))), trivial⟩ rfl rfl Try.func18 (by kernel_rfl) rfl (margs rfl) ((put_any (nm.size - S) (by omega) (vs 3) (xs4 ++ put7 S) w wq hA.own hA.bel (by rw [List.length_append]; omega)).mono ?_)
          rintro e w5 ⟨v5, rfl, hA2⟩
          exact ⟨v5, rfl, keeps_fr hI hA2.bel hA2.fr (app_ne hA HG.out HNB.out), app_next hA hA2⟩
        refine w_val [(9, _)] _ (fun vs w hK => ⟨wants_none rfl, rho_out rfl rfl, trivial⟩) rfl (fun wq hI => by simp only [execOp, Option.map_some, Option.map_none, lk_tmp, lk_const, lkT_cons, ↓reduceIte, Nat.reduceEqDiff]; go_simp; (first | done | rfl)) ?_
        refine w_val [(51, _)] (_) (fun vs w hK => ⟨wants_none rfl, rho_in rfl (fv (hK 11 (memE rfl))), trivial⟩) rfl (fun wq hI => by exact run_load_cell (ad := ⟨B, 1, none⟩) (v := .string vl) rfl rfl rfl Try.underlying9 rfl (by simp [World.cell?, hI.at_])) ?_
        refine w_val [(52, _)] (_) (fun vs w hK => ⟨wants_none rfl, rho_in rfl (fv (hK 12 (memE rfl))), trivial⟩) rfl (fun wq hI => by exact run_len_str rfl Try.underlying9 rfl rfl) ?_
        refine w_val [(53, _)] (_) (fun vs w hK => ⟨wants_none rfl, rho_in rfl (fv (hK 13 (memE rfl))), trivial⟩) rfl (fun wq hI => by exact op_conv_int rfl Try.underlying3 Try.underlying32 rfl (u64_nat vl.size (by omega))) ?_
        refine w_lin (FW.app .u8 5 w w4 (.slice Ab nb cb) (xs4 ++ put7 S ++ put7 (nm.size - S) ++ put7 vl.size)) (by decide) (fun vs wq hI hJ hK => ?_) ?_
        · have hA : AppB w w4 wq (.slice Ab nb cb) (vs 10) (xs4 ++ put7 S ++ put7 (nm.size - S)) := hK 10 (memE rfl)
          refine ob_call [(50, _), (54, _)] _ (wants_none rfl) ⟨rho_in rfl rfl, rho_in rfl (fv (hK 14 (memE rfl))), trivial⟩ rfl rfl Try.func18 (by kernel_rfl) rfl (margs rfl) ((put_any vl.size (by omega) (vs 10) (xs4 ++ put7 S ++ put7 (nm.size - S)) w wq hA.own hA.bel (by rw [List.length_append, List.length_append]; omega)).mono ?_)
          rintro e w5 ⟨v5, rfl, hA2⟩
          exact ⟨v5, rfl, keeps_fr hI hA2.bel hA2.fr (app_ne hA HG.out HNB.out), app_next hA hA2⟩
        refine w_lin (FW.app .u8 5 w w4 (.slice Ab nb cb) (xs4 ++ put7 S ++ put7 (nm.size - S) ++ put7 vl.size)) (by decide) (fun vs wq hI hJ hK => ?_) ?_
        · exact ob_copy (.inr rfl) (wants_none rfl) (rho_in rfl rfl) ⟨hI, hK 15 (memE rfl)⟩
        refine w_end rfl rfl rfl (fun vs wq hI hF => ?_)
        simp only [List.reverse_cons, List.reverse_nil, List.nil_append, List.cons_append, finL_val, finL_of, finL_any, finL_app, finL_new, finL_gr, finL_row, finL_box, finL_nil, Act.put, List.setIfInBounds_toArray, List.set_cons_zero, List.set_cons_succ, Nat.reduceAdd]
        have hfin : AppB w w4 wq (.slice Ab nb cb) (vs 16) (xs4 ++ put7 S ++ put7 (nm.size - S) ++ put7 vl.size) := hF 16 (by decide) rfl
        have HBb5 := Lib.hid hfin.own
        have HBel5 := Lib.hid hfin.bel
        have HWh5 := Lib.hid (hfin.fr.keep_gr HWh.out HAp.out.symm)
        have HAp5 := Lib.hid (hfin.fr.apart_gr HWh.out HAp.out.symm)
        have HNB5 := Lib.hid (app_ne hfin HG.out HNB.out)
        have HX5 := Lib.hid hI.at_
        have hl5 : (xs4 ++ put7 S ++ put7 (nm.size - S) ++ put7 vl.size).length ≤ 262144 + 30 := by
          simp only [List.length_append]
          omega
        have HE5 : Hid (xs4 ++ put7 S ++ put7 (nm.size - S) ++ put7 vl.size ++ numsOf (nm.extract S nm.size) ++ numsOf vl = bodyAt (nn ps) (k + 1)) := Lib.hid (by
          rw [show bodyAt (nn ps) (k + 1) = bodyAt (nn ps) k ++ rowOf (sameAt (nn ps) k) (nmAt (nn ps) k) (vlAt (nn ps) k) from rfl, HSame.out, HNm.out, HVl.out, HXS.out, rowOf, numsOf_length, numsOf_length, numsOf_extract, List.take_of_length_le (by rw [List.length_drop, numsOf_length]; exact Nat.le_refl _)]
          simp only [List.append_assoc])
        clear hfin hF hI HBb HBel HWh HAp HNB HX HJ0 HI0 HG h10 h11 h12
        generalize xs4 ++ put7 S ++ put7 (nm.size - S) ++ put7 vl.size = xs5 at HBb5 HE5 hl5
        generalize vs 16 = b5 at HBb5 HAp5 HNB5 ⊢
        obtain ⟨w5, rfl⟩ : ∃ w5 : World, w5 = wq := ⟨_, rfl⟩
        have HJ0 := Lib.hid (app_start HBb5.out HBel5.out (below_drew (Below.refl _ _)) : AppB w w5 w5.drew b5 b5 xs5)
        have HI0 := Lib.hid (Keeps.mk (below_drew HBel5.out) HX5.out : Keeps w B (.cells #[.string nm, .string vl] 30 (0, 0)) w5.drew)
        have HG := Lib.hid (mk_lt HX5.out)
        go_upto_region 15 with fail
        refine draws_ (Keeps w B (.cells #[.string nm, .string vl] 30 (0, 0))) (fun w' => AppB w w5 w' b5 b5 xs5) (by kernel_rfl) reg_16_15 rfl keeps_below app_st HI0.out HJ0.out ?_
        refine w_move (.inl rfl) (fun vs w hK => ⟨wants_none rfl, rho_out rfl rfl⟩) ?_
        refine w_val [(9, _)] _ (fun vs w hK => ⟨wants_none rfl, rho_out rfl rfl, trivial⟩) rfl (fun wq hI => by simp only [execOp, Option.map_some, Option.map_none, lk_tmp, lk_const, lkT_cons, ↓reduceIte, Nat.reduceEqDiff]; go_simp; (first | done | rfl)) ?_
        refine w_val [(57, _)] (_) (fun vs w hK => ⟨wants_none rfl, rho_in rfl (fv (hK 1 (memE rfl))), trivial⟩) rfl (fun wq hI => by exact run_load_cell (ad := ⟨B, 0, none⟩) (v := .string nm) rfl rfl rfl Try.underlying9 rfl (by simp [World.cell?, hI.at_])) ?_
        refine w_move (.inl rfl) (fun vs w hK => ⟨wants_none rfl, rho_out rfl rfl⟩) ?_
        refine w_val [(58, _), (59, _)] (_) (fun vs w hK => ⟨wants_none rfl, rho_in rfl (fv (hK 2 (memE rfl))), rho_in rfl (fv (hK 3 (memE rfl))), trivial⟩) rfl (fun wq hI => by exact op_cut_from (a := S) rfl Try.underlying9 rfl rfl rfl hSn rfl) ?_
        refine w_lin (FW.app .u8 5 w w5 b5 (xs5 ++ numsOf (nm.extract S nm.size))) (by decide) (fun vs wq hI hJ hK => ?_) ?_
        · have hA := hJ (by decide) (by decide)
          obtain ⟨v1, w1, hrun, hA1⟩ := gr_run_str tb rfl Try.underlying9 25 (nm.extract S nm.size) hA.own hA.bel.size (by rw [hES]; omega)
          have hA2 := app_of_run hA hA1
          exact ob_run [(56, _), (60, _)] (wants_none rfl) ⟨rho_in rfl (fv (hK 0 (memE rfl))), rho_in rfl (fv (hK 4 (memE rfl))), trivial⟩ rfl (run_append_op rfl rfl rfl hrun) ⟨keeps_fr hI hA2.bel hA1.fr (app_ne hA HG.out HNB5.out), hA2⟩
        refine w_val [(9, _)] _ (fun vs w hK => ⟨wants_none rfl, rho_out rfl rfl, trivial⟩) rfl (fun wq hI => by simp only [execOp, Option.map_some, Option.map_none, lk_tmp, lk_const, lkT_cons, ↓reduceIte, Nat.reduceEqDiff]; go_simp; (first | done | rfl)) ?_
        refine w_val [(62, _)] (_) (fun vs w hK => ⟨wants_none rfl, rho_in rfl (fv (hK 6 (memE rfl))), trivial⟩) rfl (fun wq hI => by exact run_load_cell (ad := ⟨B, 1, none⟩) (v := .string vl) rfl rfl rfl Try.underlying9 rfl (by simp [World.cell?, hI.at_])) ?_
        refine w_lin (FW.app .u8 5 w w5 b5 (xs5 ++ numsOf (nm.extract S nm.size) ++ numsOf vl)) (by decide) (fun vs wq hI hJ hK => ?_) ?_
        · have hA : AppB w w5 wq b5 (vs 5) (xs5 ++ numsOf (nm.extract S nm.size)) := hK 5 (memE rfl)
          obtain ⟨v1, w1, hrun, hA1⟩ := gr_run_str tb rfl Try.underlying9 25 vl hA.own hA.bel.size (by rw [List.length_append, numsOf_length, hES]; omega)
          have hA2 := app_of_run hA hA1
          exact ob_run [(61, _), (63, _)] (wants_none rfl) ⟨rho_in rfl rfl, rho_in rfl (fv (hK 7 (memE rfl))), trivial⟩ rfl (run_append_op rfl rfl rfl hrun) ⟨keeps_fr hI hA2.bel hA1.fr (app_ne hA HG.out HNB5.out), hA2⟩
        refine w_lin (FW.app .u8 5 w w5 b5 (xs5 ++ numsOf (nm.extract S nm.size) ++ numsOf vl)) (by decide) (fun vs wq hI hJ hK => ?_) ?_
        · exact ob_copy (.inr rfl) (wants_none rfl) (rho_in rfl rfl) ⟨hI, hK 8 (memE rfl)⟩
        refine w_end rfl rfl rfl (fun vs wq hI hF => ?_)
        simp only [List.reverse_cons, List.reverse_nil, List.nil_append, List.cons_append, finL_val, finL_of, finL_any, finL_app, finL_new, finL_gr, finL_row, finL_box, finL_nil, Act.put, List.setIfInBounds_toArray, List.set_cons_zero, List.set_cons_succ, Nat.reduceAdd]
        have hfin : AppB w w5 wq b5 (vs 9) (xs5 ++ numsOf (nm.extract S nm.size) ++ numsOf vl) := hF 9 (by decide) rfl
        rw [HE5.out] at hfin
        have HBb6 := Lib.hid hfin.own
        have HBel6 := Lib.hid hfin.bel
        have HWh6 := Lib.hid (hfin.fr.keep_gr HWh5.out HAp5.out)
        have HAp6 := Lib.hid (hfin.fr.apart_gr HWh5.out HAp5.out)
        have HX6 := Lib.hid hI.at_
        clear hfin hF hI HBb5 HBel5 HWh5 HAp5 HNB5 HX5 HE5 HJ0 HI0 HG
        generalize vs 9 = b6 at HBb6 HAp6 ⊢
        obtain ⟨w6, rfl⟩ : ∃ w6 : World, w6 = wq := ⟨_, rfl⟩
        obtain ⟨A6, n6, c6, rfl, h6c, HL6, h6m, _⟩ := gr_open HBb6.out
        have hcx : w6.cell? ⟨B, 0, none⟩ = some (.string nm) := by simp [World.cell?, HX6.out]
        have HL6' : (bodyAt (nn ps) (k + 1)).length = n6 := HL6.out
        by_cases hF : 262144 < n6
        · have t4 : decide ((262144 : Int) < (n6 : Int)) = true := decide_eq_true (by omega)
          have HQ : Hid (¬ Fit (nn ps) k) := Lib.hid (by unfold Fit; rw [HL6']; omega)
          clear HL6' hF
          go_wp2_with fail
          go_ret2
          exact ⟨HBel6.out, _, 6, rfl, .inr (.inr ⟨rfl, rfl, k, by rw [nn_length, HLEN.out]; exact HK.out, HGood.out, HOrd.out, HQ.out⟩)⟩
        · have t4 : decide ((262144 : Int) < (n6 : Int)) = false := decide_eq_false (by omega)
          have HQ : Hid (Fit (nn ps) k) := Lib.hid (by unfold Fit; rw [HL6']; omega)
          clear HL6' hF
          go_wp2_with fail
          go_roundw
          case rel => exact ⟨k + 1, by omega, by go_num, by rw [cnt_succ, if_neg HE.out], by rw [lastS_succ, HGD.out], Lib.hid ⟨good_succ HGood.out HOrd.out HQ.out, HBb6.out, HWh6.out, HAp6.out.symm, HBel6.out⟩⟩
          case measure => simp [intOf]; omega
    · obtain rfl : k = n := by omega
      have hgood := HM.out.good
      have HGood := Lib.hid hgood
      have hbf := body_fit hgood
      have hcq : cntAt k ≤ 1000000 := by unfold cntAt; omega
      have hwl := whole_length (nn ps) k
      have hPE : pageOf (nn ps) = bodyAt (nn ps) k ++ wholeAt (nn ps) k ++ le (cntAt k) (min (4 : Int).toNat 8) := by unfold pageOf; rw [nn_length, HLEN.out]; rfl
      have HPE := Lib.hid hPE
      have HB := Lib.hid HM.out.b_
      have HW := Lib.hid HM.out.wh_
      have HBel := Lib.hid HM.out.bel
      clear hPE HM hgood hlast hlz hlt
      generalize bodyAt (nn ps) k = xs at HB hbf HPE
      generalize wholeAt (nn ps) k = ys at HW hwl HPE
      generalize cntAt k = q at hcq hwl HPE ⊢
      obtain ⟨Aw, nw, cw, rfl, hwc, HLw, hwm, hrw⟩ := gr_open HW.out
      have hlw : ys.length = nw := HLw.out
      have HRW := Lib.hid hrw
      have hwn : IntKind.u64.wrap (q : Int) = (q : Int) := u64_nat q (by omega)
      have t1 : decide ((k : Int) < (k : Int)) = false := by simp
      clear hrw HW
      go_wp2_with (at_builtin; refine gapp_row tb rfl (.tmp 71) (.tmp 72) rfl rfl rfl HB.out HRW.out HBel.out HBel.out.size ?cL ?_; (case cL => omega); intro v1 w1 ho hb1 hs1 hf; have HO1 := Lib.hid ho; have HB1 := Lib.hid hb1; clear ho hb1 hs1 hf)
      refine (putLittle_any q 4 (by omega) v1 (xs ++ ys) w w1 HO1.out HB1.out (by rw [List.length_append]; omega)).mono ?_
      rintro e w2 ⟨v2, rfl, hA⟩
      have HA := Lib.hid hA
      clear hA
      go_wp2_with fail
      go_ret2
      exact ⟨HA.out.bel, _, 0, rfl, .inl ⟨rfl, by rw [nn_length, HLEN.out]; exact HGood.out, by rw [HPE.out]; exact HA.out.own⟩⟩
end Go.Proofs.Ytnkeijdpjcclcaa.Pg
-- PgC
/- The contract of (page.Page).one. -/
namespace Go.Proofs.Ytnkeijdpjcclcaa.Pg
set_option linter.unusedVariables false
set_option linter.unusedSimpArgs false
open Go.Proofs.Ytnkeijdpjcclcaa.Kit Go.Proofs.Ytnkeijdpjcclcaa.Num Go.RowKit Go.Proofs.YtnkeijdpjcclcaaW.PrintWords Go.Proofs.YtnkeijdpjcclcaaW.PrintLast Go.Proofs.YtnkeijdpjcclcaaW.PrintMore NumPure
/-- &a[i] of an array of one-cell elements. -/
theorem wpList_index_arr {P : Program} {ops : Array Oper} {rest : List Oper} {op : Oper} {a : Act} {w : World} {Q : Exit → Act → World → Prop} (hgd : op.guard = none) (t : TypeId) (x y : Operand) (ho : op.op = .indexAddr t x y) {e : TypeId} {m : Nat} (hu : P.underlying t = some (.array m e)) (hs : (P.info? e).map (·.size) = some 1) {g i : Nat} {kd : IntKind} {j : Int} (hx : a.eval x = .pointer (some ⟨g, 0, none⟩)) (hy : a.eval y = .int kd j) (hj : j = (i : Int)) (hi : i < m)
    (h : wpList P ops Q rest (a.put op.dst (.pointer (some ⟨g, i, none⟩))) w) : wpList P ops Q (op :: rest) a w := by
  refine wpList_plain hgd fun K hK => ?_
  subst hj
  have hel : P.elem t = e := by simp [Program.elem, hu]
  have hal : P.arrayLen t = m := by simp [Program.arrayLen, hu]
  have hsz : (sizeOf (P.elem t)).run P w = .ok 1 w := by
    rw [hel]
    cases hq : P.info? e with
    | none => rw [hq] at hs; simp at hs
    | some i0 =>
      rw [hq] at hs
      have hs2 : i0.size = 1 := by simpa using hs
      simp [sizeOf, typeInfo, hq, hs2]
  have hrun : (Instr.indexAt t (.pointer (some ⟨g, 0, none⟩)) (.int kd (i : Int))).run P w = .ok (.pointer (some ⟨g, i, none⟩)) w := by
    rw [run_indexAt_array w t ⟨g, 0, none⟩ kd (i : Int) (by rw [hel, hal]; exact hu), if_pos (by rw [hal]; omega), hsz]
    simp [Result.andThen, Go.Proofs.YtnkeijdpjcclcaaW.PrintWords.add_plain]
  unfold Oper.wp execOp
  simp only [ho, hx, hy, Sem.run_bind, hrun, Result.andThen_ok, Sem.run_pure]
  exact hK _ _ h
theorem op_index_arr {P : Program} {o : Oper} {l : List (Nat × Value)} {x y : Operand} {t e : TypeId} {m : Nat} {w : World} (ho : o.op = .indexAddr t x y) (hu : P.underlying t = some (.array m e)) (hs : (P.info? e).map (·.size) = some 1) {g i : Nat} {kd : IntKind} {j : Int} (hx : lk l x = .pointer (some ⟨g, 0, none⟩)) (hy : lk l y = .int kd j) (hj : j = (i : Int)) (hi : i < m) :
    (execOp (lk l) o).run P w = .ok (.value (.pointer (some ⟨g, i, none⟩))) w := by
  subst hj
  have hel : P.elem t = e := by simp [Program.elem, hu]
  have hal : P.arrayLen t = m := by simp [Program.arrayLen, hu]
  have hsz : (sizeOf (P.elem t)).run P w = .ok 1 w := by
    rw [hel]
    cases hq : P.info? e with
    | none => rw [hq] at hs; simp at hs
    | some i0 =>
      rw [hq] at hs
      have hs2 : i0.size = 1 := by simpa using hs
      simp [sizeOf, typeInfo, hq, hs2]
  have hrun : (Instr.indexAt t (.pointer (some ⟨g, 0, none⟩)) (.int kd (i : Int))).run P w = .ok (.pointer (some ⟨g, i, none⟩)) w := by
    rw [run_indexAt_array w t ⟨g, 0, none⟩ kd (i : Int) (by rw [hel, hal]; exact hu), if_pos (by rw [hal]; omega), hsz]
    simp [Result.andThen, Go.Proofs.YtnkeijdpjcclcaaW.PrintWords.add_plain]
  unfold execOp
  simp only [ho, hx, hy, Sem.run_bind, hrun, Result.andThen_ok, Sem.run_pure]
/-- Two boxes that stay. -/
structure K2 (w : World) (g1 g2 : Nat) (o1 o2 : Obj) (W : World) : Prop where
  bel : Below w.heap.size w W
  p_ : W.heap[g1]? = some o1
  n_ : W.heap[g2]? = some o2
theorem k2_below {w : World} {g1 g2 : Nat} {o1 o2 : Obj} : ∀ W W', K2 w g1 g2 o1 o2 W → Below W.heap.size W W' → K2 w g1 g2 o1 o2 W' := fun W W' h k => ⟨below_then h.bel h.bel.size k, box_stays h.p_ k, box_stays h.n_ k⟩
theorem built30 (a b : ByteArray) : Try.prog.built 30 [(0, .string a), (1, .string b)] = some #[.string a, .string b] := by kernel_rfl
theorem fin_some {xs last : List Int} {x0 x1 x2 a : Nat} (h1 : x0 ≤ last.length) (h2 : x1 + x2 ≤ xs.length - a) : fin xs last x0 x1 x2 a = some ((last.take x0 ++ (xs.drop a).take x1, (xs.drop (a + x1)).take x2), a + x1 + x2) := if_pos ⟨h1, h2⟩
theorem fin_none {xs last : List Int} {x0 x1 x2 a : Nat} (h : ¬ (x0 ≤ last.length ∧ x1 + x2 ≤ xs.length - a)) : fin xs last x0 x1 x2 a = none := if_neg h
/-- So many numbers read. -/
def steps (xs : List Int) (a : Nat) : Nat → Option (List Nat × Nat)
  | 0 => some ([], a)
  | k + 1 => (steps xs a k).bind fun q => (num1 xs q.2).bind fun r => some (q.1 ++ [r.1], r.2)
theorem steps_succ (xs : List Int) (a k : Nat) {q : List Nat × Nat} (h : steps xs a k = some q) : steps xs a (k + 1) = (num1 xs q.2).bind fun r => some (q.1 ++ [r.1], r.2) := by
  simp only [steps, h, Option.bind_some]
theorem oneP_steps (xs last : List Int) (a : Nat) : oneP xs a last = (steps xs a 3).bind fun q => fin xs last (q.1.getD 0 0) (q.1.getD 1 0) (q.1.getD 2 0) q.2 := by
  unfold oneP
  simp only [steps, Option.bind_some]
  cases num1 xs a with
  | none => rfl
  | some p0 =>
    simp only [Option.bind_some]
    cases num1 xs p0.2 with
    | none => rfl
    | some p1 =>
      simp only [Option.bind_some]
      cases num1 xs p1.2 with
      | none => rfl
      | some p2 => rfl
theorem steps_none {xs : List Int} {a k : Nat} (h : steps xs a k = none) : ∀ m, k ≤ m → steps xs a m = none := by
  intro m
  induction m with
  | zero => intro hm; obtain rfl : k = 0 := by omega
            exact h
  | succ m ih =>
    intro hm
    rcases Nat.lt_or_ge m k with g | g
    · obtain rfl : k = m + 1 := by omega
      exact h
    · simp only [steps, ih g, Option.bind_none]
theorem steps_ok {xs : List Int} {a : Nat} (ha : a ≤ xs.length) : ∀ k q, steps xs a k = some q → q.1.length = k ∧ q.2 ≤ xs.length ∧ ∀ x ∈ q.1, x ≤ xs.length := by
  intro k
  induction k with
  | zero =>
    intro q h
    simp only [steps, Option.some.injEq] at h
    subst h
    exact ⟨rfl, ha, by simp⟩
  | succ k ih =>
    intro q h
    simp only [steps] at h
    cases hs : steps xs a k with
    | none => rw [hs] at h; simp at h
    | some p =>
      rw [hs] at h
      simp only [Option.bind_some] at h
      cases hn : num1 xs p.2 with
      | none => rw [hn] at h; simp at h
      | some r =>
        rw [hn] at h
        simp only [Option.bind_some, Option.some.injEq] at h
        subst h
        obtain ⟨i1, i2, i3⟩ := ih p hs
        have hk := num1_ok (x := r.1) (k := r.2) hn
        refine ⟨by simp [i1], hk.2.1, ?_⟩
        intro x hx
        rcases List.mem_append.1 hx with hx | hx
        · exact i3 x hx
        · rw [List.mem_singleton.1 hx]; exact hk.2.2
def arr3 (ys : List Nat) : List Value := [.int .i64 (ys.getD 0 0 : Nat), .int .i64 (ys.getD 1 0 : Nat), .int .i64 (ys.getD 2 0 : Nat)]
theorem arr3_set (ys : List Nat) (h : ys.length < 3) (x : Nat) : (arr3 ys).set ys.length (.int .i64 (x : Nat)) = arr3 (ys ++ [x]) := by
  rcases ys with _ | ⟨a, _ | ⟨b, _ | ⟨c, r⟩⟩⟩
  · rfl
  · rfl
  · rfl
  · simp at h; omega
/-- What one tells. -/
def OnePost (xs : List Int) (at_ : Nat) (last : ByteArray) (w : World) (e : Ending) (w' : World) : Prop := Below w.heap.size w w' ∧
  ((∃ (nm vl : ByteArray) (nx : Nat), e = .returned (.tuple #[.agg #[.string nm, .string vl], .int .i64 (nx : Nat), .int .i64 0]) ∧ oneP xs at_ (numsOf last) = some ((numsOf nm, numsOf vl), nx)) ∨
   (e = .returned (.tuple #[.agg #[.string ⟨#[]⟩, .string ⟨#[]⟩], .int .i64 0, .int .i64 2]) ∧ oneP xs at_ (numsOf last) = none))
/-- The loop's relation. -/
structure OnR (w : World) (pg : List Value) (B : Nat) (xs : List Int) (at_ : Nat) (k a : Nat) (ys : List Nat) (wr : World) : Prop where
  st : steps xs at_ k = some (ys, a)
  bel : Below w.heap.size w wr
  p_ : wr.heap[B]? = some (.cells pg.toArray 36 (0, 0))
  r_ : wr.heap[B + 1]? = some (.cells #[.string ⟨#[]⟩, .string ⟨#[]⟩] 30 (0, 0))
  n_ : wr.heap[B + 1 + 1]? = some (.cells (arr3 ys).toArray 102 (0, 0))
theorem info36 : (Try.prog.info? 36).map (·.size) = some 2 := by kernel_rfl
theorem info3 : (Try.prog.info? 3).map (·.size) = some 1 := by kernel_rfl
theorem reg_51_6 : RegOk (opsOf Try.f51 6) [[], [0], [0, 1], [0, 1, 2], [0, 1, 2], [0, 1, 2, 4], [0, 1, 2, 4, 5], [0, 1, 2, 4, 5, 6], [0, 1, 2, 3, 4, 5, 6, 7], [0, 1, 2, 3, 4, 5, 6, 7, 8]] [] [some 26, some 27, some 28, some 29, some 30, some 31, some 32, some 33, some 34, some 35] := regOk (by kernel_rfl)
theorem reg_51_10 : RegOk (opsOf Try.f51 10) [[], [0], [], [2], [0, 1, 2, 3], [0, 1, 2, 3, 4], [0, 1, 2, 3, 4, 5], [0, 1, 2, 3, 4, 5, 6], [0, 1, 2, 3, 4, 5], [0, 1, 2, 3, 4, 5, 8], [0, 1, 2, 3, 4, 5, 6, 7, 8, 9], [0, 1, 2, 3, 4, 5], [0, 1, 2, 3, 4, 5, 11], [0, 1, 2, 3, 4, 5, 11, 12], [0, 1, 2, 3, 4, 5], [0, 1, 2, 3, 4, 5, 11, 12, 13, 14], [0, 1, 2, 3, 4, 5, 6, 7, 8, 9, 10, 11, 12, 13, 14, 15], [0, 1, 2, 3, 4, 5, 6, 7, 8, 9, 10, 11, 12, 13, 14, 15, 16]] [] [some 45, some 46, some 47, some 48, some 49, some 50, some 51, some 52, some 53, some 54, some 55, some 56, some 57, some 58, some 59, some 60, some 61, some 62] := regOk (by kernel_rfl)
theorem reg_51_12 : RegOk (opsOf Try.f51 12) [[], [], [1], [0, 1, 2], [], [4], [], [], [], [8], [7, 8, 9], [4, 5, 6, 7, 8, 9, 10], [4, 5, 6, 7, 8, 9, 10, 11], [0, 1, 2, 3, 4, 5, 6, 7, 8, 9, 10, 11, 12], [], [14], [], [], [17], [16, 17, 18], [], [], [21], [20, 21, 22], [], [24], [20, 21, 22, 23, 24, 25], [14, 15, 16, 17, 18, 19, 20, 21, 22, 23, 24, 25, 26], [14, 15, 16, 17, 18, 19, 20, 21, 22, 23, 24, 25, 26, 27], [0, 1, 2, 3, 4, 5, 6, 7, 8, 9, 10, 11, 12, 13, 14, 15, 16, 17, 18, 19, 20, 21, 22, 23, 24, 25, 26, 27, 28], [], [], [31], [30, 31, 32], [], [34], [30, 31, 32, 33, 34, 35], [0, 1, 2, 3, 4, 5, 6, 7, 8, 9, 10, 11, 12, 13, 14, 15, 16, 17, 18, 19, 20, 21, 22, 23, 24, 25, 26, 27, 28, 29], [0, 1, 2, 3, 4, 5, 6, 7, 8, 9, 10, 11, 12, 13, 14, 15, 16, 17, 18, 19, 20, 21, 22, 23, 24, 25, 26, 27, 28, 29, 30, 31, 32, 33, 34, 35, 36, 37], [0, 1, 2, 3, 4, 5, 6, 7, 8, 9, 10, 11, 12, 13, 14, 15, 16, 17, 18, 19, 20, 21, 22, 23, 24, 25, 26, 27, 28, 29, 30, 31, 32, 33, 34, 35, 36, 37, 38]] [37] [some 64, some 65, some 66, some 67, some 68, some 69, some 70, some 71, some 72, some 73, some 74, some 75, some 76, some 77, some 78, some 79, some 80, some 81, some 82, some 83, some 84, some 85, some 86, some 87, some 88, some 89, some 90, some 91, some 92, some 93, some 94, some 95, some 96, some 97, some 98, some 99, some 100, none, some 7, some 8] := regOk (by kernel_rfl)
set_option maxRecDepth 20000 in
set_option maxHeartbeats 3200000 in
theorem one_any (Ab : Option Addr) (nb cb : Nat) (Aw : Option Addr) (nw cw : Nat) (xs : List Int) (at_ : Nat) (last : ByteArray) (w : World) (hr : Rds .u8 w Ab nb xs) (hb : Byte xs) (hnc : nb ≤ cb) (hn : nb ≤ 1000000) (ha : at_ ≤ nb) (hls : last.size ≤ 1000000) :
    Calls Try.prog 51 #[.agg #[.slice Ab nb cb, .slice Aw nw cw], .int .i64 (at_ : Nat), .string last] w (OnePost xs at_ last w) := by
  have hxl := rds_len hr
  have HR := Lib.hid hr
  have HB := Lib.hid hb
  have HXL := Lib.hid hxl
  go_enter Try.func51, Try.ntmps51
  go_upto_region 2 with fail
  have h0 : OnR w [.slice Ab nb cb, .slice Aw nw cw] w.heap.size xs at_ 0 at_ [] (((w.alloc (.cells #[.slice Ab nb cb, .slice Aw nw cw] 36)).alloc (.cells #[.string ⟨#[]⟩, .string ⟨#[]⟩] 30)).alloc (.cells #[.int .i64 0, .int .i64 0, .int .i64 0] 102)) := by
    have s1 : (w.alloc (.cells #[.slice Ab nb cb, .slice Aw nw cw] 36)).heap.size = w.heap.size + 1 := by simp only [World.alloc, Array.size_push]
    have s2 : ((w.alloc (.cells #[.slice Ab nb cb, .slice Aw nw cw] 36)).alloc (.cells #[.string ⟨#[]⟩, .string ⟨#[]⟩] 30)).heap.size = w.heap.size + 1 + 1 := by simp only [World.alloc, Array.size_push]
    have a1 := heap_alloc_new w (.cells #[.slice Ab nb cb, .slice Aw nw cw] 36)
    have a2 := heap_alloc_new (w.alloc (.cells #[.slice Ab nb cb, .slice Aw nw cw] 36)) (.cells #[.string ⟨#[]⟩, .string ⟨#[]⟩] 30)
    have a3 := heap_alloc_new ((w.alloc (.cells #[.slice Ab nb cb, .slice Aw nw cw] 36)).alloc (.cells #[.string ⟨#[]⟩, .string ⟨#[]⟩] 30)) (.cells #[.int .i64 0, .int .i64 0, .int .i64 0] 102)
    rw [s1] at a2
    rw [s2] at a3
    have b1 := below_alloc (Below.refl _ (w.alloc (.cells #[.slice Ab nb cb, .slice Aw nw cw] 36))) (.cells #[.string ⟨#[]⟩, .string ⟨#[]⟩] 30)
    have b2 := below_alloc (Below.refl _ ((w.alloc (.cells #[.slice Ab nb cb, .slice Aw nw cw] 36)).alloc (.cells #[.string ⟨#[]⟩, .string ⟨#[]⟩] 30))) (.cells #[.int .i64 0, .int .i64 0, .int .i64 0] 102)
    exact ⟨rfl, below_alloc (below_alloc (below_alloc (Below.refl _ _) _) _) _, box_stays (box_stays a1 b1) b2, box_stays a2 b2, a3⟩
  have H0 := Lib.hid h0
  have hBB : w.heap.size ≤ w.heap.size := Nat.le_refl _
  clear h0 hr hb hxl
  generalize (((w.alloc (.cells #[.slice Ab nb cb, .slice Aw nw cw] 36)).alloc (.cells #[.string ⟨#[]⟩, .string ⟨#[]⟩] 30)).alloc (.cells #[.int .i64 0, .int .i64 0, .int .i64 0] 102)) = w1 at H0 ⊢
  generalize hBd : w.heap.size = B at H0 ⊢
  have HBD := Lib.hid hBd
  clear hBd hBB
  go_wp2_with fail
  go_loopw [1, 14] (fun aa i wr => ∃ (k a : Nat) (ys : List Nat), k ≤ 3 ∧ i = .int .i64 k ∧ aa = .int .i64 a ∧ Hid (OnR w [.slice Ab nb cb, .slice Aw nw cw] B xs at_ k a ys wr)) (fun _ i _ => 3 - (intOf i).toNat)
  case atStart => exact ⟨0, at_, [], by omega, rfl, rfl, H0⟩
  case round =>
    obtain ⟨k, a, ys, hk, rfl, rfl, HO⟩ := hrel
    have hso := steps_ok (by rw [HXL.out]; exact ha) k _ HO.out.st
    have hyl : ys.length = k := hso.1
    have hal : a ≤ nb := by have := hso.2.1; rw [HXL.out] at this; exact this
    have hX : wr.cell? ⟨B, 0, none⟩ = some (.slice Ab nb cb) := by simp [World.cell?, HO.out.p_]
    by_cases hlt : k < 3
    · have t1 : decide ((k : Int) < 3) = true := decide_eq_true (by omega)
      obtain ⟨A2, hcut, hC⟩ := cut_from (enc := Value.int .u8) (h1 := int_one .u8) 0 tb Ab nb cb a (nb - a) (by omega) hnc (a : Int) rfl
      have hrd := hC wr _ (rds_below HR.out HO.out.bel)
      have CG := Lib.hid (get_any A2 (nb - a) (cb - a) _ wr hrd (by rw [List.length_drop, HXL.out]) (by omega) (HB.out.drop a))
      have hn1 : num1 xs a = if (get (xs.drop a)).2.2 = 0 ∧ (get (xs.drop a)).1 ≤ xs.length then some ((get (xs.drop a)).1, a + (get (xs.drop a)).2.1) else none := rfl
      have hst := steps_succ xs at_ k HO.out.st
      have hgk : (get (xs.drop a)).2.2 = 0 → (get (xs.drop a)).2.1 ≤ xs.length := fun h => by
        have h1 : get (xs.drop a) = ((get (xs.drop a)).1, (get (xs.drop a)).2.1, 0) := by rw [← h]
        have h2 := getAt_ok _ _ _ _ _ h1
        rw [List.length_drop] at h2
        omega
      rw [HXL.out] at hn1 hgk
      generalize get (xs.drop a) = G at CG hn1 hgk
      obtain ⟨x, q, er⟩ := G
      simp only at hn1 hgk
      change Hid (Calls Try.prog 67 #[.slice A2 (nb - a) (cb - a)] wr fun e w' => e = .returned (.tuple #[.int .u64 ((x : Nat) : Int), .int .i64 ((q : Nat) : Int), .int .i64 ((er : Nat) : Int)]) ∧ wr = w') at CG
      have HN1 := Lib.hid hn1
      have HST := Lib.hid hst
      have HQ := Lib.hid hgk
      clear hrd hC hn1 hst hgk hso
      go_wp2_with fail
      refine CG.out.mono ?_
      rintro e w' ⟨rfl, rfl⟩
      clear CG
      go_upto_region 6 with fail
      obtain ⟨F, hF⟩ : ∃ F, ((((er : Nat) : Int) != 0) || decide (((x : Nat) : Int) > ((nb : Nat) : Int))) = F := ⟨_, rfl⟩
      have HF := Lib.hid hF
      clear hF
      refine plain_ (fun wq => Below wr.heap.size wr wq) (fun _ => True) reg_51_6 rfl inv0 (fun _ _ _ _ => trivial) (Below.refl _ _) trivial ?_
      refine w_move (.inl rfl) (fun vs w hK => ⟨wants_none rfl, rho_out rfl rfl⟩) ?_
      refine w_val [(26, _)] (_) (fun vs w hK => ⟨wants_none rfl, rho_in rfl (fv (hK 0 (memE rfl))), trivial⟩) rfl (fun wq hI => by exact run_int_neq rfl rfl rfl rfl) ?_
      refine w_move (.inl rfl) (fun vs w hK => ⟨wants_none rfl, rho_in rfl (fv (hK 1 (memE rfl)))⟩) ?_
      refine w_moveG (.inl rfl) (fun vs w hK => wantsF rfl (fv (hK 2 (memE rfl)))) (fun hG vs w hK => (rho_out rfl rfl)) ?_
      refine w_valG [(3, _)] (_) (fun vs w hK => wantsF rfl (fv (hK 2 (memE rfl)))) (fun hG vs w hK => ⟨(rho_out rfl rfl), trivial⟩) rfl (fun hG wq hI => by simp only [execOp, Option.map_some, Option.map_none, lk_tmp, lk_const, lkT_cons, ↓reduceIte, Nat.reduceEqDiff]; go_simp; (first | done | rfl)) ?_
      refine w_valG [(30, _)] (_) (fun vs w hK => wantsF rfl (fv (hK 2 (memE rfl)))) (fun hG vs w hK => ⟨(rho_in rfl (fvg (hK 4 (memE rfl)) hG)), trivial⟩) rfl (fun hG wq hI => by exact run_load_cell (ad := ⟨B, 0, none⟩) (v := .slice Ab nb cb) rfl rfl rfl Try.underlying25 rfl (below_cell hI hX)) ?_
      refine w_valG [(31, _)] (_) (fun vs w hK => wantsF rfl (fv (hK 2 (memE rfl)))) (fun hG vs w hK => ⟨(rho_in rfl (fvg (hK 5 (memE rfl)) hG)), trivial⟩) rfl (fun hG wq hI => by exact run_len_sl rfl Try.underlying25 rfl rfl) ?_
      refine w_valG [(32, _)] (_) (fun vs w hK => wantsF rfl (fv (hK 2 (memE rfl)))) (fun hG vs w hK => ⟨(rho_in rfl (fvg (hK 6 (memE rfl)) hG)), trivial⟩) rfl (fun hG wq hI => by exact op_conv_int rfl Try.underlying3 Try.underlying32 rfl (u64_nat nb (by omega))) ?_
      refine w_valG [(29, _), (33, _)] (_) (fun vs w hK => wantsF rfl (fv (hK 2 (memE rfl)))) (fun hG vs w hK => ⟨(rho_in rfl (fvg (hK 3 (memE rfl)) hG)), (rho_in rfl (fvg (hK 7 (memE rfl)) hG)), trivial⟩) rfl (fun hG wq hI => by exact run_int_gtr rfl rfl rfl rfl) ?_
      refine w_or rfl (fun vs w hK => wants_none rfl) (fun vs w hK => (rho_in rfl (fv (hK 2 (memE rfl))))) (fun hB vs w hK => (rho_in rfl (fvg (hK 8 (memE rfl)) (gnot hB)))) ?_
      refine w_as (c' := .bool F) (congrArg Value.bool HF.out) ?_
      refine w_endM [false, false, false, false, false, false, false, false, false, true] rfl rfl rfl (fun vs wq hI hF => ?_)
      simp only [List.reverse_cons, List.reverse_nil, List.nil_append, List.cons_append, finL_val, finL_of, finL_any, finL_app, finL_new, finL_gr, finL_row, finL_box, finL_nil, Act.put, List.setIfInBounds_toArray, List.set_cons_zero, List.set_cons_succ, Nat.reduceAdd, maskF, finL_imp, Bool.not_false, Bool.not_true, Bool.true_and, Bool.false_and]
      have HBel := Lib.hid (below_then HO.out.bel HO.out.bel.size hI)
      have HP := Lib.hid (box_stays HO.out.p_ hI)
      have HRR := Lib.hid (box_stays HO.out.r_ hI)
      have HNN := Lib.hid (box_stays HO.out.n_ hI)
      clear hI hF hX HO
      obtain ⟨w2, rfl⟩ : ∃ w2 : World, w2 = wq := ⟨_, rfl⟩
      cases F with
      | true =>
        have hno : ¬ (er = 0 ∧ x ≤ nb) := by
          rintro ⟨h1, h2⟩
          have h := HF.out
          rw [h1, decide_eq_false (by omega)] at h
          simp at h
        have hn1 : num1 xs a = none := by rw [HN1.out, if_neg hno]
        have hs1 : steps xs at_ (k + 1) = none := by rw [HST.out, hn1]; rfl
        have HNone : Hid (oneP xs at_ (numsOf last) = none) := Lib.hid (by rw [oneP_steps, steps_none hs1 3 (by omega)]; rfl)
        clear hno hn1 hs1
        go_wp2_with (first | (refine wpList_store_box rfl 30 (.tmp 6) (.tmp 36) rfl (B + 1) [.string ⟨#[]⟩, .string ⟨#[]⟩] rfl rfl HRR.out rfl info30 rfl ?_; intro w5 hs5; have HS5 := Lib.hid hs5; clear hs5) | fail)
        (try simp only [Exit.inBlock, Exit.then])
        refine bodyPost_ret (results_box_tmp2 rfl rfl (loadVar_box HS5.out.at_ Try.underlying30 rfl info30)) rfl ?_
        exact ⟨HS5.out.then_ HBel.out (by have := HBD.out; omega), .inr ⟨rfl, HNone.out⟩⟩
      | false =>
        have hyes : er = 0 ∧ x ≤ nb := by
          have h := HF.out
          rw [Bool.or_eq_false_iff] at h
          obtain ⟨h1, h2⟩ := h
          have h2 := of_decide_eq_false h2
          have h1 : ((er : Nat) : Int) = 0 := by simpa using h1
          omega
        have hxn := hyes.2
        have hqn := HQ.out hyes.1
        have hn1 : num1 xs a = some (x, a + q) := by rw [HN1.out, if_pos hyes]
        have HST2 : Hid (steps xs at_ (k + 1) = some (ys ++ [x], a + q)) := Lib.hid (by rw [HST.out, hn1]; rfl)
        have HYL := Lib.hid hyl
        have hwx : IntKind.i64.wrap ((x : Nat) : Int) = ((x : Nat) : Int) := i64_id (by omega) (by omega)
        clear hyes hn1 HST HN1 HF
        go_wp2_with (first
          | (refine wpList_index_arr rfl 102 _ _ rfl Try.underlying102 info3 rfl rfl rfl hlt ?_)
          | (refine wpList_store_cell rfl 3 _ _ rfl (B + 1 + 1) k (.int .i64 (x : Nat)) rfl rfl rfl HNN.out (by show k < 3; exact hlt) info3 ?_; intro w5 hs5; have HS5 := Lib.hid hs5; clear hs5))
        go_roundw
        case rel =>
          refine ⟨k + 1, a + q, ys ++ [x], by omega, by go_num, by go_num, Lib.hid ⟨HST2.out, HS5.out.then_ HBel.out (by have := HBD.out; omega), HS5.out.keep HP.out (by omega), HS5.out.keep HRR.out (by omega), ?_⟩⟩
          have h1 := HS5.out.at_
          rw [h1]
          have h2 := arr3_set ys (by omega) x
          rw [HYL.out] at h2
          rw [← h2]
        case measure => simp [intOf]; omega
    · obtain rfl : k = 3 := by omega
      obtain ⟨x0, x1, x2, rfl⟩ : ∃ x0 x1 x2, ys = [x0, x1, x2] := by
        rcases ys with _ | ⟨x0, _ | ⟨x1, _ | ⟨x2, _ | ⟨x3, r⟩⟩⟩⟩
        · simp at hyl
        · simp at hyl
        · simp at hyl
        · exact ⟨x0, x1, x2, rfl⟩
        · simp at hyl
      have hl0 := hso.2.2 x0 (by simp)
      have hl1 := hso.2.2 x1 (by simp)
      have hl2 := hso.2.2 x2 (by simp)
      rw [HXL.out] at hl0 hl1 hl2
      have hN := HO.out.n_
      have c0 : wr.cell? ⟨B + 1 + 1, 0, none⟩ = some (.int .i64 (x0 : Nat)) := by simp [World.cell?, hN, arr3]
      have c1 : wr.cell? ⟨B + 1 + 1, 1, none⟩ = some (.int .i64 (x1 : Nat)) := by simp [World.cell?, hN, arr3]
      have c2 : wr.cell? ⟨B + 1 + 1, 2, none⟩ = some (.int .i64 (x2 : Nat)) := by simp [World.cell?, hN, arr3]
      have C0 := Lib.hid c0
      have C1 := Lib.hid c1
      have C2 := Lib.hid c2
      have HX := Lib.hid hX
      have HST : Hid (oneP xs at_ (numsOf last) = fin xs (numsOf last) x0 x1 x2 a) := Lib.hid (by rw [oneP_steps, HO.out.st]; rfl)
      clear hso hN c0 c1 c2 hX
      obtain ⟨F, hF⟩ : ∃ F, (decide (((x0 : Nat) : Int) > (last.size : Int)) || decide (((x1 + x2 : Nat) : Int) > ((nb - a : Nat) : Int))) = F := ⟨_, rfl⟩
      have HF := Lib.hid hF
      clear hF
      go_upto_region 10 with fail
      refine plain_ (fun wq => Below wr.heap.size wr wq) (fun _ => True) reg_51_10 rfl inv0 (fun _ _ _ _ => trivial) (Below.refl _ _) trivial ?_
      refine w_val [(9, _)] (_) (fun vs w hK => ⟨wants_none rfl, rho_out rfl rfl, trivial⟩) rfl (fun wq hI => by exact op_index_arr (i := 0) rfl Try.underlying102 info3 rfl rfl rfl (by decide)) ?_
      refine w_val [(45, _)] (_) (fun vs w hK => ⟨wants_none rfl, rho_in rfl (fv (hK 0 (memE rfl))), trivial⟩) rfl (fun wq hI => by exact run_load_cell (ad := ⟨B + 1 + 1, 0, none⟩) (v := .int .i64 (x0 : Nat)) rfl rfl rfl Try.underlying3 rfl (below_cell hI C0.out)) ?_
      refine w_move (.inl rfl) (fun vs w hK => ⟨wants_none rfl, rho_out rfl rfl⟩) ?_
      refine w_val [(47, _)] (_) (fun vs w hK => ⟨wants_none rfl, rho_in rfl (fv (hK 2 (memE rfl))), trivial⟩) rfl (fun wq hI => by exact run_len_str rfl Try.underlying9 rfl rfl) ?_
      refine w_val [(46, _), (48, _)] (_) (fun vs w hK => ⟨wants_none rfl, rho_in rfl (fv (hK 1 (memE rfl))), rho_in rfl (fv (hK 3 (memE rfl))), trivial⟩) rfl (fun wq hI => by exact run_int_gtr rfl rfl rfl rfl) ?_
      refine w_move (.inl rfl) (fun vs w hK => ⟨wants_none rfl, rho_in rfl (fv (hK 4 (memE rfl)))⟩) ?_
      refine w_valG [(9, _)] (_) (fun vs w hK => wantsF rfl (fv (hK 5 (memE rfl)))) (fun hG vs w hK => ⟨(rho_out rfl rfl), trivial⟩) rfl (fun hG wq hI => by exact op_index_arr (i := 1) rfl Try.underlying102 info3 rfl rfl rfl (by decide)) ?_
      refine w_valG [(51, _)] (_) (fun vs w hK => wantsF rfl (fv (hK 5 (memE rfl)))) (fun hG vs w hK => ⟨(rho_in rfl (fvg (hK 6 (memE rfl)) hG)), trivial⟩) rfl (fun hG wq hI => by exact run_load_cell (ad := ⟨B + 1 + 1, 1, none⟩) (v := .int .i64 (x1 : Nat)) rfl rfl rfl Try.underlying3 rfl (below_cell hI C1.out)) ?_
      refine w_valG [(9, _)] (_) (fun vs w hK => wantsF rfl (fv (hK 5 (memE rfl)))) (fun hG vs w hK => ⟨(rho_out rfl rfl), trivial⟩) rfl (fun hG wq hI => by exact op_index_arr (i := 2) rfl Try.underlying102 info3 rfl rfl rfl (by decide)) ?_
      refine w_valG [(53, _)] (_) (fun vs w hK => wantsF rfl (fv (hK 5 (memE rfl)))) (fun hG vs w hK => ⟨(rho_in rfl (fvg (hK 8 (memE rfl)) hG)), trivial⟩) rfl (fun hG wq hI => by exact run_load_cell (ad := ⟨B + 1 + 1, 2, none⟩) (v := .int .i64 (x2 : Nat)) rfl rfl rfl Try.underlying3 rfl (below_cell hI C2.out)) ?_
      refine w_valG [(52, _), (54, _)] (_) (fun vs w hK => wantsF rfl (fv (hK 5 (memE rfl)))) (fun hG vs w hK => ⟨(rho_in rfl (fvg (hK 7 (memE rfl)) hG)), (rho_in rfl (fvg (hK 9 (memE rfl)) hG)), trivial⟩) rfl (fun hG wq hI => by exact run_int_add (c := ((x1 + x2 : Nat) : Int)) rfl rfl rfl (by rw [i64_id (by omega) (by omega)]; omega)) ?_
      refine w_valG [(3, _)] (_) (fun vs w hK => wantsF rfl (fv (hK 5 (memE rfl)))) (fun hG vs w hK => ⟨(rho_out rfl rfl), trivial⟩) rfl (fun hG wq hI => by simp only [execOp, Option.map_some, Option.map_none, lk_tmp, lk_const, lkT_cons, ↓reduceIte, Nat.reduceEqDiff]; go_simp; (first | done | rfl)) ?_
      refine w_valG [(56, _)] (_) (fun vs w hK => wantsF rfl (fv (hK 5 (memE rfl)))) (fun hG vs w hK => ⟨(rho_in rfl (fvg (hK 11 (memE rfl)) hG)), trivial⟩) rfl (fun hG wq hI => by exact run_load_cell (ad := ⟨B, 0, none⟩) (v := .slice Ab nb cb) rfl rfl rfl Try.underlying25 rfl (below_cell hI HX.out)) ?_
      refine w_valG [(57, _)] (_) (fun vs w hK => wantsF rfl (fv (hK 5 (memE rfl)))) (fun hG vs w hK => ⟨(rho_in rfl (fvg (hK 12 (memE rfl)) hG)), trivial⟩) rfl (fun hG wq hI => by exact run_len_sl rfl Try.underlying25 rfl rfl) ?_
      refine w_moveG (.inl rfl) (fun vs w hK => wantsF rfl (fv (hK 5 (memE rfl)))) (fun hG vs w hK => (rho_out rfl rfl)) ?_
      refine w_valG [(58, _), (59, _)] (_) (fun vs w hK => wantsF rfl (fv (hK 5 (memE rfl)))) (fun hG vs w hK => ⟨(rho_in rfl (fvg (hK 13 (memE rfl)) hG)), (rho_in rfl (fvg (hK 14 (memE rfl)) hG)), trivial⟩) rfl (fun hG wq hI => by exact run_int_sub (c := ((nb - a : Nat) : Int)) rfl rfl rfl (by rw [i64_id (by omega) (by omega)]; omega)) ?_
      refine w_valG [(55, _), (60, _)] (_) (fun vs w hK => wantsF rfl (fv (hK 5 (memE rfl)))) (fun hG vs w hK => ⟨(rho_in rfl (fvg (hK 10 (memE rfl)) hG)), (rho_in rfl (fvg (hK 15 (memE rfl)) hG)), trivial⟩) rfl (fun hG wq hI => by exact run_int_gtr rfl rfl rfl rfl) ?_
      refine w_or rfl (fun vs w hK => wants_none rfl) (fun vs w hK => (rho_in rfl (fv (hK 5 (memE rfl))))) (fun hB vs w hK => (rho_in rfl (fvg (hK 16 (memE rfl)) (gnot hB)))) ?_
      refine w_as (c' := .bool F) (congrArg Value.bool HF.out) ?_
      refine w_endM [false, false, false, false, false, false, false, false, false, false, false, false, false, false, false, false, false, true] rfl rfl rfl (fun vs wq hI hF => ?_)
      simp only [List.reverse_cons, List.reverse_nil, List.nil_append, List.cons_append, finL_val, finL_of, finL_any, finL_app, finL_new, finL_gr, finL_row, finL_box, finL_nil, Act.put, List.setIfInBounds_toArray, List.set_cons_zero, List.set_cons_succ, Nat.reduceAdd, maskF, finL_imp, Bool.not_false, Bool.not_true, Bool.true_and, Bool.false_and]
      have HBel := Lib.hid (below_then HO.out.bel HO.out.bel.size hI)
      have HP := Lib.hid (box_stays HO.out.p_ hI)
      have HRR := Lib.hid (box_stays HO.out.r_ hI)
      have HNN := Lib.hid (box_stays HO.out.n_ hI)
      clear hI hF C0 C1 C2 HX HO
      obtain ⟨w2, rfl⟩ : ∃ w2 : World, w2 = wq := ⟨_, rfl⟩
      cases F with
      | true =>
        have HNone : Hid (oneP xs at_ (numsOf last) = none) := Lib.hid (by
          rw [HST.out]
          refine fin_none ?_
          rintro ⟨h1, h2⟩
          rw [numsOf_length] at h1
          rw [HXL.out] at h2
          have h := HF.out
          rw [decide_eq_false (by omega), decide_eq_false (by omega)] at h
          cases h)
        go_wp2_with (first | (refine wpList_store_box rfl 30 (.tmp 6) (.tmp 63) rfl (B + 1) [.string ⟨#[]⟩, .string ⟨#[]⟩] rfl rfl HRR.out rfl info30 rfl ?_; intro w5 hs5; have HS5 := Lib.hid hs5; clear hs5) | fail)
        (try simp only [Exit.inBlock, Exit.then])
        refine bodyPost_ret (results_box_tmp2 rfl rfl (loadVar_box HS5.out.at_ Try.underlying30 rfl info30)) rfl ?_
        exact ⟨HS5.out.then_ HBel.out (by have := HBD.out; omega), .inr ⟨rfl, HNone.out⟩⟩
      | false =>
        have hyes : x0 ≤ last.size ∧ x1 + x2 ≤ nb - a := by
          have h := HF.out
          rw [Bool.or_eq_false_iff] at h
          have h1 := of_decide_eq_false h.1
          have h2 := of_decide_eq_false h.2
          omega
        obtain ⟨hy0, hy1⟩ := hyes
        obtain ⟨A3, hcut3, hC3⟩ := cut_mid (enc := Value.int .u8) (h1 := int_one .u8) 0 tb Ab nb cb a (a + x1) x1 (by omega) (by omega) hnc (a : Int) ((a + x1 : Nat) : Int) rfl rfl
        obtain ⟨A4, hcut4, hC4⟩ := cut_mid (enc := Value.int .u8) (h1 := int_one .u8) 0 tb Ab nb cb (a + x1) (a + x1 + x2) x2 (by omega) (by omega) hnc ((a + x1 : Nat) : Int) ((a + x1 + x2 : Nat) : Int) rfl rfl
        have HC3 := Lib.hid (fun W (h : Below w.heap.size w W) => hC3 W xs (rds_below HR.out h))
        have HC4 := Lib.hid (fun W (h : Below w.heap.size w W) => hC4 W xs (rds_below HR.out h))
        have e3 : (xs.take (a + x1)).drop a = (xs.drop a).take x1 := by rw [List.drop_take]; congr 1; omega
        have e4 : (xs.take (a + x1 + x2)).drop (a + x1) = (xs.drop (a + x1)).take x2 := by rw [List.drop_take]; congr 1; omega
        rw [e3] at HC3
        rw [e4] at HC4
        have HCU3 := Lib.hid hcut3
        have HCU4 := Lib.hid hcut4
        have hz1 : (last.extract 0 x0).size = x0 := by simp; omega
        have hz2 : (strOfNums ((xs.drop a).take x1)).size ≤ x1 := by rw [strOf_size, List.length_take]; omega
        have hz3 : (strOfNums ((xs.drop (a + x1)).take x2)).size ≤ x2 := by rw [strOf_size, List.length_take]; omega
        have hfs : oneP xs at_ (numsOf last) = some ((numsOf (last.extract 0 x0 ++ strOfNums ((xs.drop a).take x1)), numsOf (strOfNums ((xs.drop (a + x1)).take x2))), a + x1 + x2) := by
          rw [HST.out, fin_some (by rw [numsOf_length]; exact hy0) (by rw [HXL.out]; exact hy1), numsOf_append, numsOf_strOfNums _ ((HB.out.drop _).take _), numsOf_strOfNums _ ((HB.out.drop _).take _), numsOf_extract, List.drop_zero, Nat.sub_zero]
        obtain ⟨s1, hs1⟩ : ∃ s1, strOfNums ((xs.drop a).take x1) = s1 := ⟨_, rfl⟩
        obtain ⟨s2, hs2⟩ : ∃ s2, strOfNums ((xs.drop (a + x1)).take x2) = s2 := ⟨_, rfl⟩
        rw [hs1] at hfs hz2
        rw [hs2] at hfs hz3
        have HS1 := Lib.hid hs1
        have HS2 := Lib.hid hs2
        have HFS := Lib.hid hfs
        have HJ0 : Hid (w2.drew.heap[B + 1]? = some (.cells #[.string ⟨#[]⟩, .string ⟨#[]⟩] 30 (0, 0))) := Lib.hid HRR.out
        have HI0 := Lib.hid (⟨below_drew HBel.out, HP.out, HNN.out⟩ : K2 w B (B + 1 + 1) (.cells #[.slice Ab nb cb, .slice Aw nw cw] 36 (0, 0)) (.cells #[.int .i64 (x0 : Nat), .int .i64 (x1 : Nat), .int .i64 (x2 : Nat)] 102 (0, 0)) w2.drew)
        clear hs1 hs2 hfs e3 e4 hC3 hC4 hcut3 hcut4 HF HST
        go_upto_region 12 with fail
        refine draws_ (K2 w B (B + 1 + 1) (.cells #[.slice Ab nb cb, .slice Aw nw cw] 36 (0, 0)) (.cells #[.int .i64 (x0 : Nat), .int .i64 (x1 : Nat), .int .i64 (x2 : Nat)] 102 (0, 0))) (fun W => W.heap[B + 1]? = some (.cells #[.string ⟨#[]⟩, .string ⟨#[]⟩] 30 (0, 0))) (by kernel_rfl) reg_51_12 rfl k2_below (fun W W' h k => box_stays h k) HI0.out HJ0.out ?_
        refine w_move (.inl rfl) (fun vs w hK => ⟨wants_none rfl, rho_out rfl rfl⟩) ?_
        refine w_val [(9, _)] (_) (fun vs w hK => ⟨wants_none rfl, rho_out rfl rfl, trivial⟩) rfl (fun wq hI => by exact op_index_arr (i := 0) rfl Try.underlying102 info3 rfl rfl rfl (by decide)) ?_
        refine w_val [(65, _)] (_) (fun vs w hK => ⟨wants_none rfl, rho_in rfl (fv (hK 1 (memE rfl))), trivial⟩) rfl (fun wq hI => by exact run_load_cell (ad := ⟨B + 1 + 1, 0, none⟩) (v := .int .i64 (x0 : Nat)) rfl rfl rfl Try.underlying3 rfl (by simp [World.cell?, hI.n_])) ?_
        refine w_val [(64, _), (66, _)] (_) (fun vs w hK => ⟨wants_none rfl, rho_in rfl (fv (hK 0 (memE rfl))), rho_in rfl (fv (hK 2 (memE rfl))), trivial⟩) rfl (fun wq hI => by exact op_cut_to (b := x0) rfl Try.underlying9 rfl rfl rfl hy0 rfl) ?_
        refine w_val [(3, _)] _ (fun vs w hK => ⟨wants_none rfl, rho_out rfl rfl, trivial⟩) rfl (fun wq hI => by simp only [execOp, Option.map_some, Option.map_none, lk_tmp, lk_const, lkT_cons, ↓reduceIte, Nat.reduceEqDiff]; go_simp; (first | done | rfl)) ?_
        refine w_val [(68, _)] (_) (fun vs w hK => ⟨wants_none rfl, rho_in rfl (fv (hK 4 (memE rfl))), trivial⟩) rfl (fun wq hI => by exact run_load_cell (ad := ⟨B, 0, none⟩) (v := .slice Ab nb cb) rfl rfl rfl Try.underlying25 rfl (by simp [World.cell?, hI.p_])) ?_
        refine w_move (.inl rfl) (fun vs w hK => ⟨wants_none rfl, rho_out rfl rfl⟩) ?_
        refine w_move (.inl rfl) (fun vs w hK => ⟨wants_none rfl, rho_out rfl rfl⟩) ?_
        refine w_val [(9, _)] (_) (fun vs w hK => ⟨wants_none rfl, rho_out rfl rfl, trivial⟩) rfl (fun wq hI => by exact op_index_arr (i := 1) rfl Try.underlying102 info3 rfl rfl rfl (by decide)) ?_
        refine w_val [(72, _)] (_) (fun vs w hK => ⟨wants_none rfl, rho_in rfl (fv (hK 8 (memE rfl))), trivial⟩) rfl (fun wq hI => by exact run_load_cell (ad := ⟨B + 1 + 1, 1, none⟩) (v := .int .i64 (x1 : Nat)) rfl rfl rfl Try.underlying3 rfl (by simp [World.cell?, hI.n_])) ?_
        refine w_val [(71, _), (73, _)] (_) (fun vs w hK => ⟨wants_none rfl, rho_in rfl (fv (hK 7 (memE rfl))), rho_in rfl (fv (hK 9 (memE rfl))), trivial⟩) rfl (fun wq hI => by exact run_int_add (c := ((a + x1 : Nat) : Int)) rfl rfl rfl (by rw [i64_id (by omega) (by omega)]; omega)) ?_
        refine w_val [(69, _), (70, _), (74, _)] (_) (fun vs w hK => ⟨wants_none rfl, rho_in rfl (fv (hK 5 (memE rfl))), rho_in rfl (fv (hK 6 (memE rfl))), rho_in rfl (fv (hK 10 (memE rfl))), trivial⟩) rfl (fun wq hI => by exact run_slice_op rfl rfl (HCU3.out wq)) ?_
        refine w_val [(75, _)] (_) (fun vs w hK => ⟨wants_none rfl, rho_in rfl (fv (hK 11 (memE rfl))), trivial⟩) rfl (fun wq hI => by exact run_conv_op rfl rfl ((conv_rds (dst := 9) tb Try.underlying5 Try.underlying9 (HC3.out wq hI.bel)).trans (congrArg (fun s => Result.ok (Value.string s) wq) HS1.out))) ?_
        refine w_val [(67, _), (76, _)] (_) (fun vs w hK => ⟨wants_none rfl, rho_in rfl (fv (hK 3 (memE rfl))), rho_in rfl (fv (hK 12 (memE rfl))), trivial⟩) rfl (fun wq hI => by exact run_cat_op rfl rfl rfl (by omega)) ?_
        refine w_val [(3, _)] _ (fun vs w hK => ⟨wants_none rfl, rho_out rfl rfl, trivial⟩) rfl (fun wq hI => by simp only [execOp, Option.map_some, Option.map_none, lk_tmp, lk_const, lkT_cons, ↓reduceIte, Nat.reduceEqDiff]; go_simp; (first | done | rfl)) ?_
        refine w_val [(78, _)] (_) (fun vs w hK => ⟨wants_none rfl, rho_in rfl (fv (hK 14 (memE rfl))), trivial⟩) rfl (fun wq hI => by exact run_load_cell (ad := ⟨B, 0, none⟩) (v := .slice Ab nb cb) rfl rfl rfl Try.underlying25 rfl (by simp [World.cell?, hI.p_])) ?_
        refine w_move (.inl rfl) (fun vs w hK => ⟨wants_none rfl, rho_out rfl rfl⟩) ?_
        refine w_val [(9, _)] (_) (fun vs w hK => ⟨wants_none rfl, rho_out rfl rfl, trivial⟩) rfl (fun wq hI => by exact op_index_arr (i := 1) rfl Try.underlying102 info3 rfl rfl rfl (by decide)) ?_
        refine w_val [(81, _)] (_) (fun vs w hK => ⟨wants_none rfl, rho_in rfl (fv (hK 17 (memE rfl))), trivial⟩) rfl (fun wq hI => by exact run_load_cell (ad := ⟨B + 1 + 1, 1, none⟩) (v := .int .i64 (x1 : Nat)) rfl rfl rfl Try.underlying3 rfl (by simp [World.cell?, hI.n_])) ?_
        refine w_val [(80, _), (82, _)] (_) (fun vs w hK => ⟨wants_none rfl, rho_in rfl (fv (hK 16 (memE rfl))), rho_in rfl (fv (hK 18 (memE rfl))), trivial⟩) rfl (fun wq hI => by exact run_int_add (c := ((a + x1 : Nat) : Int)) rfl rfl rfl (by rw [i64_id (by omega) (by omega)]; omega)) ?_
        refine w_move (.inl rfl) (fun vs w hK => ⟨wants_none rfl, rho_out rfl rfl⟩) ?_
        refine w_val [(9, _)] (_) (fun vs w hK => ⟨wants_none rfl, rho_out rfl rfl, trivial⟩) rfl (fun wq hI => by exact op_index_arr (i := 1) rfl Try.underlying102 info3 rfl rfl rfl (by decide)) ?_
        refine w_val [(85, _)] (_) (fun vs w hK => ⟨wants_none rfl, rho_in rfl (fv (hK 21 (memE rfl))), trivial⟩) rfl (fun wq hI => by exact run_load_cell (ad := ⟨B + 1 + 1, 1, none⟩) (v := .int .i64 (x1 : Nat)) rfl rfl rfl Try.underlying3 rfl (by simp [World.cell?, hI.n_])) ?_
        refine w_val [(84, _), (86, _)] (_) (fun vs w hK => ⟨wants_none rfl, rho_in rfl (fv (hK 20 (memE rfl))), rho_in rfl (fv (hK 22 (memE rfl))), trivial⟩) rfl (fun wq hI => by exact run_int_add (c := ((a + x1 : Nat) : Int)) rfl rfl rfl (by rw [i64_id (by omega) (by omega)]; omega)) ?_
        refine w_val [(9, _)] (_) (fun vs w hK => ⟨wants_none rfl, rho_out rfl rfl, trivial⟩) rfl (fun wq hI => by exact op_index_arr (i := 2) rfl Try.underlying102 info3 rfl rfl rfl (by decide)) ?_
        refine w_val [(88, _)] (_) (fun vs w hK => ⟨wants_none rfl, rho_in rfl (fv (hK 24 (memE rfl))), trivial⟩) rfl (fun wq hI => by exact run_load_cell (ad := ⟨B + 1 + 1, 2, none⟩) (v := .int .i64 (x2 : Nat)) rfl rfl rfl Try.underlying3 rfl (by simp [World.cell?, hI.n_])) ?_
        refine w_val [(87, _), (89, _)] (_) (fun vs w hK => ⟨wants_none rfl, rho_in rfl (fv (hK 23 (memE rfl))), rho_in rfl (fv (hK 25 (memE rfl))), trivial⟩) rfl (fun wq hI => by exact run_int_add (c := ((a + x1 + x2 : Nat) : Int)) rfl rfl rfl (by rw [i64_id (by omega) (by omega)]; omega)) ?_
        refine w_val [(79, _), (83, _), (90, _)] (_) (fun vs w hK => ⟨wants_none rfl, rho_in rfl (fv (hK 15 (memE rfl))), rho_in rfl (fv (hK 19 (memE rfl))), rho_in rfl (fv (hK 26 (memE rfl))), trivial⟩) rfl (fun wq hI => by exact run_slice_op rfl rfl (HCU4.out wq)) ?_
        refine w_val [(91, _)] (_) (fun vs w hK => ⟨wants_none rfl, rho_in rfl (fv (hK 27 (memE rfl))), trivial⟩) rfl (fun wq hI => by exact run_conv_op rfl rfl ((conv_rds (dst := 9) tb Try.underlying5 Try.underlying9 (HC4.out wq hI.bel)).trans (congrArg (fun s => Result.ok (Value.string s) wq) HS2.out))) ?_
        refine w_val [(77, _), (92, _)] (_) (fun vs w hK => ⟨wants_none rfl, rho_in rfl (fv (hK 13 (memE rfl))), rho_in rfl (fv (hK 28 (memE rfl))), trivial⟩) rfl (fun wq hI => by exact op_build rfl (built30 _ _)) ?_
        refine w_move (.inl rfl) (fun vs w hK => ⟨wants_none rfl, rho_out rfl rfl⟩) ?_
        refine w_val [(9, _)] (_) (fun vs w hK => ⟨wants_none rfl, rho_out rfl rfl, trivial⟩) rfl (fun wq hI => by exact op_index_arr (i := 1) rfl Try.underlying102 info3 rfl rfl rfl (by decide)) ?_
        refine w_val [(95, _)] (_) (fun vs w hK => ⟨wants_none rfl, rho_in rfl (fv (hK 31 (memE rfl))), trivial⟩) rfl (fun wq hI => by exact run_load_cell (ad := ⟨B + 1 + 1, 1, none⟩) (v := .int .i64 (x1 : Nat)) rfl rfl rfl Try.underlying3 rfl (by simp [World.cell?, hI.n_])) ?_
        refine w_val [(94, _), (96, _)] (_) (fun vs w hK => ⟨wants_none rfl, rho_in rfl (fv (hK 30 (memE rfl))), rho_in rfl (fv (hK 32 (memE rfl))), trivial⟩) rfl (fun wq hI => by exact run_int_add (c := ((a + x1 : Nat) : Int)) rfl rfl rfl (by rw [i64_id (by omega) (by omega)]; omega)) ?_
        refine w_val [(9, _)] (_) (fun vs w hK => ⟨wants_none rfl, rho_out rfl rfl, trivial⟩) rfl (fun wq hI => by exact op_index_arr (i := 2) rfl Try.underlying102 info3 rfl rfl rfl (by decide)) ?_
        refine w_val [(98, _)] (_) (fun vs w hK => ⟨wants_none rfl, rho_in rfl (fv (hK 34 (memE rfl))), trivial⟩) rfl (fun wq hI => by exact run_load_cell (ad := ⟨B + 1 + 1, 2, none⟩) (v := .int .i64 (x2 : Nat)) rfl rfl rfl Try.underlying3 rfl (by simp [World.cell?, hI.n_])) ?_
        refine w_val [(97, _), (99, _)] (_) (fun vs w hK => ⟨wants_none rfl, rho_in rfl (fv (hK 33 (memE rfl))), rho_in rfl (fv (hK 35 (memE rfl))), trivial⟩) rfl (fun wq hI => by exact run_int_add (c := ((a + x1 + x2 : Nat) : Int)) rfl rfl rfl (by rw [i64_id (by omega) (by omega)]; omega)) ?_
        refine w_lin (FW.of (fun _ W => W.heap[B + 1]? = some (.cells #[.string (last.extract 0 x0 ++ s1), .string s2] 30 (0, 0))) (fun _ W W' h hb => box_stays h hb)) (by decide) (fun vs wq hI hJ hK => ?_) ?_
        · have hA := hJ (by decide) (by decide)
          exact ob_store_box (old := [.string ⟨#[]⟩, .string ⟨#[]⟩]) (cs := [.string (last.extract 0 x0 ++ s1), .string s2]) [(6, _), (93, _)] (wants_none rfl) ⟨rho_out rfl rfl, rho_in rfl (fv (hK 29 (memE rfl))), trivial⟩ rfl rfl rfl rfl hA rfl info30 rfl (fun w' hs => ⟨⟨hs.then_ hI.bel (by have := HBD.out; omega), hs.keep hI.p_ (by omega), hs.keep hI.n_ (by omega)⟩, hs.at_⟩)
        refine w_move (.inr rfl) (fun vs w hK => ⟨wants_none rfl, rho_in rfl (fv (hK 36 (memE rfl)))⟩) ?_
        refine w_const (.inr rfl) (fun vs w hK => wants_none rfl) ?_
        refine w_end rfl rfl rfl (fun vs wq hI hF => ?_)
        simp only [List.reverse_cons, List.reverse_nil, List.nil_append, List.cons_append, finL_val, finL_of, finL_any, finL_app, finL_new, finL_gr, finL_row, finL_box, finL_nil, Act.put, List.setIfInBounds_toArray, List.set_cons_zero, List.set_cons_succ, Nat.reduceAdd]
        have HX7 : Hid (wq.heap[B + 1]? = some (.cells #[.string (last.extract 0 x0 ++ s1), .string s2] 30 (0, 0))) := Lib.hid (hF 37 (by decide) rfl)
        have HB7 := Lib.hid hI.bel
        clear hI hF
        go_wp2_with fail
        (try simp only [Exit.inBlock, Exit.then])
        refine bodyPost_ret (results_box_tmp2 rfl rfl (loadVar_box (cs := [.string (last.extract 0 x0 ++ s1), .string s2]) HX7.out Try.underlying30 rfl info30)) rfl ?_
        exact ⟨HB7.out, .inl ⟨_, _, _, rfl, HFS.out⟩⟩
end Go.Proofs.Ytnkeijdpjcclcaa.Pg
-- PgD
/- The contracts of (page.Page).read and All. -/
namespace Go.Proofs.Ytnkeijdpjcclcaa.Pg
set_option linter.unusedVariables false
set_option linter.unusedSimpArgs false
open Go.Proofs.Ytnkeijdpjcclcaa.Kit Go.Proofs.Ytnkeijdpjcclcaa.Num Go.RowKit Go.Proofs.YtnkeijdpjcclcaaW.PrintWords Go.Proofs.YtnkeijdpjcclcaaW.PrintLast Go.Proofs.YtnkeijdpjcclcaaW.PrintMore NumPure
theorem et30 : EType Try.prog 22 30 2 32 (.agg #[.string ⟨#[]⟩, .string ⟨#[]⟩]) := ⟨Try.underlying22, by kernel_rfl, rfl, by decide⟩
theorem fill30 (a b : ByteArray) : Instr.fill (fun i => some (i * 2, 2)) ((Array.range (1 * 2)).map ((Value.agg #[.string ⟨#[]⟩, .string ⟨#[]⟩]).cells[· % (Value.agg #[.string ⟨#[]⟩, .string ⟨#[]⟩]).cells.size]!)) [(0, .agg [Value.string a, .string b].toArray)] = some [Value.string a, .string b].toArray := by
  simp [Instr.fill, Value.cells, Array.range]
  rfl
theorem box_cells {w : World} {g : Nat} {cs : List Value} {t : TypeId} {fr : Nat × Nat} (h : w.heap[g]? = some (.cells cs.toArray t fr)) : ∀ j v, cs[j]? = some v → w.cell? ((⟨g, 0, none⟩ : Addr).add j) = some v := by
  intro j v hv
  rw [Go.Proofs.YtnkeijdpjcclcaaW.PrintWords.add_plain]
  simp only [World.cell?, h]
  simpa using hv
/-- What read tells. -/
def ReadPost (xs : List Int) (st : Nat) (w : World) (e : Ending) (w' : World) : Prop := Below w.heap.size w w' ∧ ∃ (v : Value) (ex : Nat), e = .returned (.tuple #[v, .int .i64 ex]) ∧
  ((ex = 0 ∧ ∃ (a : Nat) (last : List Int) (ps : List PB), Chain xs st a last (nn ps) ∧ xs.length ≤ a ∧ OwnK encP 2 30 w' w.heap.size v ps) ∨
   (ex = 2 ∧ v = .slice none 0 0 ∧ ∃ (a : Nat) (last : List Int) (out : List PR), Chain xs st a last out ∧ a < xs.length ∧ oneP xs a last = none))
theorem reg_48_3 : RegOk (opsOf Try.f48 3) [[], [], [1], [1, 2], [0, 1, 2, 3], [0, 1, 2, 3, 4], [0, 1, 2, 3, 4, 5], [0, 1, 2, 3, 4, 5, 6], [0, 1, 2, 3, 4, 5], [0, 1, 2, 3, 4, 5, 6, 7, 8], [0, 1, 2, 3, 4, 5, 6, 7, 8, 9]] [] [some 13, some 14, some 15, some 16, some 17, some 18, some 19, some 20, some 21, some 22, some 23] := regOk (by kernel_rfl)
theorem reg_48_7 : RegOk (opsOf Try.f48 7) [[], [], [1], [0, 1, 2], [], [4], [], [0, 1, 2, 3], [0, 1, 2, 3, 4, 5, 7], [0, 1, 2, 3, 4, 5, 6, 7, 8]] [3, 7] [some 35, some 36, some 37, some 38, some 39, some 40, some 41, some 8, some 9, some 1] := regOk (by kernel_rfl)
set_option maxRecDepth 20000 in
set_option maxHeartbeats 3200000 in
theorem read_any (Ab : Option Addr) (nb cb : Nat) (Aw : Option Addr) (nw cw : Nat) (xs : List Int) (st : Nat) (w : World) (hr : Rds .u8 w Ab nb xs) (hb : Byte xs) (hnc : nb ≤ cb) (hn : nb ≤ 1000000) (ha : st ≤ nb) :
    Calls Try.prog 48 #[.agg #[.slice Ab nb cb, .slice Aw nw cw], .int .i64 (st : Nat), .int .i64 (-1)] w (ReadPost xs st w) := by
  have hxl := rds_len hr
  have HR := Lib.hid hr
  have HB := Lib.hid hb
  have HXL := Lib.hid hxl
  go_enter Try.func48, Try.ntmps48
  go_wp2_with fail
  have hx1 : (w.alloc (.cells #[.slice Ab nb cb, .slice Aw nw cw] 36)).heap[w.heap.size]? = some (.cells #[.slice Ab nb cb, .slice Aw nw cw] 36 (0, 0)) := heap_alloc_new w _
  have hb1 : Below w.heap.size w (w.alloc (.cells #[.slice Ab nb cb, .slice Aw nw cw] 36)) := below_alloc (Below.refl _ _) _
  have HX1 := Lib.hid hx1
  have HB1 := Lib.hid hb1
  clear hx1 hb1 hr hb hxl
  generalize w.alloc (.cells #[.slice Ab nb cb, .slice Aw nw cw] 36) = w1 at HX1 HB1 ⊢
  generalize hBd : w.heap.size = B at HX1 ⊢
  have HBD := Lib.hid hBd
  clear hBd
  go_loopw [1, 8, 9] (fun aa out la wr => ∃ (a : Nat) (s : ByteArray) (v : Value) (ps : List PB), aa = .int .i64 a ∧ la = .string s ∧ out = v ∧ Hid (Chain xs st a (numsOf s) (nn ps)) ∧ Hid (OwnK encP 2 30 wr w1.heap.size v ps) ∧ Hid (Below w1.heap.size w1 wr)) (fun aa _ _ _ => nb - (intOf aa).toNat)
  case atStart => exact ⟨st, ⟨#[]⟩, _, [], rfl, rfl, rfl, Lib.hid (by rw [numsOf_empty]; exact Chain.nil), Lib.hid (ownk_nil _ _ _ _ _), Lib.hid (Below.refl _ _)⟩
  case round =>
    obtain ⟨a, s, v, ps, rfl, rfl, hv, HC, HO, HW⟩ := hrel
    subst hv
    have hcl := chain_le HC.out (by rw [HXL.out]; exact ha)
    have hal : a ≤ nb := by have := hcl.1; rw [HXL.out] at this; exact this
    have hpl : 3 * ps.length ≤ nb := by have := hcl.2.1; rw [nn_length] at this; omega
    have hsl : s.size ≤ 1000000 := by have := hcl.2.2.1; rw [numsOf_length] at this; omega
    have HX := Lib.hid (box_stays HX1.out HW.out)
    have hX : wr.cell? ⟨B, 0, none⟩ = some (.slice Ab nb cb) := by simp [World.cell?, HX.out]
    obtain ⟨Ao, no, co, rfl, hoc, HOL, hom, _⟩ := ownk_open encP_len HO.out
    obtain ⟨D, hD⟩ : ∃ D, decide (((a : Nat) : Int) < ((nb : Nat) : Int)) = D := ⟨_, rfl⟩
    have HD := Lib.hid hD
    clear hD hcl
    go_upto_region 3 with fail
    refine plain_ (fun wq => Below wr.heap.size wr wq) (fun _ => True) reg_48_3 rfl inv0 (fun _ _ _ _ => trivial) (Below.refl _ _) trivial ?_
    refine w_move (.inl rfl) (fun vs w hK => ⟨wants_none rfl, rho_out rfl rfl⟩) ?_
    refine w_val [(3, _)] _ (fun vs w hK => ⟨wants_none rfl, rho_out rfl rfl, trivial⟩) rfl (fun wq hI => by simp only [execOp, Option.map_some, Option.map_none, lk_tmp, lk_const, lkT_cons, ↓reduceIte, Nat.reduceEqDiff]; go_simp; (first | done | rfl)) ?_
    refine w_val [(14, _)] (_) (fun vs w hK => ⟨wants_none rfl, rho_in rfl (fv (hK 1 (memE rfl))), trivial⟩) rfl (fun wq hI => by exact run_load_cell (ad := ⟨B, 0, none⟩) (v := .slice Ab nb cb) rfl rfl rfl Try.underlying25 rfl (below_cell hI hX)) ?_
    refine w_val [(15, _)] (_) (fun vs w hK => ⟨wants_none rfl, rho_in rfl (fv (hK 2 (memE rfl))), trivial⟩) rfl (fun wq hI => by exact run_len_sl rfl Try.underlying25 rfl rfl) ?_
    refine w_val [(13, _), (16, _)] (_) (fun vs w hK => ⟨wants_none rfl, rho_in rfl (fv (hK 0 (memE rfl))), rho_in rfl (fv (hK 3 (memE rfl))), trivial⟩) rfl (fun wq hI => by exact run_int_lss rfl rfl rfl rfl) ?_
    refine w_move (.inl rfl) (fun vs w hK => ⟨wants_none rfl, rho_in rfl (fv (hK 4 (memE rfl)))⟩) ?_
    refine w_moveG (.inl rfl) (fun vs w hK => wantsT rfl (fv (hK 5 (memE rfl)))) (fun hG vs w hK => (rho_out rfl rfl)) ?_
    refine w_valG [(19, _)] (_) (fun vs w hK => wantsT rfl (fv (hK 5 (memE rfl)))) (fun hG vs w hK => ⟨(rho_in rfl (fvg (hK 6 (memE rfl)) hG)), trivial⟩) rfl (fun hG wq hI => by exact run_len_sl rfl Try.underlying22 rfl rfl) ?_
    refine w_moveG (.inl rfl) (fun vs w hK => wantsT rfl (fv (hK 5 (memE rfl)))) (fun hG vs w hK => (rho_out rfl rfl)) ?_
    refine w_valG [(20, _), (21, _)] (_) (fun vs w hK => wantsT rfl (fv (hK 5 (memE rfl)))) (fun hG vs w hK => ⟨(rho_in rfl (fvg (hK 7 (memE rfl)) hG)), (rho_in rfl (fvg (hK 8 (memE rfl)) hG)), trivial⟩) rfl (fun hG wq hI => by exact run_int_neq (r := true) rfl rfl rfl (by simp only [bne_iff_ne]; omega)) ?_
    refine w_and rfl (fun vs w hK => wants_none rfl) (fun vs w hK => (rho_in rfl (fv (hK 5 (memE rfl))))) (fun hB vs w hK => (rho_in rfl (fvg (hK 9 (memE rfl)) hB))) ?_
    refine w_as (c' := .bool D) (congrArg Value.bool (by rw [Bool.and_true]; exact HD.out)) ?_
    refine w_endM [false, false, false, false, false, false, false, false, false, false, true] rfl rfl rfl (fun vs wq hI hF => ?_)
    simp only [List.reverse_cons, List.reverse_nil, List.nil_append, List.cons_append, finL_val, finL_of, finL_any, finL_app, finL_new, finL_gr, finL_row, finL_box, finL_nil, Act.put, List.setIfInBounds_toArray, List.set_cons_zero, List.set_cons_succ, Nat.reduceAdd, maskF, finL_imp, Bool.not_false, Bool.not_true, Bool.true_and, Bool.false_and]
    have HO2 := Lib.hid (ownk_below HO.out hI)
    have HW2 := Lib.hid (below_then HW.out HW.out.size hI)
    have HX2 := Lib.hid (box_stays HX.out hI)
    clear hI hF hX HX HO HW
    obtain ⟨w2, rfl⟩ : ∃ w2 : World, w2 = wq := ⟨_, rfl⟩
    cases D with
    | true =>
      have hlt : a < nb := by have := of_decide_eq_true HD.out; omega
      have hbw := below_then HB1.out HB1.out.size HW2.out
      have HBW := Lib.hid hbw
      have C1 := Lib.hid (one_any Ab nb cb Aw nw cw xs a s w2 (rds_below HR.out hbw) HB.out hnc hn hal hsl)
      clear hbw
      go_wp2_with (first | (refine wpList_load_box rfl 36 (.tmp 3) rfl B [.slice Ab nb cb, .slice Aw nw cw] rfl HX2.out Try.underlying36 rfl info36 ?_) | fail)
      refine C1.out.mono ?_
      rintro e w3 ⟨hb3, hpost⟩
      have HO3 := Lib.hid (ownk_below HO2.out hb3)
      have HW3 := Lib.hid (below_then HW2.out HW2.out.size hb3)
      clear hb3 HO2 HW2 HX2 C1
      rcases hpost with ⟨nm, vl, nx, rfl, ho⟩ | ⟨rfl, ho⟩
      · have hok := oneP_ok ho
        have HON := Lib.hid ho
        have hnx : nx ≤ nb := by have := hok.2.1; rw [HXL.out] at this; exact this
        have hnx2 : a + 3 ≤ nx := hok.1
        clear ho hok
        go_upto_region 7 with (first | (refine wpList_store_box rfl 30 (.tmp 10) (.tmp 29) rfl w3.heap.size [.string nm, .string vl] rfl rfl (heap_alloc_new w3 _) rfl info30 rfl ?_; intro w4 hs4; have HS4 := Lib.hid hs4; clear hs4) | fail)
        have hb4 : Below w3.heap.size w3 w4 := HS4.out.then_ (below_alloc (Below.refl _ _) _) (Nat.le_refl _)
        have HNE : Hid ((Value.slice Ao no co).ownBlock ≠ some w3.heap.size) := Lib.hid (fun h => by have := ownk_lt HO3.out _ h; omega)
        have HJ0 : Hid (OwnK encP 2 30 w4.drew w1.heap.size (.slice Ao no co) ps) := Lib.hid (ownk_below HO3.out (below_drew hb4))
        have HI0 : Hid (Keeps w1 w3.heap.size (.cells [Value.string nm, .string vl].toArray 30 (0, 0)) w4.drew) := Lib.hid ⟨below_drew (below_then HW3.out HW3.out.size hb4), HS4.out.at_⟩
        clear hb4 HS4 HO3 HW3
        generalize w3.heap.size = b4 at HNE HI0 ⊢
        refine draws_ (Keeps w1 b4 (.cells [Value.string nm, .string vl].toArray 30 (0, 0))) (fun W => OwnK encP 2 30 W w1.heap.size (.slice Ao no co) ps) (by kernel_rfl) reg_48_7 rfl keeps_below (fun W W' h k => ownk_below h k) HI0.out HJ0.out ?_
        refine w_move (.inl rfl) (fun vs w hK => ⟨wants_none rfl, rho_out rfl rfl⟩) ?_
        refine w_val [(10, _)] (.agg [Value.string nm, .string vl].toArray) (fun vs w hK => ⟨wants_none rfl, rho_out rfl rfl, trivial⟩) rfl (fun wq hI => by exact op_load_at rfl ⟨b4, 0, none⟩ [.string nm, .string vl] rfl (box_cells hI.at_) Try.underlying30 rfl info30) ?_
        refine w_any (FW.of (fun v' W => ∃ g, v' = .slice (some ⟨g, 0, none⟩) 1 1 ∧ W.heap[g]? = some (.cells [Value.string nm, .string vl].toArray 30 (0, 0))) (fun _ _ _ h hb => h.elim fun g h => ⟨g, h.1, box_stays h.2 hb⟩)) (by decide) (fun vs wq hI hK => ?_) ?_
        · exact ob_run [(36, _)] (wants_none rfl) ⟨rho_in rfl (fv (hK 1 (memE rfl))), trivial⟩ rfl (op_lit1 et30 (by decide) rfl rfl (fill30 _ _)) ⟨below_alloc (Below.refl _ _) _, _, rfl, heap_alloc_new _ _⟩
        refine w_lin (FW.of (fun v' W => OwnK encP 2 30 W w1.heap.size v' (ps ++ [(nm, vl)])) (fun _ _ _ h hb => ownk_below h hb)) (by decide) (fun vs wq hI hJ hK => ?_) ?_
        · have hA := hJ (by decide) (by decide)
          obtain ⟨g, e1, e2⟩ : ∃ g, vs 2 = .slice (some ⟨g, 0, none⟩) 1 1 ∧ wq.heap[g]? = some (.cells [Value.string nm, .string vl].toArray 30 (0, 0)) := hK 2 (memE rfl)
          obtain ⟨v1, w5, hrun, k1, k2⟩ := ownk_run (ys := [(nm, vl)]) (c := 1) encP_len encP_one et30 22 hA (sts_one encP_len rfl e2) hI.bel.size (by omega) (by omega)
          exact ob_run [(35, _), (37, .slice (some ⟨g, 0, none⟩) 1 1)] (wants_none rfl) ⟨rho_in rfl (fv (hK 0 (memE rfl))), rho_in rfl e1, trivial⟩ rfl (run_append_op rfl rfl rfl hrun) ⟨⟨hI.bel.grown k2.grown hI.bel.size (ownk_base hA), by rw [k2.grown.block b4 (mk_lt hI.at_) (Ne.symm HNE.out)]; exact hI.at_⟩, k1⟩
        refine w_val [(10, _)] _ (fun vs w hK => ⟨wants_none rfl, rho_out rfl rfl, trivial⟩) rfl (fun wq hI => by simp only [execOp, Option.map_some, Option.map_none, lk_tmp, lk_const, lkT_cons, ↓reduceIte, Nat.reduceEqDiff]; go_simp; (first | done | rfl)) ?_
        refine w_val [(39, _)] (_) (fun vs w hK => ⟨wants_none rfl, rho_in rfl (fv (hK 4 (memE rfl))), trivial⟩) rfl (fun wq hI => by exact run_load_cell (ad := ⟨b4, 0, none⟩) (v := .string nm) rfl rfl rfl Try.underlying9 rfl (by simp [World.cell?, hI.at_])) ?_
        refine w_move (.inl rfl) (fun vs w hK => ⟨wants_none rfl, rho_out rfl rfl⟩) ?_
        refine w_lin (FW.of (fun v' W => OwnK encP 2 30 W w1.heap.size v' (ps ++ [(nm, vl)])) (fun _ _ _ h hb => ownk_below h hb)) (by decide) (fun vs wq hI hJ hK => ?_) ?_
        · exact ob_copy (.inr rfl) (wants_none rfl) (rho_in rfl rfl) ⟨hI, hK 3 (memE rfl)⟩
        refine w_move (.inr rfl) (fun vs w hK => ⟨wants_none rfl, rho_in rfl (fv (hK 5 (memE rfl)))⟩) ?_
        refine w_move (.inr rfl) (fun vs w hK => ⟨wants_none rfl, rho_in rfl (fv (hK 6 (memE rfl)))⟩) ?_
        refine w_end rfl rfl rfl (fun vs wq hI hF => ?_)
        simp only [List.reverse_cons, List.reverse_nil, List.nil_append, List.cons_append, finL_val, finL_of, finL_any, finL_app, finL_new, finL_gr, finL_row, finL_box, finL_nil, Act.put, List.setIfInBounds_toArray, List.set_cons_zero, List.set_cons_succ, Nat.reduceAdd]
        have HO7 : Hid (OwnK encP 2 30 wq w1.heap.size (vs 7) (ps ++ [(nm, vl)])) := Lib.hid (hF 7 (by decide) rfl)
        have HW7 := Lib.hid hI.bel
        clear hI hF HI0 HJ0
        go_wp2_with fail
        go_roundw
        case rel => exact ⟨nx, nm, _, ps ++ [(nm, vl)], rfl, rfl, rfl, Lib.hid (by rw [nn_append]; exact Chain.snoc _ nx HC.out (by rw [HXL.out]; exact hlt) HON.out), HO7, HW7⟩
        case measure => simp [intOf]; omega
      · have HON := Lib.hid ho
        clear ho
        go_wp2_with (first | (refine wpList_store_box rfl 30 (.tmp 10) (.tmp 29) rfl w3.heap.size [.string ⟨#[]⟩, .string ⟨#[]⟩] rfl rfl (heap_alloc_new w3 _) rfl info30 rfl ?_; intro w4 hs4; have HS4 := Lib.hid hs4; clear hs4) | fail)
        have hb4 : Below w3.heap.size w3 w4 := HS4.out.then_ (below_alloc (Below.refl _ _) _) (Nat.le_refl _)
        have HW4 := Lib.hid (below_then HB1.out HB1.out.size (below_then HW3.out HW3.out.size hb4))
        clear hb4 HS4
        go_ret2
        exact ⟨HW4.out, _, 2, rfl, .inr ⟨rfl, rfl, _, _, _, HC.out, by rw [HXL.out]; exact hlt, HON.out⟩⟩
    | false =>
      have hge : ¬ a < nb := by have := of_decide_eq_false HD.out; omega
      have HW3 := Lib.hid (below_then HB1.out HB1.out.size HW2.out)
      have HO3 := Lib.hid (ownk_lower HO2.out HB1.out.size)
      go_wp2_with fail
      go_ret2
      exact ⟨HW3.out, _, 0, rfl, .inl ⟨rfl, _, _, ps, HC.out, by rw [HXL.out]; omega, HO3.out⟩⟩
end Go.Proofs.Ytnkeijdpjcclcaa.Pg
-- PgQ
/- Pages read: what Parse's tests say of bytes, without the program. -/
namespace Go.Proofs.Ytnkeijdpjcclcaa.Pg
set_option linter.unusedVariables false
open Go.Proofs.Ytnkeijdpjcclcaa.Kit NumPure
/-- Where the places begin. -/
def endOf (xs : List Int) : Nat := xs.length - 4 - 4 * leVal (xs.drop (xs.length - 4))
theorem page_end {xs : List Int} {l : List PR} (h : IsPage xs l) : 4 ≤ xs.length ∧ leVal (xs.drop (xs.length - 4)) = cntAt l.length ∧ cntAt l.length ≤ (xs.length - 4) / 4 ∧ xs.take (endOf xs) = bodyAt l l.length ∧ endOf xs = (bodyAt l l.length).length := by
  obtain ⟨hg, rfl⟩ := h
  have h1 := page_length l
  have h2 := page_cnt hg
  have h3 := page_body l
  unfold endOf
  rw [h2]
  refine ⟨by omega, rfl, by omega, h3, by omega⟩
theorem no_short {xs : List Int} (h : xs.length < 4) (l : List PR) : ¬ IsPage xs l := fun hp => by
  have := (page_end hp).1; omega
theorem no_count {xs : List Int} (h : (xs.length - 4) / 4 < leVal (xs.drop (xs.length - 4))) (l : List PR) : ¬ IsPage xs l := fun hp => by
  obtain ⟨_, h2, h3, _⟩ := page_end hp; omega
theorem no_read {xs : List Int} {a : Nat} {last : List Int} {out : List PR} (h : Chain (xs.take (endOf xs)) 0 a last out) (ha : a < (xs.take (endOf xs)).length) (ho : oneP (xs.take (endOf xs)) a last = none) (l : List PR) : ¬ IsPage xs l := fun hp => by
  obtain ⟨_, _, _, h4, _⟩ := page_end hp
  rw [h4] at h ha ho
  have := chain_end h (page_chain hp.1) (.inr ho) (.inl (Nat.le_refl _))
  omega
theorem page_of {xs : List Int} {a : Nat} {last : List Int} {l : List PR} (h : Chain (xs.take (endOf xs)) 0 a last l) (ha : (xs.take (endOf xs)).length ≤ a) {l' : List PR} (hp : IsPage xs l') : l = l' := by
  obtain ⟨_, _, _, h4, _⟩ := page_end hp
  rw [h4] at h ha
  exact (chain_end h (page_chain hp.1) (.inl ha) (.inl (Nat.le_refl _))).2.2
theorem no_made {xs : List Int} {a : Nat} {last : List Int} {l : List PR} (h : Chain (xs.take (endOf xs)) 0 a last l) (ha : (xs.take (endOf xs)).length ≤ a) (hb : ¬ (Good l l.length ∧ pageOf l = xs)) (l' : List PR) : ¬ IsPage xs l' := fun hp => by
  obtain rfl := page_of h ha hp
  exact hb hp
/-- The numbers behind the pairs. -/
def nums4 (xs : List Int) (e : Nat) : Nat → List Int
  | 0 => []
  | k + 1 => nums4 xs e k ++ [((leVal ((xs.drop (e + 4 * k)).take 4) : Nat) : Int)]
theorem nums4_length (xs : List Int) (e : Nat) : ∀ k, (nums4 xs e k).length = k
  | 0 => rfl
  | k + 1 => by simp [nums4, nums4_length xs e k]
theorem nums4_flat (pre post : List Int) : ∀ (ws : List Int), (∀ x ∈ ws, 0 ≤ x ∧ x < 4294967296) → ∀ k, k ≤ ws.length → nums4 (pre ++ (ws.flatMap fun x => le x.toNat 4) ++ post) pre.length k = ws.take k := by
  intro ws hw k
  induction k with
  | zero => intro _; simp [nums4]
  | succ k ih =>
    intro hk
    rw [nums4, ih (by omega)]
    have hlt : k < ws.length := by omega
    have hfl : ∀ zs : List Int, (zs.flatMap fun x => le x.toNat 4).length = 4 * zs.length := by
      intro zs
      induction zs with
      | nil => rfl
      | cons z zs ihz => rw [List.flatMap_cons, List.length_append, ihz, le_length, List.length_cons]; omega
    have hsp : ws = ws.take k ++ (ws[k] :: ws.drop (k + 1)) := by
      rw [← List.drop_eq_getElem_cons hlt, List.take_append_drop]
    have hd : ((pre ++ (ws.flatMap fun x => le x.toNat 4) ++ post).drop (pre.length + 4 * k)).take 4 = le (ws[k]).toNat 4 := by
      rw [List.append_assoc, ← List.drop_drop, List.drop_left]
      conv => lhs; rw [hsp]
      rw [List.flatMap_append, List.flatMap_cons]
      have hl : 4 * k = ((ws.take k).flatMap fun x => le x.toNat 4).length := by rw [hfl, List.length_take]; omega
      rw [List.append_assoc, hl, List.drop_left, List.append_assoc]
      have h4 : (le (ws[k]).toNat 4).length = 4 := le_length _ _
      exact List.take_left' h4
    have hx := hw ws[k] (List.getElem_mem hlt)
    rw [hd, leVal_le _ _ (by have : (256 : Nat) ^ 4 = 4294967296 := by decide
                             omega), List.take_succ_eq_append_getElem hlt]
    congr 2
    omega
theorem places_bound {l : List PR} (h : Good l l.length) : ∀ k, k ≤ l.length → ∀ x ∈ places l k, 0 ≤ x ∧ x < 4294967296
  | 0, _, x, hx => by simp [places] at hx
  | k + 1, hk, x, hx => by
    have ih := places_bound h k (by omega)
    simp only [places] at hx
    split at hx
    · rcases List.mem_append.1 hx with hx | hx
      · exact ih x hx
      · rw [List.mem_singleton.1 hx]
        have h1 := body_le l (show k ≤ l.length by omega)
        have h2 := body_fit h
        omega
    · exact ih x hx
theorem page_places {xs : List Int} {l : List PR} (h : IsPage xs l) : nums4 xs (endOf xs) (cntAt l.length) = places l l.length := by
  have he := page_end h
  obtain ⟨hg, rfl⟩ := h
  rw [he.2.2.2.2]
  have := nums4_flat (bodyAt l l.length) (le (cntAt l.length) 4) (places l l.length) (places_bound hg _ (Nat.le_refl _)) (cntAt l.length) (by rw [places_length]; exact Nat.le_refl _)
  rw [← whole_places] at this
  rw [show pageOf l = bodyAt l l.length ++ wholeAt l l.length ++ le (cntAt l.length) 4 from rfl, this, List.take_of_length_le (by rw [places_length]; exact Nat.le_refl _)]
theorem page_byte {l : List PR} (h1 : ∀ p ∈ l, Byte p.1 ∧ Byte p.2) : Byte (pageOf l) := by
  have hn : ∀ k, Byte (nmAt l k) ∧ Byte (vlAt l k) := by
    intro k
    unfold nmAt vlAt
    rw [List.getD_eq_getElem?_getD]
    cases hk : l[k]? with
    | none => exact ⟨fun x hx => by simp at hx, fun x hx => by simp at hx⟩
    | some p => exact h1 p (List.mem_of_getElem? hk)
  have hb : ∀ k, Byte (bodyAt l k) := by
    intro k
    induction k with
    | zero => intro x hx; simp [bodyAt] at hx
    | succ k ih =>
      simp only [bodyAt, rowOf]
      exact ih.append (((((show Byte (put7 _) from put7_byte _).append (put7_byte _)).append (put7_byte _)).append ((hn k).1.drop _)).append (hn k).2)
  have hw : ∀ k, Byte (wholeAt l k) := by
    intro k
    induction k with
    | zero => intro x hx; simp [wholeAt] at hx
    | succ k ih =>
      simp only [wholeAt]
      split
      · exact ih.append (le_byte _ _)
      · exact ih
  exact ((hb _).append (hw _)).append (le_byte _ _)
end Go.Proofs.Ytnkeijdpjcclcaa.Pg
-- PgE
/- The contracts of slices.Clone at bytes, (page.Page).All, page.Parse. -/
namespace Go.Proofs.Ytnkeijdpjcclcaa.Pg
set_option linter.unusedVariables false
set_option linter.unusedSimpArgs false
open Go.Proofs.Ytnkeijdpjcclcaa.Kit Go.Proofs.Ytnkeijdpjcclcaa.Num Go.RowKit Go.Proofs.YtnkeijdpjcclcaaW.PrintWords Go.Proofs.YtnkeijdpjcclcaaW.PrintLast Go.Proofs.YtnkeijdpjcclcaaW.PrintMore NumPure
theorem tb34 : SlTy Try.prog 34 3 (.int .i64 0) 8 := ⟨Try.underlying34, by kernel_rfl, rfl, by decide⟩
set_option maxRecDepth 20000 in
set_option maxHeartbeats 1600000 in
theorem clone_any (A : Option Addr) (n c : Nat) (xs : List Int) (w : World) (hr : Rds .u8 w A n xs) (hn : n ≤ 1000000) :
    Calls Try.prog 47 #[.slice A n c] w fun e w' => ∃ v, e = .returned v ∧ Gr .u8 5 w' w.heap.size v xs ∧ Below w.heap.size w w' := by
  have q := fun (w : World) (a : Option Addr) (n c n' c' : Nat) => Lib.run_eql_slice_nil (P := Try.prog) w _ _ a n c n' c' Try.underlying25
  have hxl := rds_len hr
  cases A with
  | none =>
    have h0 : n = 0 := by
      rcases Nat.eq_zero_or_pos n with h0 | h0
      · exact h0
      · obtain ⟨ad, h, _⟩ := rds_at 0 hr 0 h0
        cases h
    have hx : xs = [] := List.eq_nil_of_length_eq_zero (by omega)
    subst hx
    clear hr hxl
    go_enter Try.func47, Try.ntmps47
    go_wp2_with fail
    go_ret
    exact ⟨_, rfl, gr_nil _ _ _, Below.refl _ _⟩
  | some ad =>
    have hO := own_lit_ .u8 5 w w.heap.size [] 0 rfl (Nat.le_refl _) (by simp)
    have hb1 := below_alloc (Below.refl w.heap.size w) (.cells (nums .u8 []).toArray 5)
    have HO : Hid (Gr .u8 5 (w.alloc (.cells #[] 5)) w.heap.size (.slice (some ⟨w.heap.size, 0, none⟩) 0 0) []) := Lib.hid (.inl hO)
    have HB : Hid (Below w.heap.size w (w.alloc (.cells #[] 5))) := Lib.hid hb1
    have HR := Lib.hid (rds_below hr HB.out)
    clear hO hb1 hr
    go_enter Try.func47, Try.ntmps47
    go_wp2_with (at_builtin; refine gapp_row (h1 := int_one .u8) tb rfl (.tmp 5) (.tmp 6) rfl rfl rfl HO.out HR.out HB.out HB.out.size ?cL ?_; (case cL => simp; omega); intro v4 w4 ho hb3 hs1 hf; have HO4 := Lib.hid ho; have HB4 := Lib.hid hb3; clear ho hb3 hs1 hf)
    go_ret
    exact ⟨_, rfl, HO4.out, HB4.out⟩
/-- What All tells. -/
def AllPost (xs : List Int) (w : World) (e : Ending) (w' : World) : Prop := Below w.heap.size w w' ∧ ∃ v : Value, e = .returned v ∧
  ((∃ (a : Nat) (last : List Int) (ps : List PB), Chain xs 0 a last (nn ps) ∧ xs.length ≤ a ∧ OwnK encP 2 30 w' w.heap.size v ps) ∨
   (v = .slice none 0 0 ∧ ∃ (a : Nat) (last : List Int) (out : List PR), Chain xs 0 a last out ∧ a < xs.length ∧ oneP xs a last = none))
set_option maxRecDepth 20000 in
set_option maxHeartbeats 1600000 in
theorem all_any (Ab : Option Addr) (nb cb : Nat) (Aw : Option Addr) (nw cw : Nat) (xs : List Int) (w : World) (hr : Rds .u8 w Ab nb xs) (hb : Byte xs) (hnc : nb ≤ cb) (hn : nb ≤ 1000000) :
    Calls Try.prog 21 #[.agg #[.slice Ab nb cb, .slice Aw nw cw]] w (AllPost xs w) := by
  have hx1 : (w.alloc (.cells #[.slice Ab nb cb, .slice Aw nw cw] 36)).heap[w.heap.size]? = some (.cells #[.slice Ab nb cb, .slice Aw nw cw] 36 (0, 0)) := heap_alloc_new w _
  have hb1 : Below w.heap.size w (w.alloc (.cells #[.slice Ab nb cb, .slice Aw nw cw] 36)) := below_alloc (Below.refl _ _) _
  have C := Lib.hid (read_any Ab nb cb Aw nw cw xs 0 (w.alloc (.cells #[.slice Ab nb cb, .slice Aw nw cw] 36)) (rds_below hr hb1) hb hnc hn (Nat.zero_le _))
  have HX := Lib.hid hx1
  have HB := Lib.hid hb1
  clear hx1 hb1 hr hb
  go_enter Try.func21, Try.ntmps21
  go_wp2_with (first | (refine wpList_load_box rfl 36 (.tmp 1) rfl w.heap.size [.slice Ab nb cb, .slice Aw nw cw] rfl HX.out Try.underlying36 rfl info36 ?_) | fail)
  refine C.out.mono ?_
  rintro e w2 ⟨hb2, v, ex, rfl, hp⟩
  have HP := Lib.hid hp
  have HB2 := Lib.hid (below_then HB.out HB.out.size hb2)
  clear hp hb2 C
  go_wp2_with fail
  go_ret
  refine ⟨HB2.out, v, rfl, ?_⟩
  rcases HP.out with ⟨_, a, last, ps, h1, h2, h3⟩ | ⟨_, h1, h2⟩
  · exact .inl ⟨a, last, ps, h1, h2, ownk_lower h3 HB.out.size⟩
  · exact .inr ⟨h1, h2⟩
theorem built36 (A : Option Addr) (n c : Nat) : Try.prog.built 36 [(0, .slice A n c)] = some #[.slice A n c, .slice none 0 0] := by kernel_rfl
/-- A store of one cell in a region. -/
theorem ob_store_at {P : Program} {o : Oper} {x y : Operand} {ty : TypeId} {w : World} {dsts : List (Option Tmp)} {vs : Nat → Value} {a0 : Act} {R : Value → World → Prop} (l : List (Nat × Value)) {g i : Nat} {v : Value} {old : List Value} {t : TypeId} (hw : Wants o vs = true) (hv : Vs (rho dsts vs a0) l) (hc : covers o (l.map (·.1)) = true)
    (ho : o.op = .store ty x y) (hx : lk l x = .pointer (some ⟨g, i, none⟩)) (hy : lk l y = v) (hv1 : v.oneCell' = true) (hg : w.heap[g]? = some (.cells old.toArray t (0, 0))) (hl : i < old.length) (hi : (P.info? ty).map (·.size) = some 1)
    (hR : ∀ w', Set1 w g (.cells (old.set i v).toArray t (0, 0)) w' → R undef w') : Ob P dsts o vs a0 w R := by
  have hcl : w.cell? ⟨g, i, none⟩ = some old[i] := by simp [World.cell?, hg, hl]
  have hf : w.frozen? ⟨g, i, none⟩ = false := by simp [World.frozen?, hg]
  have hs1 : Set1 w g (.cells (old.set i v).toArray t (0, 0)) (w.setCell ⟨g, i, none⟩ v) := by
    rw [setCell_eq_setRow w g i old.toArray t (0, 0) v hg, show old.toArray.setIfInBounds i v = (old.set i v).toArray by simp]
    exact set1_row hg
  exact ob_store_cell l hw hv hc ho hx hy hv1 hcl hf hi (hR _ hs1)
theorem op_str_neq {P : Program} {o : Oper} {l : List (Nat × Value)} {x y : Operand} {t : TypeId} {m : Nat} {a b : ByteArray} {r : Bool} {w : World} (ho : o.op = .binOp .neq t x y m) (hx : lk l x = .string a) (hy : lk l y = .string b) (h : decide (¬ a = b) = r) : (execOp (lk l) o).run P w = .ok (.value (.bool r)) w := by
  by_cases hab : a = b
  · rw [← h, decide_eq_false (fun hn => hn hab)]; exact run_neq_same ho hx hy hab
  · rw [← h, decide_eq_true hab]
    have hne : a.toList ≠ b.toList := fun e => hab (numsOf_inj (by unfold numsOf; rw [e]))
    unfold execOp
    simp [ho, hx, hy, eqGuard, binOp, Op.stringOp, hne]
theorem op_str_eql {P : Program} {o : Oper} {l : List (Nat × Value)} {x y : Operand} {t : TypeId} {m : Nat} {a b : ByteArray} {r : Bool} {w : World} (ho : o.op = .binOp .eql t x y m) (hx : lk l x = .string a) (hy : lk l y = .string b) (h : decide (a = b) = r) : (execOp (lk l) o).run P w = .ok (.value (.bool r)) w := by
  by_cases hab : a = b
  · rw [← h, decide_eq_true hab]; exact run_eql_same ho hx hy hab
  · rw [← h, decide_eq_false hab]
    have hne : a.toList ≠ b.toList := fun e => hab (numsOf_inj (by unfold numsOf; rw [e]))
    unfold execOp
    simp [ho, hx, hy, eqGuard, binOp, Op.stringOp, hne]
theorem nn_byte (ps : List PB) : ∀ p ∈ nn ps, Byte p.1 ∧ Byte p.2 := by
  intro p hp
  obtain ⟨q, _, rfl⟩ := List.mem_map.1 hp
  exact ⟨numsOf_byte _, numsOf_byte _⟩
theorem info34 : (Try.prog.info? 34).map (·.size) = some 1 := by kernel_rfl
/-- What Parse tells. -/
def ParsePost (xs : List Int) (w : World) (e : Ending) (w' : World) : Prop := Below w.heap.size w w' ∧ ∃ (bv wv : Value) (ex : Nat), e = .returned (.tuple #[.agg #[bv, wv], .int .i64 ex]) ∧
  ((ex = 0 ∧ ∃ ps : List PB, IsPage xs (nn ps) ∧ Gr .u8 5 w' w.heap.size bv (bodyAt (nn ps) ps.length) ∧ Gr .i64 3 w' w.heap.size wv (places (nn ps) ps.length)) ∨
   (ex = 2 ∧ bv = .slice none 0 0 ∧ wv = .slice none 0 0 ∧ ∀ l, ¬ IsPage xs l))
theorem reg_19_4 : RegOk (opsOf Try.f19 4) [[], [], [1], [1, 2], [1, 2, 3], [1, 2, 3, 4], [0, 1, 2, 3, 4, 5]] [] [some 22, some 23, some 24, some 25, some 26, some 27, some 28] := regOk (by kernel_rfl)
theorem reg_19_6 : RegOk (opsOf Try.f19 6) [[], [0], [0, 1], [], [3], [3, 4], [0, 1, 2, 3, 4, 5], [0, 1, 2, 3, 4, 5, 6]] [] [some 30, some 31, some 32, some 33, some 34, some 35, some 36, some 5] := regOk (by kernel_rfl)
theorem reg_19_11 : RegOk (opsOf Try.f19 11) [[], [0], [], [], [], [4], [3, 4, 5], [], [], [8], [7, 8, 9], [7, 8, 9, 10], [2, 3, 4, 5, 6, 7, 8, 9, 10, 11], [2, 3, 4, 5, 6, 7, 8, 9, 10, 11, 12], [2, 3, 4, 5, 6, 7, 8, 9, 10, 11, 12, 13], [2, 3, 4, 5, 6, 7, 8, 9, 10, 11, 12, 13, 14], [0, 1, 2, 3, 4, 5, 6, 7, 8, 9, 10, 11, 12, 13, 14, 15], [0, 1, 2, 3, 4, 5, 6, 7, 8, 9, 10, 11, 12, 13, 14, 15, 16], [0, 1, 2, 3, 4, 5, 6, 7, 8, 9, 10, 11, 12, 13, 14, 15, 16, 17]] [16, 18] [some 47, some 48, some 49, some 50, some 51, some 52, some 53, some 54, some 55, some 56, some 57, some 58, some 59, some 60, some 61, some 62, some 63, some 64, none] := regOk (by kernel_rfl)
theorem reg_19_17 : RegOk (opsOf Try.f19 17) [[], [0], [0, 1], [0, 1, 2], [0, 1, 2, 3], [0, 1, 2], [0, 1, 2, 5], [0, 1, 2, 3, 4, 5, 6], [0, 1, 2, 3, 4, 5, 6, 7]] [] [some 80, some 81, some 82, some 83, some 84, some 85, some 86, some 87, some 88] := regOk (by kernel_rfl)
set_option maxRecDepth 20000 in
set_option maxHeartbeats 3200000 in
theorem parse_any (A : Option Addr) (n c : Nat) (xs : List Int) (w : World) (hr : Rds .u8 w A n xs) (hb : Byte xs) (hnc : n ≤ c) (hn : n ≤ 1000000) :
    Calls Try.prog 19 #[.slice A n c] w (ParsePost xs w) := by
  have hxl := rds_len hr
  have HXL := Lib.hid hxl
  have HBT := Lib.hid hb
  go_enter Try.func19, Try.ntmps19
  go_upto_region 1 with fail
  have hx1 : (w.alloc (.cells #[.slice none 0 0, .slice none 0 0] 36)).heap[w.heap.size]? = some (.cells #[.slice none 0 0, .slice none 0 0] 36 (0, 0)) := heap_alloc_new w _
  have hb1 : Below w.heap.size w (w.alloc (.cells #[.slice none 0 0, .slice none 0 0] 36)) := below_alloc (Below.refl _ _) _
  have HX1 := Lib.hid hx1
  have HB1 := Lib.hid hb1
  have HR := Lib.hid hr
  clear hx1 hb1 hr hb hxl
  generalize w.alloc (.cells #[.slice none 0 0, .slice none 0 0] 36) = w1 at HX1 HB1 ⊢
  by_cases h4 : n < 4
  · have t0 : decide ((n : Int) < 4) = true := decide_eq_true (by omega)
    have HN : Hid (∀ l, ¬ IsPage xs l) := Lib.hid (no_short (by rw [HXL.out]; exact h4))
    clear h4
    go_wp2_with (first | (refine wpList_store_box rfl 36 (.tmp 2) (.tmp 15) rfl w.heap.size [.slice none 0 0, .slice none 0 0] rfl rfl HX1.out rfl info36 rfl ?_; intro w5 hs5; have HS5 := Lib.hid hs5; clear hs5) | fail)
    (try simp only [Exit.inBlock, Exit.then])
    refine bodyPost_ret (results_box_tmp rfl rfl (loadVar_box HS5.out.at_ Try.underlying36 rfl info36)) rfl ?_
    exact ⟨HS5.out.then_ HB1.out (Nat.le_refl _), _, _, 2, rfl, .inr ⟨rfl, rfl, rfl, HN.out⟩⟩
  · have t0 : decide ((n : Int) < 4) = false := decide_eq_false (by omega)
    have hw4 : IntKind.i64.wrap ((n : Int) - 4) = ((n - 4 : Nat) : Int) := by rw [i64_id (by omega) (by omega)]; omega
    obtain ⟨A2, hcut, hC⟩ := cut_from (enc := Value.int .u8) (h1 := int_one .u8) 0 tb A n c (n - 4) 4 (by omega) hnc ((n - 4 : Nat) : Int) rfl
    have hl4 : (xs.drop (n - 4)).length = 4 := by rw [List.length_drop, HXL.out]; omega
    have hcl := little_val A2 4 (c - (n - 4)) _ w1 (hC w1 _ (rds_below HR.out HB1.out)) hl4 (by omega) (HBT.out.drop (n - 4))
    rw [List.take_of_length_le (by rw [hl4]; omega)] at hcl
    have hN := leVal_lt (HBT.out.drop (n - 4))
    rw [hl4] at hN
    have CL := Lib.hid hcl
    have hlv : leVal (xs.drop (xs.length - 4)) = leVal (xs.drop (n - 4)) := by rw [HXL.out]
    have HLV := Lib.hid hlv
    clear hcl hlv hC
    generalize leVal (xs.drop (n - 4)) = N at CL hN HLV
    have hN2 : N < 4294967296 := hN
    clear hN
    go_upto_region 4 with fail
    refine CL.out.mono ?_
    rintro e w' ⟨rfl, rfl⟩
    clear CL
    obtain ⟨F, hF⟩ : ∃ F, decide (((N : Nat) : Int) > (((n - 4) / 4 : Nat) : Int)) = F := ⟨_, rfl⟩
    have HF := Lib.hid hF
    clear hF
    go_upto_region 4 with fail
    refine plain_ (fun wq => Below w1.heap.size w1 wq) (fun _ => True) reg_19_4 rfl inv0 (fun _ _ _ _ => trivial) (Below.refl _ _) trivial ?_
    refine w_move (.inl rfl) (fun vs w hK => ⟨wants_none rfl, rho_out rfl rfl⟩) ?_
    refine w_move (.inl rfl) (fun vs w hK => ⟨wants_none rfl, rho_out rfl rfl⟩) ?_
    refine w_val [(23, _)] (_) (fun vs w hK => ⟨wants_none rfl, rho_in rfl (fv (hK 1 (memE rfl))), trivial⟩) rfl (fun wq hI => by exact run_len_sl rfl Try.underlying25 rfl rfl) ?_
    refine w_val [(24, _)] (_) (fun vs w hK => ⟨wants_none rfl, rho_in rfl (fv (hK 2 (memE rfl))), trivial⟩) rfl (fun wq hI => by exact run_int_sub (c := ((n - 4 : Nat) : Int)) rfl rfl rfl hw4) ?_
    refine w_val [(25, _)] (_) (fun vs w hK => ⟨wants_none rfl, rho_in rfl (fv (hK 3 (memE rfl))), trivial⟩) rfl (fun wq hI => by exact op_conv_int rfl Try.underlying3 Try.underlying32 rfl (u64_nat (n - 4) (by omega))) ?_
    refine w_val [(26, _)] (_) (fun vs w hK => ⟨wants_none rfl, rho_in rfl (fv (hK 4 (memE rfl))), trivial⟩) rfl (fun wq hI => by exact op_quo (c := (((n - 4) / 4 : Nat) : Int)) rfl rfl rfl (by decide) (by show IntKind.u64.wrap (Int.tdiv ((n - 4 : Nat) : Int) ((4 : Nat) : Int)) = _; rw [quo_nat]; exact u64_nat _ (by omega))) ?_
    refine w_val [(22, _), (27, _)] (_) (fun vs w hK => ⟨wants_none rfl, rho_in rfl (fv (hK 0 (memE rfl))), rho_in rfl (fv (hK 5 (memE rfl))), trivial⟩) rfl (fun wq hI => by exact run_int_gtr (r := F) rfl rfl rfl HF.out) ?_
    refine w_end rfl rfl rfl (fun vs wq hI hF => ?_)
    simp only [List.reverse_cons, List.reverse_nil, List.nil_append, List.cons_append, finL_val, finL_of, finL_any, finL_app, finL_new, finL_gr, finL_row, finL_box, finL_nil, Act.put, List.setIfInBounds_toArray, List.set_cons_zero, List.set_cons_succ, Nat.reduceAdd]
    have HX2 := Lib.hid (box_stays HX1.out hI)
    have HW2 := Lib.hid (below_then HB1.out HB1.out.size hI)
    clear hI hF HX1 HB1
    obtain ⟨w2, rfl⟩ : ∃ w2 : World, w2 = wq := ⟨_, rfl⟩
    cases F with
    | true =>
      have hgt : (n - 4) / 4 < N := by have := of_decide_eq_true HF.out; omega
      have HN : Hid (∀ l, ¬ IsPage xs l) := Lib.hid (no_count (by rw [HLV.out, HXL.out]; exact hgt))
      clear hgt
      go_wp2_with (first | (refine wpList_store_box rfl 36 (.tmp 2) (.tmp 29) rfl w.heap.size [.slice none 0 0, .slice none 0 0] rfl rfl HX2.out rfl info36 rfl ?_; intro w5 hs5; have HS5 := Lib.hid hs5; clear hs5) | fail)
      (try simp only [Exit.inBlock, Exit.then])
      refine bodyPost_ret (results_box_tmp rfl rfl (loadVar_box HS5.out.at_ Try.underlying36 rfl info36)) rfl ?_
      exact ⟨HS5.out.then_ HW2.out (Nat.le_refl _), _, _, 2, rfl, .inr ⟨rfl, rfl, rfl, HN.out⟩⟩
    | false =>
    have hNl : N ≤ (n - 4) / 4 := by have := of_decide_eq_false HF.out; omega
    obtain ⟨E, hE⟩ : ∃ E, n - 4 - 4 * N = E := ⟨_, rfl⟩
    have HE : Hid (endOf xs = E) := Lib.hid (by unfold endOf; rw [HLV.out, HXL.out]; exact hE)
    have hEN : E + 4 * N + 4 = n := by omega
    clear HF
    go_upto_region 6 with fail
    refine plain_ (fun wq => Below w2.heap.size w2 wq) (fun _ => True) reg_19_6 rfl inv0 (fun _ _ _ _ => trivial) (Below.refl _ _) trivial ?_
    refine w_move (.inl rfl) (fun vs w hK => ⟨wants_none rfl, rho_out rfl rfl⟩) ?_
    refine w_val [(30, _)] (_) (fun vs w hK => ⟨wants_none rfl, rho_in rfl (fv (hK 0 (memE rfl))), trivial⟩) rfl (fun wq hI => by exact run_len_sl rfl Try.underlying25 rfl rfl) ?_
    refine w_val [(31, _)] (_) (fun vs w hK => ⟨wants_none rfl, rho_in rfl (fv (hK 1 (memE rfl))), trivial⟩) rfl (fun wq hI => by exact run_int_sub (c := ((n - 4 : Nat) : Int)) rfl rfl rfl hw4) ?_
    refine w_move (.inl rfl) (fun vs w hK => ⟨wants_none rfl, rho_out rfl rfl⟩) ?_
    refine w_val [(33, _)] (_) (fun vs w hK => ⟨wants_none rfl, rho_in rfl (fv (hK 3 (memE rfl))), trivial⟩) rfl (fun wq hI => by exact op_conv_int rfl Try.underlying32 Try.underlying3 rfl (i64_id (x := (N : Int)) (by omega) (by omega))) ?_
    refine w_val [(34, _)] (_) (fun vs w hK => ⟨wants_none rfl, rho_in rfl (fv (hK 4 (memE rfl))), trivial⟩) rfl (fun wq hI => by exact op_mul (c := ((4 * N : Nat) : Int)) rfl rfl rfl (by rw [i64_id (by omega) (by omega)]; omega)) ?_
    refine w_val [(32, _), (35, _)] (_) (fun vs w hK => ⟨wants_none rfl, rho_in rfl (fv (hK 2 (memE rfl))), rho_in rfl (fv (hK 5 (memE rfl))), trivial⟩) rfl (fun wq hI => by exact run_int_sub (c := ((E : Nat) : Int)) rfl rfl rfl (by rw [i64_id (by omega) (by omega)]; omega)) ?_
    refine w_move (.inr rfl) (fun vs w hK => ⟨wants_none rfl, rho_in rfl (fv (hK 6 (memE rfl)))⟩) ?_
    refine w_end rfl rfl rfl (fun vs wq hI hF => ?_)
    simp only [List.reverse_cons, List.reverse_nil, List.nil_append, List.cons_append, finL_val, finL_of, finL_any, finL_app, finL_new, finL_gr, finL_row, finL_box, finL_nil, Act.put, List.setIfInBounds_toArray, List.set_cons_zero, List.set_cons_succ, Nat.reduceAdd]
    have HX3 := Lib.hid (box_stays HX2.out hI)
    have HW3 := Lib.hid (below_then HW2.out HW2.out.size hI)
    have hwz : w.heap.size < wq.heap.size := mk_lt HX3.out
    clear hI hF HX2 HW2
    obtain ⟨w3, rfl⟩ : ∃ w3 : World, w3 = wq := ⟨_, rfl⟩
    obtain ⟨hcut2, hC2⟩ := cut_to (enc := Value.int .u8) (h1 := int_one .u8) 0 tb A n c E (by omega) hnc (E : Int) rfl
    have CC := Lib.hid (clone_any A E c (xs.take E) w3 (hC2 w3 xs (rds_below HR.out HW3.out)) (by omega))
    clear hC2
    go_wp2_with fail
    refine CC.out.mono ?_
    rintro e w4 ⟨bv, rfl, ho4, hb4⟩
    obtain ⟨Ab, nb, cb, rfl, hbc, HLb, hbm, hrb⟩ := gr_open ho4
    have HRB := Lib.hid hrb
    clear hrb
    have hnb : nb = E := by rw [← HLb.out, List.length_take, HXL.out]; omega
    subst hnb
    have HO4 := Lib.hid ho4
    have HX4 := Lib.hid (box_stays HX3.out hb4)
    have HW4 := Lib.hid (below_then HW3.out HW3.out.size hb4)
    have hwz4 : w3.heap.size ≤ w4.heap.size := hb4.size
    clear ho4 hb4 HX3 HW3 CC hcut2 HLb
    have hwN : IntKind.i64.wrap (N : Int) = (N : Int) := i64_id (by omega) (by omega)
    go_upto_region 8 with (first
      | (refine wpList_build_as rfl 36 #[(0, .tmp 40)] rfl #[.slice Ab nb cb, .slice none 0 0] [(0, .slice Ab nb cb)] rfl (built36 Ab nb cb) ?_)
      | (refine wpList_store_box rfl 36 (.tmp 6) (.tmp 41) rfl w4.heap.size [.slice Ab nb cb, .slice none 0 0] rfl rfl (heap_alloc_new w4 _) rfl info36 rfl ?_; intro w5 hs5; have HS5 := Lib.hid hs5; clear hs5))
    have HP5 := Lib.hid HS5.out.at_
    have HB5 : Hid (Below w4.heap.size w4 w5) := Lib.hid (HS5.out.then_ (below_alloc (Below.refl _ _) _) (Nat.le_refl _))
    clear HS5
    generalize hBp : w4.heap.size = Bp at HP5 hwz4 ⊢
    have HBP := Lib.hid hBp
    have HB5' : Hid (Below w4.heap.size w4 w5) := HB5
    clear hBp HB5
    go_wp2_with fail
    go_loopw [44] (fun i wr => ∃ (k : Nat) (wv : Value), k ≤ N ∧ i = .int .i64 k ∧ Hid (wr.heap[Bp]? = some (.cells [Value.slice Ab nb cb, wv].toArray 36 (0, 0))) ∧ Hid (Gr .i64 3 wr (Bp + 1) wv (nums4 xs nb k)) ∧ Hid (Below w4.heap.size w4 wr)) (fun i _ => N - (intOf i).toNat)
    case atStart => exact ⟨0, _, by omega, rfl, HP5, Lib.hid (gr_nil _ _ _), HB5'⟩
    case round =>
      obtain ⟨k, wv, hk, rfl, HP, HG, HB⟩ := hrel
      by_cases hlt : k < N
      · have t1 : decide ((k : Int) < (N : Int)) = true := decide_eq_true (by omega)
        obtain ⟨A5, hcut5, hC5⟩ := cut_mid (enc := Value.int .u8) (h1 := int_one .u8) 0 tb A n c (nb + 4 * k) (nb + 4 * k + 4) 4 (by omega) (by omega) hnc ((nb + 4 * k : Nat) : Int) ((nb + 4 * k + 4 : Nat) : Int) rfl rfl
        have e5 : (xs.take (nb + 4 * k + 4)).drop (nb + 4 * k) = (xs.drop (nb + 4 * k)).take 4 := by rw [List.drop_take]; congr 1; omega
        have hl5 : ((xs.drop (nb + 4 * k)).take 4).length = 4 := by rw [List.length_take, List.length_drop, HXL.out]; omega
        have HCL := Lib.hid (fun wq (h : Below w4.heap.size w4 wq) => pureB (little_val A5 4 (c - (nb + 4 * k)) ((xs.drop (nb + 4 * k)).take 4) wq (by have := hC5 wq xs (rds_below HR.out (below_then HW4.out HW4.out.size h)); rwa [e5] at this) hl5 (by omega) ((HBT.out.drop _).take 4)))
        rw [List.take_of_length_le (by rw [hl5]; omega)] at HCL
        have hV := leVal_lt ((HBT.out.drop (nb + 4 * k)).take 4)
        rw [hl5] at hV
        have HSU : Hid (nums4 xs nb (k + 1) = nums4 xs nb k ++ [((leVal ((xs.drop (nb + 4 * k)).take 4) : Nat) : Int)]) := Lib.hid rfl
        have hnl := nums4_length xs nb k
        generalize leVal ((xs.drop (nb + 4 * k)).take 4) = V at HCL hV HSU
        generalize nums4 xs nb k = ws at HG HSU hnl
        have hV2 : V < 4294967296 := hV
        have HCU := Lib.hid hcut5
        clear hV hC5 e5 hl5 hcut5
        go_upto_region 11 with fail
        refine draws_ (fun W => Below w4.heap.size w4 W) (fun W => W.heap[Bp]? = some (.cells [Value.slice Ab nb cb, wv].toArray 36 (0, 0)) ∧ Gr .i64 3 W (Bp + 1) wv ws) (by kernel_rfl) reg_19_11 rfl (fun _ _ h k => below_then h h.size k) (fun W W' h k => ⟨box_stays h.1 k, gr_below h.2 k⟩) (below_drew HB.out) ⟨HP.out, gr_below HG.out (below_drew (Below.refl _ _))⟩ ?_
        refine w_val [(6, _)] _ (fun vs w hK => ⟨wants_none rfl, rho_out rfl rfl, trivial⟩) rfl (fun wq hI => by simp only [execOp, Option.map_some, Option.map_none, lk_tmp, lk_const, lkT_cons, ↓reduceIte, Nat.reduceEqDiff]; go_simp; (first | done | rfl)) ?_
        refine w_anyJ (.val wv) (by decide) (fun vs wq hI hJ hK => ?_) ?_
        · have hA := hJ (by decide)
          exact ob_run [(47, .pointer (some ⟨Bp, 1, none⟩))] (wants_none rfl) ⟨rho_in rfl (fv (hK 0 (memE rfl))), trivial⟩ rfl (run_load_cell (ad := ⟨Bp, 1, none⟩) rfl rfl rfl Try.underlying34 rfl (by simp [World.cell?, hA.1])) ⟨Below.refl _ _, rfl⟩
        refine w_move (.inl rfl) (fun vs w hK => ⟨wants_none rfl, rho_out rfl rfl⟩) ?_
        refine w_move (.inl rfl) (fun vs w hK => ⟨wants_none rfl, rho_out rfl rfl⟩) ?_
        refine w_move (.inl rfl) (fun vs w hK => ⟨wants_none rfl, rho_out rfl rfl⟩) ?_
        refine w_val [(51, _)] (_) (fun vs w hK => ⟨wants_none rfl, rho_in rfl (fv (hK 4 (memE rfl))), trivial⟩) rfl (fun wq hI => by exact op_mul (c := ((4 * k : Nat) : Int)) rfl rfl rfl (by rw [i64_id (by omega) (by omega)]; omega)) ?_
        refine w_val [(50, _), (52, _)] (_) (fun vs w hK => ⟨wants_none rfl, rho_in rfl (fv (hK 3 (memE rfl))), rho_in rfl (fv (hK 5 (memE rfl))), trivial⟩) rfl (fun wq hI => by exact run_int_add (c := ((nb + 4 * k : Nat) : Int)) rfl rfl rfl (by rw [i64_id (by omega) (by omega)]; omega)) ?_
        refine w_move (.inl rfl) (fun vs w hK => ⟨wants_none rfl, rho_out rfl rfl⟩) ?_
        refine w_move (.inl rfl) (fun vs w hK => ⟨wants_none rfl, rho_out rfl rfl⟩) ?_
        refine w_val [(55, _)] (_) (fun vs w hK => ⟨wants_none rfl, rho_in rfl (fv (hK 8 (memE rfl))), trivial⟩) rfl (fun wq hI => by exact op_mul (c := ((4 * k : Nat) : Int)) rfl rfl rfl (by rw [i64_id (by omega) (by omega)]; omega)) ?_
        refine w_val [(54, _), (56, _)] (_) (fun vs w hK => ⟨wants_none rfl, rho_in rfl (fv (hK 7 (memE rfl))), rho_in rfl (fv (hK 9 (memE rfl))), trivial⟩) rfl (fun wq hI => by exact run_int_add (c := ((nb + 4 * k : Nat) : Int)) rfl rfl rfl (by rw [i64_id (by omega) (by omega)]; omega)) ?_
        refine w_val [(57, _)] (_) (fun vs w hK => ⟨wants_none rfl, rho_in rfl (fv (hK 10 (memE rfl))), trivial⟩) rfl (fun wq hI => by exact run_int_add (c := ((nb + 4 * k + 4 : Nat) : Int)) rfl rfl rfl (by rw [i64_id (by omega) (by omega)]; omega)) ?_
        refine w_val [(49, _), (53, _), (58, _)] (_) (fun vs w hK => ⟨wants_none rfl, rho_in rfl (fv (hK 2 (memE rfl))), rho_in rfl (fv (hK 6 (memE rfl))), rho_in rfl (fv (hK 11 (memE rfl))), trivial⟩) rfl (fun wq hI => by exact run_slice_op rfl rfl (HCU.out wq)) ?_
        refine w_call [(59, _)] _ _ (by decide) (fun vs w hK => ⟨wants_none rfl, rho_in rfl (fv (hK 12 (memE rfl))), trivial⟩) rfl rfl Try.func22 (by kernel_rfl) rfl (fun wq hI => HCL.out wq hI) (margs rfl) ?_
        refine w_val [(60, _)] (_) (fun vs w hK => ⟨wants_none rfl, rho_in rfl (fv (hK 13 (memE rfl))), trivial⟩) rfl (fun wq hI => by exact op_conv_int rfl Try.underlying32 Try.underlying3 rfl (i64_id (x := (V : Int)) (by omega) (by omega))) ?_
        refine w_lit (by decide) [(61, _)] .i64 [((V : Nat) : Int)] _ tb34 (fun vs w hK => ⟨wants_none rfl, rho_in rfl (fv (hK 14 (memE rfl))), trivial⟩) rfl rfl rfl (by decide) (by decide) rfl ?_
        refine w_lin (FW.of (fun v W => Gr .i64 3 W (Bp + 1) v (ws ++ [((V : Nat) : Int)]) ∧ W.heap[Bp]? = some (.cells [Value.slice Ab nb cb, wv].toArray 36 (0, 0))) (fun _ _ _ h hb => ⟨gr_below h.1 hb, box_stays h.2 hb⟩)) (by decide) (fun vs wq hI hJ hK => ?_) ?_
        · have hA := hJ (by decide) (by decide)
          obtain ⟨A6, n6, c6, e6, h6c, HL6, h6m, hr6⟩ : IsRow .i64 [((V : Nat) : Int)] (vs 15) wq := hK 15 (memE rfl)
          obtain rfl : n6 = 1 := HL6.out.symm
          obtain ⟨v1, w6, hrun, hA1⟩ := gr_run (c := c6) tb34 34 hA.2 hr6 (by have := mk_lt hA.1; omega) (by rw [hnl]; omega)
          exact ob_run [(48, _), (62, _)] (wants_none rfl) ⟨rho_in rfl (fv (hK 1 (memE rfl))), rho_in rfl e6, trivial⟩ rfl (run_append_op rfl rfl rfl hrun) ⟨hI.grown hA1.fr.grown hI.size (fun j hj => by have := gr_base hA.2 j hj; have := HBP.out; omega), hA1.own, by rw [hA1.fr.grown.block Bp (mk_lt hA.1) (fun h => by have := gr_base hA.2 Bp h.symm; omega)]; exact hA.1⟩
        refine w_val [(6, _)] _ (fun vs w hK => ⟨wants_none rfl, rho_out rfl rfl, trivial⟩) rfl (fun wq hI => by simp only [execOp, Option.map_some, Option.map_none, lk_tmp, lk_const, lkT_cons, ↓reduceIte, Nat.reduceEqDiff]; go_simp; (first | done | rfl)) ?_
        refine w_lin (FW.of (fun _ W => ∃ v, W.heap[Bp]? = some (.cells [Value.slice Ab nb cb, v].toArray 36 (0, 0)) ∧ Gr .i64 3 W (Bp + 1) v (ws ++ [((V : Nat) : Int)])) (fun _ _ _ h hb => h.elim fun v h => ⟨v, box_stays h.1 hb, gr_below h.2 hb⟩)) (by decide) (fun vs wq hI hJ hK => ?_) ?_
        · obtain ⟨hA1, hA2⟩ : Gr .i64 3 wq (Bp + 1) (vs 16) (ws ++ [((V : Nat) : Int)]) ∧ wq.heap[Bp]? = some (.cells [Value.slice Ab nb cb, wv].toArray 36 (0, 0)) := hK 16 (memE rfl)
          obtain ⟨A7, n7, c7, e7, _⟩ := gr_open hA1
          exact ob_store_at (g := Bp) (i := 1) (v := vs 16) [(64, .pointer (some ⟨Bp, 1, none⟩)), (63, vs 16)] (wants_none rfl) ⟨rho_in rfl (fv (hK 17 (memE rfl))), rho_in rfl rfl, trivial⟩ rfl rfl rfl rfl (by rw [e7]; rfl) hA2 (by simp) info34 (fun w' hs => ⟨hs.then_ hI (by have := HBP.out; omega), _, hs.at_, hs.gr hA1 (fun h => by have := gr_base hA1 Bp h; omega)⟩)
        refine w_end rfl rfl rfl (fun vs wq hI hF => ?_)
        simp only [List.reverse_cons, List.reverse_nil, List.nil_append, List.cons_append, finL_val, finL_of, finL_any, finL_app, finL_new, finL_gr, finL_row, finL_box, finL_nil, Act.put, List.setIfInBounds_toArray, List.set_cons_zero, List.set_cons_succ, Nat.reduceAdd]
        obtain ⟨v7, hv7, hg7⟩ : ∃ v, wq.heap[Bp]? = some (.cells [Value.slice Ab nb cb, v].toArray 36 (0, 0)) ∧ Gr .i64 3 wq (Bp + 1) v (ws ++ [((V : Nat) : Int)]) := hF 18 (by decide) rfl
        have HP7 := Lib.hid hv7
        have HG7 := Lib.hid hg7
        have HB7 := Lib.hid hI
        clear hI hF hv7 hg7 HP HG HB
        go_wp2_with fail
        go_roundw
        case rel => exact ⟨k + 1, v7, by omega, by go_num, HP7, Lib.hid (by rw [HSU.out]; exact HG7.out), HB7⟩
        case measure => simp [intOf]; omega
      · obtain rfl : k = N := by omega
        have t1 : decide ((k : Int) < (k : Int)) = false := by simp
        obtain ⟨Aw, nw, cw, rfl, hwc, HLw, hwm, _⟩ := gr_open HG.out
        have HW6 := Lib.hid (below_then HW4.out HW4.out.size HB.out)
        have HX6 := Lib.hid (box_stays HX4.out HB.out)
        have HO6 := Lib.hid (gr_below HO4.out HB.out)
        have C := Lib.hid (read_any Ab nb cb Aw nw cw (xs.take nb) 0 wr (rds_below HRB.out HB.out) (HBT.out.take nb) hbc (by omega) (Nat.zero_le _))
        clear HX4 HO4 HW4 HB HP5 HB5' HRB
        go_wp2_with (first | (refine wpList_load_box rfl 36 (.tmp 6) rfl Bp [.slice Ab nb cb, .slice Aw nw cw] rfl HP.out Try.underlying36 rfl info36 ?_) | fail)
        refine C.out.mono ?_
        rintro e w6 ⟨hb6, pv, ex, rfl, hpost⟩
        have HW7 := Lib.hid (below_then HW6.out HW6.out.size hb6)
        have HX7 := Lib.hid (box_stays HX6.out hb6)
        have HO7 := Lib.hid (gr_below HO6.out hb6)
        have HP7 := Lib.hid (box_stays HP.out hb6)
        have HG7 := Lib.hid (gr_below HG.out hb6)
        have hxt : (xs.take nb).length = nb := by rw [List.length_take, HXL.out]; omega
        clear hb6 HW6 HX6 HO6 HP HG C
        rcases hpost with ⟨rfl, a, last, ps, hch, hal, hown⟩ | ⟨rfl, rfl, a, last, out, hch, hal, hno⟩
        · have hcl := chain_le hch (Nat.zero_le _)
          have hpl : 3 * ps.length ≤ nb := by have := hcl.2.1; rw [nn_length] at this; have := hcl.1; omega
          have hsz : ∀ p ∈ ps, p.1.size ≤ 1000000 ∧ p.2.size ≤ 1000000 := by
            intro p hp
            have := hcl.2.2.2 (numsOf p.1, numsOf p.2) (List.mem_map.2 ⟨p, hp, rfl⟩)
            rw [numsOf_length, numsOf_length] at this
            omega
          obtain ⟨Ap, np, cp, rfl, hpc, HLp, hpm, hsts⟩ := ownk_open encP_len hown
          have hnp : ps.length = np := HLp.out
          have CM := Lib.hid (make_any Ap np cp ps w6 hsts (by omega) hsz)
          have HCH := Lib.hid hch
          have HAL := Lib.hid hal
          clear hcl hsz hsts hown hch hal
          go_wp2_with fail
          refine CM.out.mono ?_
          rintro e w7 ⟨hb7, cv, ex, rfl, hpost⟩
          have HW8 := Lib.hid (below_then HW7.out HW7.out.size hb7)
          have HX8 := Lib.hid (box_stays HX7.out hb7)
          have HO8 := Lib.hid (gr_below HO7.out hb7)
          have HP8 := Lib.hid (box_stays HP7.out hb7)
          have HG8 := Lib.hid (gr_below HG7.out hb7)
          clear hb7 HW7 HX7 HO7 HP7 HG7 CM
          rcases hpost with ⟨rfl, hgood, hgr⟩ | hbad
          · obtain ⟨Ac, nc, cc, rfl, hcc, HLc, hcm, hrc⟩ := gr_open hgr
            have HRC := Lib.hid hrc
            have HGD := Lib.hid hgood
            obtain ⟨G, hG⟩ : ∃ G, decide (¬ strOfNums (pageOf (nn ps)) = strOfNums xs) = G := ⟨_, rfl⟩
            have HGG := Lib.hid hG
            have HRX := Lib.hid (rds_below HR.out HW8.out)
            clear hrc hgr hgood hG
            go_upto_region 17 with fail
            refine plain_ (fun wq => Below w7.heap.size w7 wq) (fun _ => True) reg_19_17 rfl inv0 (fun _ _ _ _ => trivial) (Below.refl _ _) trivial ?_
            refine w_move (.inl rfl) (fun vs w hK => ⟨wants_none rfl, rho_out rfl rfl⟩) ?_
            refine w_val [(80, _)] (_) (fun vs w hK => ⟨wants_none rfl, rho_in rfl (fv (hK 0 (memE rfl))), trivial⟩) rfl (fun wq hI => by exact run_int_neq (r := false) rfl rfl rfl rfl) ?_
            refine w_move (.inl rfl) (fun vs w hK => ⟨wants_none rfl, rho_in rfl (fv (hK 1 (memE rfl)))⟩) ?_
            refine w_moveG (.inl rfl) (fun vs w hK => wantsF rfl (fv (hK 2 (memE rfl)))) (fun hG vs w hK => (rho_out rfl rfl)) ?_
            refine w_valG [(83, _)] (_) (fun vs w hK => wantsF rfl (fv (hK 2 (memE rfl)))) (fun hG vs w hK => ⟨(rho_in rfl (fvg (hK 3 (memE rfl)) hG)), trivial⟩) rfl (fun hG wq hI => by exact run_conv_op rfl rfl (conv_rds (dst := 9) tb Try.underlying5 Try.underlying9 (rds_below HRC.out hI))) ?_
            refine w_moveG (.inl rfl) (fun vs w hK => wantsF rfl (fv (hK 2 (memE rfl)))) (fun hG vs w hK => (rho_out rfl rfl)) ?_
            refine w_valG [(85, _)] (_) (fun vs w hK => wantsF rfl (fv (hK 2 (memE rfl)))) (fun hG vs w hK => ⟨(rho_in rfl (fvg (hK 5 (memE rfl)) hG)), trivial⟩) rfl (fun hG wq hI => by exact run_conv_op rfl rfl (conv_rds (dst := 9) tb Try.underlying5 Try.underlying9 (rds_below HRX.out hI))) ?_
            refine w_valG [(84, _), (86, _)] (_) (fun vs w hK => wantsF rfl (fv (hK 2 (memE rfl)))) (fun hG vs w hK => ⟨(rho_in rfl (fvg (hK 4 (memE rfl)) hG)), (rho_in rfl (fvg (hK 6 (memE rfl)) hG)), trivial⟩) rfl (fun hG wq hI => by exact op_str_neq rfl rfl rfl HGG.out) ?_
            refine w_or rfl (fun vs w hK => wants_none rfl) (fun vs w hK => (rho_in rfl (fv (hK 2 (memE rfl))))) (fun hB vs w hK => (rho_in rfl (fvg (hK 7 (memE rfl)) (gnot hB)))) ?_
            refine w_as (c' := .bool G) (congrArg Value.bool (Bool.false_or G)) ?_
            refine w_endM [false, false, false, false, false, false, false, false, true] rfl rfl rfl (fun vs wq hI hF => ?_)
            simp only [List.reverse_cons, List.reverse_nil, List.nil_append, List.cons_append, finL_val, finL_of, finL_any, finL_app, finL_new, finL_gr, finL_row, finL_box, finL_nil, Act.put, List.setIfInBounds_toArray, List.set_cons_zero, List.set_cons_succ, Nat.reduceAdd, maskF, finL_imp, Bool.not_false, Bool.not_true, Bool.true_and, Bool.false_and]
            have HW9 := Lib.hid (below_then HW8.out HW8.out.size hI)
            have HX9 := Lib.hid (box_stays HX8.out hI)
            have HO9 := Lib.hid (gr_below HO8.out hI)
            have HP9 := Lib.hid (box_stays HP8.out hI)
            have HG9 := Lib.hid (gr_below HG8.out hI)
            clear hI hF HW8 HX8 HO8 HP8 HG8 HRC HRX
            obtain ⟨w8, rfl⟩ : ∃ w8 : World, w8 = wq := ⟨_, rfl⟩
            cases G with
            | true =>
              have HN : Hid (∀ l, ¬ IsPage xs l) := Lib.hid (no_made (by rw [HE.out]; exact HCH.out) (by rw [HE.out]; exact HAL.out) (fun h => of_decide_eq_true HGG.out (by rw [h.2])))
              go_wp2_with (first | (refine wpList_store_box rfl 36 (.tmp 2) (.tmp 89) rfl w.heap.size [.slice none 0 0, .slice none 0 0] rfl rfl HX9.out rfl info36 rfl ?_; intro w9 hs9; have HS9 := Lib.hid hs9; clear hs9) | fail)
              (try simp only [Exit.inBlock, Exit.then])
              refine bodyPost_ret (results_box_tmp rfl rfl (loadVar_box HS9.out.at_ Try.underlying36 rfl info36)) rfl ?_
              exact ⟨HS9.out.then_ HW9.out (Nat.le_refl _), _, _, 2, rfl, .inr ⟨rfl, rfl, rfl, HN.out⟩⟩
            | false =>
              have hse : strOfNums (pageOf (nn ps)) = strOfNums xs := Decidable.of_not_not (of_decide_eq_false HGG.out)
              have hpe : pageOf (nn ps) = xs := by
                have := congrArg numsOf hse
                rwa [numsOf_strOfNums _ (page_byte (nn_byte ps)), numsOf_strOfNums _ HBT.out] at this
              have hip : IsPage xs (nn ps) := ⟨HGD.out, hpe⟩
              have hpend := page_end hip
              have e1 : xs.take nb = bodyAt (nn ps) ps.length := by have := hpend.2.2.2.1; rwa [HE.out, nn_length] at this
              have e2 : nums4 xs nb k = places (nn ps) ps.length := by
                have h1 := page_places hip
                rw [HE.out] at h1
                have h2 := hpend.2.1
                rw [HLV.out] at h2
                rw [h2, h1, nn_length]
              have HIP := Lib.hid hip
              have HE1 := Lib.hid e1
              have HE2 := Lib.hid e2
              clear hse hpe hip hpend e1 e2
              go_wp2_with (first
                | (refine wpList_load_box rfl 36 (.tmp 6) rfl Bp [.slice Ab nb cb, .slice Aw nw cw] rfl HP9.out Try.underlying36 rfl info36 ?_)
                | (refine wpList_store_box rfl 36 (.tmp 2) (.tmp 90) rfl w.heap.size [.slice Ab nb cb, .slice Aw nw cw] rfl rfl HX9.out rfl info36 rfl ?_; intro w9 hs9; have HS9 := Lib.hid hs9; clear hs9)
                | fail)
              (try simp only [Exit.inBlock, Exit.then])
              refine bodyPost_ret (results_box_tmp rfl rfl (loadVar_box HS9.out.at_ Try.underlying36 rfl info36)) rfl ?_
              refine ⟨HS9.out.then_ HW9.out (Nat.le_refl _), _, _, 0, rfl, .inl ⟨rfl, ps, HIP.out, ?_, ?_⟩⟩
              · rw [← HE1.out]
                exact gr_lower (HS9.out.gr HO9.out (fun h => by have := gr_base HO9.out _ h; omega)) (by omega)
              · rw [← HE2.out]
                exact gr_lower (HS9.out.gr HG9.out (fun h => by have := gr_base HG9.out _ h; omega)) (by omega)
          · have HNG : Hid (¬ (Good (nn ps) (nn ps).length ∧ pageOf (nn ps) = xs)) := Lib.hid (by
              rintro ⟨hg, _⟩
              rcases hbad with ⟨_, _, k, hk, _, h1⟩ | ⟨_, _, k, hk, _, _, h1⟩
              · exact h1 (hg k hk).1
              · exact h1 (hg k hk).2)
            have hex : cv = .slice none 0 0 ∧ (ex = 1 ∨ ex = 6) := by
              rcases hbad with ⟨h1, h2, _⟩ | ⟨h1, h2, _⟩
              · exact ⟨h2, .inl h1⟩
              · exact ⟨h2, .inr h1⟩
            obtain ⟨rfl, hex⟩ := hex
            have HEX : Hid ((((ex : Nat) : Int) != 0) = true) := Lib.hid (by rcases hex with rfl | rfl <;> rfl)
            clear hbad hex
            go_upto_region 17 with fail
            refine plain_ (fun wq => Below w7.heap.size w7 wq) (fun _ => True) reg_19_17 rfl inv0 (fun _ _ _ _ => trivial) (Below.refl _ _) trivial ?_
            refine w_move (.inl rfl) (fun vs w hK => ⟨wants_none rfl, rho_out rfl rfl⟩) ?_
            refine w_val [(80, _)] (_) (fun vs w hK => ⟨wants_none rfl, rho_in rfl (fv (hK 0 (memE rfl))), trivial⟩) rfl (fun wq hI => by exact run_int_neq (r := true) rfl rfl rfl HEX.out) ?_
            refine w_move (.inl rfl) (fun vs w hK => ⟨wants_none rfl, rho_in rfl (fv (hK 1 (memE rfl)))⟩) ?_
            refine w_not (fun vs wq hK => wants_not rfl (fv (hK 2 (memE rfl)))) ?_
            refine w_not (fun vs wq hK => wants_not rfl (fv (hK 2 (memE rfl)))) ?_
            refine w_not (fun vs wq hK => wants_not rfl (fv (hK 2 (memE rfl)))) ?_
            refine w_not (fun vs wq hK => wants_not rfl (fv (hK 2 (memE rfl)))) ?_
            refine w_not (fun vs wq hK => wants_not rfl (fv (hK 2 (memE rfl)))) ?_
            refine w_pick (b := true) rfl (fun vs w hK => ⟨wants_none rfl, (rho_in rfl (fv (hK 2 (memE rfl)))), rho_const⟩) ?_
            refine w_end rfl rfl rfl (fun vs wq hI hF => ?_)
            simp only [List.reverse_cons, List.reverse_nil, List.nil_append, List.cons_append, finL_val, finL_of, finL_any, finL_app, finL_new, finL_gr, finL_row, finL_box, finL_nil, Act.put, List.setIfInBounds_toArray, List.set_cons_zero, List.set_cons_succ, Nat.reduceAdd]
            have HW9 := Lib.hid (below_then HW8.out HW8.out.size hI)
            have HX9 := Lib.hid (box_stays HX8.out hI)
            clear hI hF HW8 HX8 HO8 HP8 HG8
            obtain ⟨w8, rfl⟩ : ∃ w8 : World, w8 = wq := ⟨_, rfl⟩
            have HN : Hid (∀ l, ¬ IsPage xs l) := Lib.hid (no_made (by rw [HE.out]; exact HCH.out) (by rw [HE.out]; exact HAL.out) HNG.out)
            go_wp2_with (first | (refine wpList_store_box rfl 36 (.tmp 2) (.tmp 89) rfl w.heap.size [.slice none 0 0, .slice none 0 0] rfl rfl HX9.out rfl info36 rfl ?_; intro w9 hs9; have HS9 := Lib.hid hs9; clear hs9) | fail)
            (try simp only [Exit.inBlock, Exit.then])
            refine bodyPost_ret (results_box_tmp rfl rfl (loadVar_box HS9.out.at_ Try.underlying36 rfl info36)) rfl ?_
            exact ⟨HS9.out.then_ HW9.out (Nat.le_refl _), _, _, 2, rfl, .inr ⟨rfl, rfl, rfl, HN.out⟩⟩
        · have HCH := Lib.hid hch
          have HAL := Lib.hid hal
          have HNO := Lib.hid hno
          clear hch hal hno
          have HN : Hid (∀ l, ¬ IsPage xs l) := Lib.hid (no_read (by rw [HE.out]; exact HCH.out) (by rw [HE.out]; exact HAL.out) (by rw [HE.out]; exact HNO.out))
          go_wp2_with (first | (refine wpList_store_box rfl 36 (.tmp 2) (.tmp 73) rfl w.heap.size [.slice none 0 0, .slice none 0 0] rfl rfl HX7.out rfl info36 rfl ?_; intro w9 hs9; have HS9 := Lib.hid hs9; clear hs9) | fail)
          (try simp only [Exit.inBlock, Exit.then])
          refine bodyPost_ret (results_box_tmp rfl rfl (loadVar_box HS9.out.at_ Try.underlying36 rfl info36)) rfl ?_
          exact ⟨HS9.out.then_ HW7.out (Nat.le_refl _), _, _, 2, rfl, .inr ⟨rfl, rfl, rfl, HN.out⟩⟩
end Go.Proofs.Ytnkeijdpjcclcaa.Pg
-- PgF
/- The laws' helpers of layer 12: head, big, same; what All and Make tell of a page. -/
namespace Go.Proofs.Ytnkeijdpjcclcaa.Pg
set_option linter.unusedVariables false
set_option linter.unusedSimpArgs false
open Go.Proofs.Ytnkeijdpjcclcaa.Kit Go.Proofs.Ytnkeijdpjcclcaa.Num Go.RowKit Go.Proofs.YtnkeijdpjcclcaaW.PrintWords Go.Proofs.YtnkeijdpjcclcaaW.PrintLast Go.Proofs.YtnkeijdpjcclcaaW.PrintMore NumPure
theorem nn_inj {ps qs : List PB} (h : nn ps = nn qs) : ps = qs := by
  unfold nn at h
  induction ps generalizing qs with
  | nil =>
    cases qs with
    | nil => rfl
    | cons q qs => simp at h
  | cons p ps ih =>
    cases qs with
    | nil => simp at h
    | cons q qs =>
      simp only [List.map_cons, List.cons.injEq, Prod.mk.injEq] at h
      obtain ⟨⟨h1, h2⟩, h3⟩ := h
      rw [ih h3, show p = q from Prod.ext (numsOf_inj h1) (numsOf_inj h2)]
/-- All of a page: its pairs. -/
theorem all_page (bv wv : Value) (ps : List PB) (w : World) (B : Nat) (hg : Good (nn ps) ps.length) (h1 : Gr .u8 5 w B bv (bodyAt (nn ps) ps.length)) {B2 : Nat} {ws : List Int} (h2 : Gr .i64 3 w B2 wv ws) :
    Calls Try.prog 21 #[.agg #[bv, wv]] w fun e w' => ∃ v, e = .returned v ∧ OwnK encP 2 30 w' w.heap.size v ps ∧ Below w.heap.size w w' := by
  obtain ⟨Ab, nb, cb, rfl, hbc, HLb, hbm, hrb⟩ := gr_open h1
  obtain ⟨Aw, nw, cw, rfl, _⟩ := gr_open h2
  have hg' : Good (nn ps) (nn ps).length := by rw [nn_length]; exact hg
  have hbf := body_fit hg
  have hl := HLb.out
  have hby : Byte (bodyAt (nn ps) ps.length) := by
    have := (page_byte (nn_byte ps)).take (bodyAt (nn ps) ps.length).length
    rw [show pageOf (nn ps) = bodyAt (nn ps) (nn ps).length ++ (wholeAt (nn ps) (nn ps).length ++ le (cntAt (nn ps).length) 4) by unfold pageOf; rw [List.append_assoc], nn_length, List.take_left] at this
    exact this
  have hch := page_chain hg'
  rw [nn_length] at hch
  refine (all_any Ab nb cb Aw nw cw _ w hrb hby hbc (by omega)).mono ?_
  rintro e w' ⟨hb, v, rfl, hp⟩
  rcases hp with ⟨a, last, ps2, k1, k2, k3⟩ | ⟨_, a, last, out, k1, k2, k3⟩
  · have := (chain_end k1 hch (.inl k2) (.inl (Nat.le_refl _))).2.2
    obtain rfl := nn_inj this
    exact ⟨v, rfl, k3, hb⟩
  · have := (chain_end k1 hch (.inr k3) (.inl (Nat.le_refl _))).1
    omega
/-- Make of a page's pairs: the page. -/
theorem make_page (A : Option Addr) (n c : Nat) (ps : List PB) (w : World) (hr : Sts encP 2 w A n ps) (hg : Good (nn ps) ps.length) (hsz : ∀ p ∈ ps, p.1.size ≤ 1000000 ∧ p.2.size ≤ 1000000) :
    Calls Try.prog 16 #[.slice A n c] w fun e w' => ∃ v, e = .returned (.tuple #[v, .int .i64 0]) ∧ Gr .u8 5 w' w.heap.size v (pageOf (nn ps)) ∧ Below w.heap.size w w' := by
  have h1 := body_len (nn ps) ps.length
  have h2 := body_fit hg
  refine (make_any A n c ps w hr (by rw [← hr.len]; omega) hsz).mono ?_
  rintro e w' ⟨hb, v, ex, rfl, hp⟩
  rcases hp with ⟨rfl, _, k⟩ | ⟨_, _, k, hk, _, h⟩ | ⟨_, _, k, hk, _, _, h⟩
  · exact ⟨v, rfl, k, hb⟩
  · exact absurd (hg k (by rwa [nn_length] at hk)).1 h
  · exact absurd (hg k (by rwa [nn_length] at hk)).2 h
theorem toList_beq (a b : ByteArray) : (a.toList == b.toList) = decide (a = b) := by
  rw [Bool.eq_iff_iff, beq_iff_eq, decide_eq_true_iff]
  exact ⟨fun h => numsOf_inj (by unfold numsOf; rw [h]), fun h => by rw [h]⟩
theorem pair_equalIn (d : Nat) (p q : PB) (w : World) : (Op.equalIn (d + 1 + 1) 30 (.agg (encP p).toArray) (.agg (encP q).toArray)).run Try.prog w = .ok (decide (p = q)) w := by
  obtain ⟨a, b⟩ := p
  obtain ⟨a2, b2⟩ := q
  have e : decide ((a, b) = (a2, b2)) = (decide (a = a2) && decide (b = b2)) := by
    rw [Bool.eq_iff_iff]; simp
  rw [e, ← toList_beq, ← toList_beq]
  change (Op.equalIn (d + 1 + 1) 30 (.agg #[.string a, .string b]) (.agg #[.string a2, .string b2])).run Try.prog w = _
  refine eqA_of Try.underlying30 (by kernel_rfl) (eqf_cons rfl ?_ ?_ (run_equalIn_string w d 9 a a2 Try.underlying9) (eqf_last rfl ?_ ?_ (run_equalIn_string w d 9 b b2 Try.underlying9)))
  all_goals go_simp
theorem op_pair_neq {o : Oper} {l : List (Nat × Value)} {x y : Operand} {m : Nat} {p q : PB} {r : Bool} {w : World} (ho : o.op = .binOp .neq 30 x y m) (hx : lk l x = .agg (encP p).toArray) (hy : lk l y = .agg (encP q).toArray) (h : (!decide (p = q)) = r) : (execOp (lk l) o).run Try.prog w = .ok (.value (.bool r)) w := by
  subst h
  exact op_agg_neq ho hx hy (by kernel_rfl) (pair_equalIn 9998 p q w)
theorem reg_20_6 : RegOk (opsOf Try.f20 6) [[], [], [0, 1], [0, 1, 2], [], [], [4, 5], [4, 5, 6], [0, 1, 2, 3, 4, 5, 6, 7]] [] [some 16, some 17, some 18, some 19, some 20, some 21, some 22, some 23, some 24] := regOk (by kernel_rfl)
set_option maxRecDepth 20000 in
set_option maxHeartbeats 1600000 in
theorem same_any (A : Option Addr) (n c : Nat) (A2 : Option Addr) (n2 c2 : Nat) (ps qs : List PB) (w : World) (h1 : Sts encP 2 w A n ps) (h2 : Sts encP 2 w A2 n2 qs) :
    Calls Try.prog 20 #[.slice A n c, .slice A2 n2 c2] w fun e w' => e = .returned (.bool (decide (ps = qs))) ∧ Below w.heap.size w w' := by
  have HL1 := Lib.hid h1.len
  have HL2 := Lib.hid h2.len
  have H1 := Lib.hid h1
  have H2 := Lib.hid h2
  have hm := h1.max
  clear h1 h2
  by_cases hne : n = n2
  · subst hne
    have t0 : (((n : Nat) : Int) != ((n : Nat) : Int)) = false := by simp
    go_enter Try.func20, Try.ntmps20
    go_wp2_with fail
    go_loopw [13] (fun i wr => ∃ k : Nat, k ≤ n ∧ i = .int .i64 k ∧ Hid (∀ j, j < k → ps[j]? = qs[j]?) ∧ Hid (Below w.heap.size w wr)) (fun i _ => n - (intOf i).toNat)
    case atStart => exact ⟨0, by omega, rfl, Lib.hid (fun j hj => absurd hj (by omega)), Lib.hid (Below.refl _ _)⟩
    case round =>
      obtain ⟨k, hk, rfl, HE, HW⟩ := hrel
      by_cases hlt : k < n
      · have t1 : decide ((k : Int) < (n : Int)) = true := decide_eq_true (by omega)
        obtain ⟨ad, rfl, hc1⟩ := (sts_below H1.out HW.out).row (by omega)
        obtain ⟨ad2, rfl, hc2⟩ := (sts_below H2.out HW.out).row (by omega)
        obtain ⟨p, hp⟩ : ∃ p : PB, ps[k]? = some p := ⟨_, List.getElem?_eq_getElem (by rw [HL1.out]; exact hlt)⟩
        obtain ⟨q, hq⟩ : ∃ p : PB, qs[k]? = some p := ⟨_, List.getElem?_eq_getElem (by rw [HL2.out]; exact hlt)⟩
        have HC1 := Lib.hid (hc1 k p hp)
        have HC2 := Lib.hid (hc2 k q hq)
        have HP := Lib.hid hp
        have HQ := Lib.hid hq
        obtain ⟨D, hD⟩ : ∃ D, (!decide (p = q)) = D := ⟨_, rfl⟩
        have HD := Lib.hid hD
        clear hc1 hc2 hp hq hD
        go_upto_region 6 with fail
        refine draws_ (fun wq => Below wr.heap.size wr wq) (fun _ => True) (by kernel_rfl) reg_20_6 rfl inv0 (fun _ _ _ _ => trivial) (below_drew (Below.refl _ _)) trivial ?_
        refine w_move (.inl rfl) (fun vs w hK => ⟨wants_none rfl, rho_out rfl rfl⟩) ?_
        refine w_move (.inl rfl) (fun vs w hK => ⟨wants_none rfl, rho_out rfl rfl⟩) ?_
        refine w_val [(16, _), (17, _)] (_) (fun vs w hK => ⟨wants_none rfl, rho_in rfl (fv (hK 0 (memE rfl))), rho_in rfl (fv (hK 1 (memE rfl))), trivial⟩) rfl (fun wq hI => by exact op_index_st sts22 rfl rfl rfl rfl hlt) ?_
        refine w_val [(18, _)] (.agg (encP p).toArray) (fun vs w hK => ⟨wants_none rfl, rho_in rfl (fv (hK 2 (memE rfl))), trivial⟩) rfl (fun wq hI => by exact op_load_at rfl _ (encP p) rfl (fun j v hv => below_cell hI (HC1.out j v hv)) Try.underlying30 rfl info30) ?_
        refine w_move (.inl rfl) (fun vs w hK => ⟨wants_none rfl, rho_out rfl rfl⟩) ?_
        refine w_move (.inl rfl) (fun vs w hK => ⟨wants_none rfl, rho_out rfl rfl⟩) ?_
        refine w_val [(20, _), (21, _)] (_) (fun vs w hK => ⟨wants_none rfl, rho_in rfl (fv (hK 4 (memE rfl))), rho_in rfl (fv (hK 5 (memE rfl))), trivial⟩) rfl (fun wq hI => by exact op_index_st sts22 rfl rfl rfl rfl hlt) ?_
        refine w_val [(22, _)] (.agg (encP q).toArray) (fun vs w hK => ⟨wants_none rfl, rho_in rfl (fv (hK 6 (memE rfl))), trivial⟩) rfl (fun wq hI => by exact op_load_at rfl _ (encP q) rfl (fun j v hv => below_cell hI (HC2.out j v hv)) Try.underlying30 rfl info30) ?_
        refine w_val [(19, _), (23, _)] (_) (fun vs w hK => ⟨wants_none rfl, rho_in rfl (fv (hK 3 (memE rfl))), rho_in rfl (fv (hK 7 (memE rfl))), trivial⟩) rfl (fun wq hI => by exact op_pair_neq rfl rfl rfl HD.out) ?_
        refine w_end rfl rfl rfl (fun vs wq hI hF => ?_)
        simp only [List.reverse_cons, List.reverse_nil, List.nil_append, List.cons_append, finL_val, finL_of, finL_any, finL_app, finL_new, finL_gr, finL_row, finL_box, finL_nil, Act.put, List.setIfInBounds_toArray, List.set_cons_zero, List.set_cons_succ, Nat.reduceAdd]
        have HW2 := Lib.hid (below_then HW.out HW.out.size hI)
        clear hI hF HC1 HC2
        cases D with
        | true =>
          have HF : Hid (decide (ps = qs) = false) := Lib.hid (decide_eq_false (fun h => by
            have h1 := HD.out
            have h2 := HP.out
            rw [h, HQ.out] at h2
            injection h2 with h2
            rw [h2] at h1
            simp at h1))
          go_wp2_with fail
          go_ret
          exact ⟨by rw [HF.out]; rfl, HW2.out⟩
        | false =>
          have hpq : p = q := by have := HD.out; simpa using this
          subst hpq
          have HE2 : Hid (∀ j, j < k + 1 → ps[j]? = qs[j]?) := Lib.hid (fun j hj => by
            rcases Nat.lt_or_ge j k with g | g
            · exact HE.out j g
            · obtain rfl : j = k := by omega
              rw [HP.out, HQ.out])
          go_wp2_with fail
          go_roundw
          case rel => exact ⟨k + 1, by omega, by go_num, HE2, HW2⟩
          case measure => simp [intOf]; omega
      · obtain rfl : k = n := by omega
        have HF : Hid (decide (ps = qs) = true) := Lib.hid (decide_eq_true (List.ext_getElem? fun i => by
          rcases Nat.lt_or_ge i k with g | g
          · exact HE.out i g
          · rw [List.getElem?_eq_none (by rw [HL1.out]; exact g), List.getElem?_eq_none (by rw [HL2.out]; exact g)]))
        go_wp2_with fail
        go_ret
        exact ⟨by rw [HF.out]; rfl, HW.out⟩
  · have t0 : (((n : Nat) : Int) != ((n2 : Nat) : Int)) = true := by simp only [bne_iff_ne]; omega
    have HF : Hid (decide (ps = qs) = false) := Lib.hid (decide_eq_false (fun h => by
      have := HL1.out
      rw [h, HL2.out] at this
      exact hne this.symm))
    clear hne
    go_enter Try.func20, Try.ntmps20
    go_wp2_with fail
    go_ret
    exact ⟨by rw [HF.out]; rfl, Below.refl _ _⟩
theorem reg_15_6 : RegOk (opsOf Try.f15 6) [[], [0], [0, 1], [0, 1, 2], [0, 1, 2, 3], [0, 1, 2, 3, 4], [0, 1, 2, 3, 4, 5], [0, 1, 2, 3, 4, 5, 6], [0, 1, 2, 3, 4, 5, 6, 7], [0, 1, 2, 3, 4, 5, 6, 7, 8]] [] [some 14, some 15, some 16, some 17, some 18, some 19, some 20, some 21, some 22, some 23] := regOk (by kernel_rfl)
set_option maxRecDepth 20000 in
set_option maxHeartbeats 1600000 in
theorem big_any (A : Option Addr) (n c : Nat) (ps : List PB) (w : World) (hr : Sts encP 2 w A n ps) :
    Calls Try.prog 15 #[.slice A n c] w fun e w' => ∃ B, e = .returned (.bool B) ∧ Below w.heap.size w w' ∧ (B = false → n ≤ 60 ∧ ∀ p ∈ ps, p.1.size ≤ 300 ∧ p.2.size ≤ 300) := by
  have HL := Lib.hid hr.len
  have HR := Lib.hid hr
  have hm := hr.max
  clear hr
  by_cases hbig : 60 < n
  · have t0 : decide ((60 : Int) < (n : Int)) = true := decide_eq_true (by omega)
    clear hbig
    go_enter Try.func15, Try.ntmps15
    go_wp2_with fail
    go_ret
    exact ⟨true, rfl, Below.refl _ _, fun h => by cases h⟩
  · have t0 : decide ((60 : Int) < (n : Int)) = false := decide_eq_false (by omega)
    go_enter Try.func15, Try.ntmps15
    go_wp2_with fail
    go_loopw [10] (fun i wr => ∃ k : Nat, k ≤ n ∧ i = .int .i64 k ∧ Hid (∀ p ∈ ps.take k, p.1.size ≤ 300 ∧ p.2.size ≤ 300) ∧ Hid (Below w.heap.size w wr)) (fun i _ => n - (intOf i).toNat)
    case atStart => exact ⟨0, by omega, rfl, Lib.hid (fun p hp => by simp at hp), Lib.hid (Below.refl _ _)⟩
    case round =>
      obtain ⟨k, hk, rfl, HE, HW⟩ := hrel
      by_cases hlt : k < n
      · have t1 : decide ((k : Int) < (n : Int)) = true := decide_eq_true (by omega)
        obtain ⟨ad, rfl, hc1⟩ := (sts_below HR.out HW.out).row (by omega)
        obtain ⟨⟨nm, vl⟩, hp⟩ : ∃ p : PB, ps[k]? = some p := ⟨_, List.getElem?_eq_getElem (by rw [HL.out]; exact hlt)⟩
        have hcell := hc1 k _ hp
        have HTK : Hid (ps.take (k + 1) = ps.take k ++ [(nm, vl)]) := Lib.hid (by
          rw [List.take_succ_eq_append_getElem (by rw [HL.out]; exact hlt)]
          rw [List.getElem?_eq_getElem (by rw [HL.out]; exact hlt)] at hp
          injection hp with hp
          rw [hp])
        obtain ⟨D, hD⟩ : ∃ D, (decide (((nm.size : Nat) : Int) > 300) || decide (((vl.size : Nat) : Int) > 300)) = D := ⟨_, rfl⟩
        have HD := Lib.hid hD
        clear hc1 hp hD
        go_upto_region 6 with (first
          | (refine wpList_index_st rfl 22 _ _ rfl sts22 rfl rfl rfl hlt ?_)
          | (refine wpList_load_at rfl 30 _ rfl _ [.string nm, .string vl] rfl hcell Try.underlying30 rfl info30 ?_)
          | (refine wpList_store_box rfl 30 (.tmp 4) (.tmp 13) rfl wr.heap.size [.string nm, .string vl] rfl rfl (heap_alloc_new wr _) rfl info30 rfl ?_; intro w1 hs1; have HS1 := Lib.hid hs1; clear hs1))
        have HX1 := Lib.hid HS1.out.at_
        have HW1 := Lib.hid (below_then HW.out HW.out.size (HS1.out.then_ (below_alloc (Below.refl _ _) _) (Nat.le_refl _)))
        clear HS1 hcell
        generalize wr.heap.size = b1 at HX1 ⊢
        refine plain_ (fun wq => Below w1.heap.size w1 wq) (fun _ => True) reg_15_6 rfl inv0 (fun _ _ _ _ => trivial) (Below.refl _ _) trivial ?_
        refine w_val [(4, _)] _ (fun vs w hK => ⟨wants_none rfl, rho_out rfl rfl, trivial⟩) rfl (fun wq hI => by simp only [execOp, Option.map_some, Option.map_none, lk_tmp, lk_const, lkT_cons, ↓reduceIte, Nat.reduceEqDiff]; go_simp; (first | done | rfl)) ?_
        refine w_val [(14, _)] (_) (fun vs w hK => ⟨wants_none rfl, rho_in rfl (fv (hK 0 (memE rfl))), trivial⟩) rfl (fun wq hI => by exact run_load_cell (ad := ⟨b1, 0, none⟩) (v := .string nm) rfl rfl rfl Try.underlying9 rfl (below_cell hI (by simp [World.cell?, HX1.out]))) ?_
        refine w_val [(15, _)] (_) (fun vs w hK => ⟨wants_none rfl, rho_in rfl (fv (hK 1 (memE rfl))), trivial⟩) rfl (fun wq hI => by exact run_len_str rfl Try.underlying9 rfl rfl) ?_
        refine w_val [(16, _)] (_) (fun vs w hK => ⟨wants_none rfl, rho_in rfl (fv (hK 2 (memE rfl))), trivial⟩) rfl (fun wq hI => by exact run_int_gtr rfl rfl rfl rfl) ?_
        refine w_move (.inl rfl) (fun vs w hK => ⟨wants_none rfl, rho_in rfl (fv (hK 3 (memE rfl)))⟩) ?_
        refine w_valG [(4, _)] (_) (fun vs w hK => wantsF rfl (fv (hK 4 (memE rfl)))) (fun hG vs w hK => ⟨(rho_out rfl rfl), trivial⟩) rfl (fun hG wq hI => by simp only [execOp, Option.map_some, Option.map_none, lk_tmp, lk_const, lkT_cons, ↓reduceIte, Nat.reduceEqDiff]; go_simp; (first | done | rfl)) ?_
        refine w_valG [(19, _)] (_) (fun vs w hK => wantsF rfl (fv (hK 4 (memE rfl)))) (fun hG vs w hK => ⟨(rho_in rfl (fvg (hK 5 (memE rfl)) hG)), trivial⟩) rfl (fun hG wq hI => by exact run_load_cell (ad := ⟨b1, 1, none⟩) (v := .string vl) rfl rfl rfl Try.underlying9 rfl (below_cell hI (by simp [World.cell?, HX1.out]))) ?_
        refine w_valG [(20, _)] (_) (fun vs w hK => wantsF rfl (fv (hK 4 (memE rfl)))) (fun hG vs w hK => ⟨(rho_in rfl (fvg (hK 6 (memE rfl)) hG)), trivial⟩) rfl (fun hG wq hI => by exact run_len_str rfl Try.underlying9 rfl rfl) ?_
        refine w_valG [(21, _)] (_) (fun vs w hK => wantsF rfl (fv (hK 4 (memE rfl)))) (fun hG vs w hK => ⟨(rho_in rfl (fvg (hK 7 (memE rfl)) hG)), trivial⟩) rfl (fun hG wq hI => by exact run_int_gtr rfl rfl rfl rfl) ?_
        refine w_or rfl (fun vs w hK => wants_none rfl) (fun vs w hK => (rho_in rfl (fv (hK 4 (memE rfl))))) (fun hB vs w hK => (rho_in rfl (fvg (hK 8 (memE rfl)) (gnot hB)))) ?_
        refine w_as (c' := .bool D) (congrArg Value.bool HD.out) ?_
        refine w_endM [false, false, false, false, false, false, false, false, false, true] rfl rfl rfl (fun vs wq hI hF => ?_)
        simp only [List.reverse_cons, List.reverse_nil, List.nil_append, List.cons_append, finL_val, finL_of, finL_any, finL_app, finL_new, finL_gr, finL_row, finL_box, finL_nil, Act.put, List.setIfInBounds_toArray, List.set_cons_zero, List.set_cons_succ, Nat.reduceAdd, maskF, finL_imp, Bool.not_false, Bool.not_true, Bool.true_and, Bool.false_and]
        have HW2 := Lib.hid (below_then HW1.out HW1.out.size hI)
        clear hI hF HX1 HW1
        cases D with
        | true =>
          go_wp2_with fail
          go_ret
          exact ⟨true, rfl, HW2.out, fun h => by cases h⟩
        | false =>
          have HE2 : Hid (∀ p ∈ ps.take (k + 1), p.1.size ≤ 300 ∧ p.2.size ≤ 300) := Lib.hid (fun p hp => by
            rw [HTK.out] at hp
            rcases List.mem_append.1 hp with hp | hp
            · exact HE.out p hp
            · rw [List.mem_singleton.1 hp]
              have h := HD.out
              rw [Bool.or_eq_false_iff] at h
              have h1 := of_decide_eq_false h.1
              have h2 := of_decide_eq_false h.2
              exact ⟨by show nm.size ≤ 300; omega, by show vl.size ≤ 300; omega⟩)
          go_wp2_with fail
          go_roundw
          case rel => exact ⟨k + 1, by omega, by go_num, HE2, HW2⟩
          case measure => simp [intOf]; omega
      · obtain rfl : k = n := by omega
        have HF : Hid (∀ p ∈ ps, p.1.size ≤ 300 ∧ p.2.size ≤ 300) := Lib.hid (by have := HE.out; rwa [List.take_of_length_le (by rw [HL.out]; omega)] at this)
        go_wp2_with fail
        go_ret
        exact ⟨false, rfl, HW.out, fun _ => ⟨by omega, HF.out⟩⟩
/-- The document's page. -/
def ps1 : List PB := [(⟨#[97]⟩, ⟨#[120]⟩)]
theorem nn1 : nn ps1 = [([97], [120])] := by
  have h1 : numsOf ⟨#[97]⟩ = [97] := by rw [numsOf_data]; rfl
  have h2 : numsOf ⟨#[120]⟩ = [120] := by rw [numsOf_data]; rfl
  simp only [ps1, nn, List.map_cons, List.map_nil, h1, h2]
theorem page0 : pageOf (nn []) = [0, 0, 0, 0] := rfl
theorem page1 : pageOf (nn ps1) = [0, 1, 1, 97, 120, 0, 0, 0, 0, 1, 0, 0, 0] := by
  rw [nn1]
  have h0 : put7 0 = [0] := put7_small (by omega)
  have h1 : put7 1 = [1] := put7_small (by omega)
  simp only [pageOf, List.length_cons, List.length_nil, bodyAt, wholeAt, rowOf, sameAt, nmAt, vlAt, cntAt, List.getD_cons_zero, h0, h1, Nat.zero_mod, if_true, List.drop_zero, Nat.sub_zero, Nat.zero_add, ↓reduceIte]
  rfl
theorem good1 : Good (nn ps1) ps1.length := by
  intro j hj
  have : j = 0 := by have : j < 1 := hj; omega
  subst this
  refine ⟨.inl rfl, ?_⟩
  have h := page_length (nn ps1)
  rw [page1] at h
  unfold Fit
  simp at h
  have h2 : (nn ps1).length = 1 := by rw [nn1]; rfl
  rw [h2] at h
  show (bodyAt (nn ps1) 1).length ≤ 262144
  omega
theorem str0 : strOfNums (pageOf (nn [])) = ⟨#[0, 0, 0, 0]⟩ := by rw [page0]; rfl
theorem str1 : strOfNums (pageOf (nn ps1)) = ⟨#[0, 1, 1, 97, 120, 0, 0, 0, 0, 1, 0, 0, 0]⟩ := by rw [page1]; rfl
theorem lit30 (a b : ByteArray) : Try.prog.built 30 [(0, .string a), (1, .string b)] = some [Value.string a, .string b].toArray := by kernel_rfl
end Go.Proofs.Ytnkeijdpjcclcaa.Pg
-- PgG
/- The law's head of layer 12. -/
namespace Go.Proofs.Ytnkeijdpjcclcaa.Pg
set_option linter.unusedVariables false
set_option linter.unusedSimpArgs false
open Go.Proofs.Ytnkeijdpjcclcaa.Kit Go.Proofs.Ytnkeijdpjcclcaa.Num Go.RowKit Go.Proofs.YtnkeijdpjcclcaaW.PrintWords Go.Proofs.YtnkeijdpjcclcaaW.PrintLast Go.Proofs.YtnkeijdpjcclcaaW.PrintMore NumPure
theorem reg_14_4 : RegOk (opsOf Try.f14 4) [[], [0], [0, 1], [0, 1, 2], [0, 1, 2, 3], [0, 1, 2, 3, 4], [0, 1, 2, 3, 4, 5], [0, 1, 2, 3, 4, 5, 6], [0, 1, 2, 3, 4, 5, 6, 7], [0, 1, 2, 3, 4, 5, 6, 7, 8], [0, 1, 2, 3, 4, 5, 6, 7, 8, 9], [0, 1, 2, 3, 4, 5, 6, 7, 8, 9, 10], [0, 1, 2, 3, 4, 5, 6, 7, 8, 9, 10, 11], [0, 1, 2, 3, 4, 5, 6, 7, 8, 9, 10, 11, 12], [0, 1, 2, 3, 4, 5, 6, 7, 8, 9, 10, 11, 12, 13], [0, 1, 2, 3, 4, 5, 6, 7, 8, 9, 10, 11, 12, 13, 14], [0, 1, 2, 3, 4, 5, 6, 7, 8, 9, 10, 11, 12, 13, 14, 15], [0, 1, 2, 3, 4, 5, 6, 7, 8, 9, 10, 11, 12, 13, 14, 15, 16], [0, 1, 2, 3, 4, 5, 6, 7, 8, 9, 10, 11, 12, 13, 14, 15, 16, 17], [0, 1, 2, 3, 4, 5, 6, 7, 8, 9, 10, 11, 12, 13, 14, 15, 16, 17, 18], [0, 1, 2, 3, 4, 5, 6, 7, 8, 9, 10, 11, 12, 13, 14, 15, 16, 17, 18, 19], [0, 1, 2, 3, 4, 5, 6, 7, 8, 9, 10, 11, 12, 13, 14, 15, 16, 17, 18, 19, 20], [0, 1, 2, 3, 4, 5, 6, 7, 8, 9, 10, 11, 12, 13, 14, 15, 16, 17, 18, 19, 20, 21], [0, 1, 2, 3, 4, 5, 6, 7, 8, 9, 10, 11, 12, 13, 14, 15, 16, 17, 18, 19, 20, 21, 22], [0, 1, 2, 3, 4, 5, 6, 7, 8, 9, 10, 11, 12, 13, 14, 15, 16, 17, 18, 19, 20, 21, 22, 23], [0, 1, 2, 3, 4, 5, 6, 7, 8, 9, 10, 11, 12, 13, 14, 15, 16, 17, 18, 19, 20, 21, 22, 23, 24], [0, 1, 2, 3, 4, 5, 6, 7, 8, 9, 10, 11, 12, 13, 14, 15, 16, 17, 18, 19, 20, 21, 22, 23, 24, 25]] [] [some 22, some 23, some 24, some 25, some 26, some 27, some 28, some 29, some 30, some 31, some 32, some 33, some 34, some 35, some 36, some 37, some 38, some 39, some 40, some 41, some 42, some 43, some 44, some 45, some 46, some 47, some 0] := regOk (by kernel_rfl)
set_option maxRecDepth 20000 in
set_option maxHeartbeats 1600000 in
theorem head_any (w : World) : Calls Try.prog 14 #[] w fun e w' => e = .returned (.bool true) ∧ Below w.heap.size w w' := by
  have C0 := Lib.hid (make_page none 0 0 [] w (sts_nil _ _ _ _) (fun j hj => absurd hj (by simp)) (fun p hp => by cases hp))
  go_enter Try.func14, Try.ntmps14
  go_wp2_with fail
  refine C0.out.mono ?_
  rintro e w1 ⟨v1, rfl, hg1, hb1⟩
  clear C0
  obtain ⟨A1, n1, c1, rfl, _, _, _, hr1⟩ := gr_open hg1
  have HR1 := Lib.hid hr1
  have HB1 := Lib.hid hb1
  clear hg1 hb1 hr1
  have hsz1 : ∀ p ∈ ps1, p.1.size ≤ 1000000 ∧ p.2.size ≤ 1000000 := by
    intro p hp
    rw [List.mem_singleton.1 hp]
    exact ⟨by decide, by decide⟩
  have hba : Below w1.heap.size w1 (w1.alloc (.cells #[.string ⟨#[97]⟩, .string ⟨#[120]⟩] 30)) := below_alloc (Below.refl _ _) _
  have C1 := Lib.hid (make_page (some ⟨w1.heap.size, 0, none⟩) 1 1 ps1 (w1.alloc (.cells #[.string ⟨#[97]⟩, .string ⟨#[120]⟩] 30)) (sts_one encP_len rfl (heap_alloc_new w1 _)) good1 hsz1)
  have HBA := Lib.hid (below_then HB1.out HB1.out.size hba)
  have HRA := Lib.hid (rds_below HR1.out hba)
  clear hba HB1 HR1
  go_wp2_with fail
  refine C1.out.mono ?_
  rintro e w2 ⟨v2, rfl, hg2, hb2⟩
  obtain ⟨A2, n2, c2, rfl, hc2, HL2, _, hr2⟩ := gr_open hg2
  have hn2 : n2 = 13 := by rw [← HL2.out, page1]; rfl
  have HR2 := Lib.hid hr2
  have HRB := Lib.hid (rds_below HRA.out hb2)
  have HB2 := Lib.hid (below_then HBA.out HBA.out.size hb2)
  have C2 := Lib.hid (parse_any A2 n2 c2 (pageOf (nn ps1)) w2 hr2 (page_byte (nn_byte ps1)) hc2 (by omega))
  clear hg2 hb2 hr2 HRA HBA C1 HL2 hn2
  go_wp2_with fail
  refine C2.out.mono ?_
  rintro e w3 ⟨hb3, bv, wv, ex, rfl, hp⟩
  have hip1 : IsPage (pageOf (nn ps1)) (nn ps1) := ⟨by rw [nn_length]; exact good1, rfl⟩
  rcases hp with ⟨rfl, ps, hip, hbv, hwv⟩ | ⟨_, _, _, hno⟩
  · obtain rfl : ps = ps1 := nn_inj (page_inj hip.1 hip1.1 hip.2)
    have HR3 := Lib.hid (rds_below HR2.out hb3)
    have HRC := Lib.hid (rds_below HRB.out hb3)
    have HB3 := Lib.hid (below_then HB2.out HB2.out.size hb3)
    have HBV := Lib.hid hbv
    have HWV := Lib.hid hwv
    obtain ⟨Ab, nb, cb, rfl, _⟩ := gr_open hbv
    obtain ⟨Aw, nw, cw, rfl, _⟩ := gr_open hwv
    clear hb3 hip hip1 hbv hwv HR2 HRB HB2 C2
    go_upto_region 4 with (first | (refine wpList_store_box rfl 36 (.tmp 5) (.tmp 20) rfl w3.heap.size [.slice Ab nb cb, .slice Aw nw cw] rfl rfl (heap_alloc_new w3 _) rfl info36 rfl ?_; intro w4 hs4; have HS4 := Lib.hid hs4; clear hs4) | fail)
    have hb4 : Below w3.heap.size w3 w4 := HS4.out.then_ (below_alloc (Below.refl _ _) _) (Nat.le_refl _)
    have HX4 := Lib.hid HS4.out.at_
    have HR4 := Lib.hid (rds_below HR3.out hb4)
    have HRD := Lib.hid (rds_below HRC.out hb4)
    have HB4 := Lib.hid (below_then HB3.out HB3.out.size hb4)
    have HBV4 := Lib.hid (gr_below HBV.out hb4)
    have HWV4 := Lib.hid (gr_below HWV.out hb4)
    clear hb4 HS4 HR3 HRC HB3 HBV HWV
    generalize w3.heap.size = b4 at HX4 ⊢
    refine plain_ (fun wq => Below w4.heap.size w4 wq) (fun _ => True) reg_14_4 rfl inv0 (fun _ _ _ _ => trivial) (Below.refl _ _) trivial ?_
    refine w_move (.inl rfl) (fun vs w hK => ⟨wants_none rfl, rho_out rfl rfl⟩) ?_
    refine w_val [(22, _)] (_) (fun vs w hK => ⟨wants_none rfl, rho_in rfl (fv (hK 0 (memE rfl))), trivial⟩) rfl (fun wq hI => by exact run_int_eql (r := true) rfl rfl rfl rfl) ?_
    refine w_move (.inl rfl) (fun vs w hK => ⟨wants_none rfl, rho_in rfl (fv (hK 1 (memE rfl)))⟩) ?_
    refine w_move (.inl rfl) (fun vs w hK => ⟨wants_g rfl (fv (hK 2 (memE rfl))), rho_out rfl rfl⟩) ?_
    refine w_val [(25, _)] (.string ⟨#[0, 0, 0, 0]⟩) (fun vs w hK => ⟨wants_g rfl (fv (hK 2 (memE rfl))), rho_in rfl (fv (hK 3 (memE rfl))), trivial⟩) rfl (fun wq hI => by exact run_conv_op rfl rfl ((conv_rds (dst := 9) tb Try.underlying5 Try.underlying9 (rds_below HRD.out hI)).trans (congrArg (fun s => Result.ok (Value.string s) wq) str0))) ?_
    refine w_val [(26, _)] (_) (fun vs w hK => ⟨wants_g rfl (fv (hK 2 (memE rfl))), rho_in rfl (fv (hK 4 (memE rfl))), trivial⟩) rfl (fun wq hI => by exact run_eql_same rfl rfl rfl rfl) ?_
    refine w_pick (b := true) rfl (fun vs w hK => ⟨wants_none rfl, (rho_in rfl (fv (hK 2 (memE rfl)))), (rho_in rfl (fv (hK 5 (memE rfl))))⟩) ?_
    refine w_move (.inl rfl) (fun vs w hK => ⟨wants_none rfl, rho_in rfl (fv (hK 6 (memE rfl)))⟩) ?_
    refine w_move (.inl rfl) (fun vs w hK => ⟨wants_g rfl (fv (hK 7 (memE rfl))), rho_out rfl rfl⟩) ?_
    refine w_val [(30, _)] (_) (fun vs w hK => ⟨wants_g rfl (fv (hK 7 (memE rfl))), rho_in rfl (fv (hK 8 (memE rfl))), trivial⟩) rfl (fun wq hI => by exact run_int_eql (r := true) rfl rfl rfl rfl) ?_
    refine w_pick (b := true) rfl (fun vs w hK => ⟨wants_none rfl, (rho_in rfl (fv (hK 7 (memE rfl)))), (rho_in rfl (fv (hK 9 (memE rfl))))⟩) ?_
    refine w_move (.inl rfl) (fun vs w hK => ⟨wants_none rfl, rho_in rfl (fv (hK 10 (memE rfl)))⟩) ?_
    refine w_move (.inl rfl) (fun vs w hK => ⟨wants_g rfl (fv (hK 11 (memE rfl))), rho_out rfl rfl⟩) ?_
    refine w_val [(34, _)] (_) (fun vs w hK => ⟨wants_g rfl (fv (hK 11 (memE rfl))), rho_in rfl (fv (hK 12 (memE rfl))), trivial⟩) rfl (fun wq hI => by exact run_int_eql (r := true) rfl rfl rfl rfl) ?_
    refine w_pick (b := true) rfl (fun vs w hK => ⟨wants_none rfl, (rho_in rfl (fv (hK 11 (memE rfl)))), (rho_in rfl (fv (hK 13 (memE rfl))))⟩) ?_
    refine w_move (.inl rfl) (fun vs w hK => ⟨wants_none rfl, rho_in rfl (fv (hK 14 (memE rfl)))⟩) ?_
    refine w_move (.inl rfl) (fun vs w hK => ⟨wants_g rfl (fv (hK 15 (memE rfl))), rho_out rfl rfl⟩) ?_
    refine w_val [(38, _)] (.string ⟨#[0, 1, 1, 97, 120, 0, 0, 0, 0, 1, 0, 0, 0]⟩) (fun vs w hK => ⟨wants_g rfl (fv (hK 15 (memE rfl))), rho_in rfl (fv (hK 16 (memE rfl))), trivial⟩) rfl (fun wq hI => by exact run_conv_op rfl rfl ((conv_rds (dst := 9) tb Try.underlying5 Try.underlying9 (rds_below HR4.out hI)).trans (congrArg (fun s => Result.ok (Value.string s) wq) str1))) ?_
    refine w_val [(39, _)] (_) (fun vs w hK => ⟨wants_g rfl (fv (hK 15 (memE rfl))), rho_in rfl (fv (hK 17 (memE rfl))), trivial⟩) rfl (fun wq hI => by exact run_eql_same rfl rfl rfl rfl) ?_
    refine w_pick (b := true) rfl (fun vs w hK => ⟨wants_none rfl, (rho_in rfl (fv (hK 15 (memE rfl)))), (rho_in rfl (fv (hK 18 (memE rfl))))⟩) ?_
    refine w_move (.inl rfl) (fun vs w hK => ⟨wants_none rfl, rho_in rfl (fv (hK 19 (memE rfl)))⟩) ?_
    refine w_val [(5, _)] (.agg [Value.slice Ab nb cb, .slice Aw nw cw].toArray) (fun vs w hK => ⟨wants_g rfl (fv (hK 20 (memE rfl))), rho_out rfl rfl, trivial⟩) rfl (fun wq hI => by exact op_load_at rfl ⟨b4, 0, none⟩ [.slice Ab nb cb, .slice Aw nw cw] rfl (box_cells (box_stays HX4.out hI)) Try.underlying36 rfl info36) ?_
    refine w_callF (FW.of (fun v W => ∃ A n c, v = .slice A n c ∧ n = 1) (fun _ _ _ h _ => h)) [(43, _)] _ (by decide) (fun vs w hK => ⟨wants_g rfl (fv (hK 20 (memE rfl))), rho_in rfl (fv (hK 21 (memE rfl))), trivial⟩) rfl rfl Try.func21 (by kernel_rfl) rfl (fun wq hI => (all_page _ _ ps1 wq w2.heap.size good1 (gr_below HBV4.out hI) (gr_below HWV4.out hI)).mono fun e w' ⟨v, he, ho, hb⟩ => ⟨v, he, hb, by obtain ⟨A, n, c, e1, _, e2, _⟩ := ownk_open encP_len ho; exact ⟨A, n, c, e1, e2.out.symm⟩⟩) (margs rfl) ?_
    refine w_any (.val (.int .i64 1)) (by decide) (fun vs wq hI hK => ?_) ?_
    · obtain ⟨A, n, c, e1, rfl⟩ : ∃ A n c, vs 22 = .slice A n c ∧ n = 1 := hK 22 (memE rfl)
      exact ob_run [(44, .slice A 1 c)] (wants_g rfl (fv (hK 20 (memE rfl)))) ⟨rho_in rfl e1, trivial⟩ rfl (run_len_sl rfl Try.underlying22 rfl rfl) ⟨Below.refl _ _, rfl⟩
    refine w_val [(45, _)] (_) (fun vs w hK => ⟨wants_g rfl (fv (hK 20 (memE rfl))), rho_in rfl (fv (hK 23 (memE rfl))), trivial⟩) rfl (fun wq hI => by exact run_int_eql (r := true) rfl rfl rfl rfl) ?_
    refine w_pick (b := true) rfl (fun vs w hK => ⟨wants_none rfl, (rho_in rfl (fv (hK 20 (memE rfl)))), (rho_in rfl (fv (hK 24 (memE rfl))))⟩) ?_
    refine w_move (.inr rfl) (fun vs w hK => ⟨wants_none rfl, rho_in rfl (fv (hK 25 (memE rfl)))⟩) ?_
    refine w_end rfl rfl rfl (fun vs wq hI hF => ?_)
    simp only [List.reverse_cons, List.reverse_nil, List.nil_append, List.cons_append, finL_val, finL_of, finL_any, finL_app, finL_new, finL_gr, finL_row, finL_box, finL_nil, Act.put, List.setIfInBounds_toArray, List.set_cons_zero, List.set_cons_succ, Nat.reduceAdd]
    have HB9 := Lib.hid (below_then HB4.out HB4.out.size hI)
    clear hI hF
    go_wp2_with fail
    go_ret
    exact ⟨rfl, HB9.out⟩
  · exact absurd hip1 (hno _)
end Go.Proofs.Ytnkeijdpjcclcaa.Pg
-- PgH
/- Slices of pairs as arguments; bits of bytes. -/
namespace Go.Proofs.Ytnkeijdpjcclcaa.Pg
set_option linter.unusedVariables false
set_option linter.unusedSimpArgs false
open Go.Proofs.Ytnkeijdpjcclcaa.Kit Go.Proofs.Ytnkeijdpjcclcaa.Num Go.RowKit Go.ChangeShapes Go.Proofs.YtnkeijdpjcclcaaW.PrintWords Go.Proofs.YtnkeijdpjcclcaaW.PrintLast Go.Proofs.YtnkeijdpjcclcaaW.PrintMore NumPure
def okP (z : PB) : Prop := z.1.size ≤ maxLen ∧ z.2.size ≤ maxLen
theorem open_pairs {H : Type} {enc : TypeId × Value → H} {w : World} {base m : Nat} {held : Bool} {A : Option Addr} {n c : Nat} {x : DataW H × List MemPlace} (h : DataW.trod enc Try.prog w base (fun _ => true) held m 22 [.slice A n c] = some x) : ∃ xs, Sts encP 2 w A n xs ∧ n ≤ c ∧ ∀ z ∈ xs, okP z :=
  open_sts encP okP Try.underlying22 (by kernel_rfl) (fun cs m' y hy => by
    obtain ⟨y0, y1, n, _, hl, h0, h1⟩ := trod_struct2 Try.underlying30 hy
    rw [show Try.prog.cellsOf 30 = 2 by kernel_rfl] at hl
    change DataW.trod enc Try.prog w base _ held n 9 ((cs.drop 0).take (Try.prog.cellsOf 9)) = _ at h0
    change DataW.trod enc Try.prog w base _ held n 9 ((cs.drop 1).take (Try.prog.cellsOf 9)) = _ at h1
    rw [show Try.prog.cellsOf 9 = 1 by kernel_rfl] at h0 h1
    obtain ⟨a, e0, _, w0⟩ := DataW.trod_string Try.underlying9 h0
    obtain ⟨v, e1, _, w1⟩ := DataW.trod_string Try.underlying9 h1
    refine ⟨(a, v), ?_, ⟨w0, w1⟩⟩
    have := cut_cons e0 rfl (cut_cons e1 rfl (cut_end hl))
    rw [List.drop_zero] at this
    exact this) h
/-- A slice of pairs, as a fact of a walk. -/
def isSts (ps : List PB) (v : Value) (w : World) : Prop := ∃ A n c, v = .slice A n c ∧ Sts encP 2 w A n ps
theorem isSts_below {ps : List PB} {v : Value} {w w' : World} (h : isSts ps v w) (hb : Below w.heap.size w w') : isSts ps v w' := by
  obtain ⟨A, n, c, h1, h2⟩ := h
  exact ⟨A, n, c, h1, sts_below h2 hb⟩
theorem isSts_own {ps : List PB} {v : Value} {w : World} {B : Nat} (h : OwnK encP 2 30 w B v ps) : isSts ps v w := by
  obtain ⟨A, n, c, e1, _, _, _, e2⟩ := ownk_open encP_len h
  exact ⟨A, n, c, e1, e2⟩
theorem xor8 (a b : Nat) (ha : a < 256) (hb : b < 256) : Go.bits .xor .u8 (a : Int) (b : Int) = ((a ^^^ b : Nat) : Int) := by
  have hx : a ^^^ b < 2 ^ 8 := Nat.xor_lt_two_pow ha hb
  show IntKind.u8.wrap ((BitVec.ofInt 8 (a : Int) ^^^ BitVec.ofInt 8 (b : Int)).toNat : Int) = _
  rw [BitVec.ofInt_natCast, BitVec.ofInt_natCast, BitVec.toNat_xor, BitVec.toNat_ofNat, BitVec.toNat_ofNat, Nat.mod_eq_of_lt (by omega), Nat.mod_eq_of_lt (by omega)]
  exact u8_nat _ (by omega)
theorem xor_ne (a b : Nat) (hb : b ≠ 0) : a ^^^ b ≠ a := by
  intro h
  have h2 : a ^^^ (a ^^^ b) = a ^^^ a := by rw [h]
  rw [← Nat.xor_assoc, Nat.xor_self, Nat.zero_xor] at h2
  exact hb h2
theorem and16 (x : Int) : ∃ q : Nat, Go.bits .and .i64 x 65535 = (q : Int) ∧ q < 65536 := by
  refine ⟨(BitVec.ofInt 64 x).toNat % 65536, ?_, Nat.mod_lt _ (by omega)⟩
  have h1 : (BitVec.ofInt 64 (65535 : Int)).toNat = 2 ^ 16 - 1 := by decide
  show IntKind.i64.wrap ((BitVec.ofInt 64 x &&& BitVec.ofInt 64 65535).toNat : Int) = _
  rw [BitVec.toNat_and, h1, Nat.and_two_pow_sub_one_eq_mod]
  have h3 : (2 : Nat) ^ 16 = 65536 := by decide
  rw [h3, i64_id (by omega) (by omega)]
end Go.Proofs.Ytnkeijdpjcclcaa.Pg
