/- Slices whose elements have several cells (structs) or are texts: read; opened as arguments. -/
import Derived.Test.YtnkeijdpjcclcaaGrS
import Derived.Test.YtnkeijdpjcclcaaOpen
import Derived.Deep.Slices
import Derived.ChangeSame
import Derived.Deep.Strs
namespace Go.Proofs.Ytnkeijdpjcclcaa.Kit
set_option linter.unusedVariables false
set_option linter.unusedSimpArgs false
open Go.RowKit Go.ChangeShapes Go.WideShapes Go.Proofs.YtnkeijdpjcclcaaW.PrintWords Go.Proofs.YtnkeijdpjcclcaaW.PrintLast Go.Proofs.YtnkeijdpjcclcaaW.PrintMore
/-- A slice of elements of k cells each, that is read. -/
structure Sts {α : Type} (enc : α → List Value) (k : Nat) (w : World) (A : Option Addr) (n : Nat) (xs : List α) : Prop where
  len : xs.length = n
  max : n ≤ 9223372036854775807
  row : 0 < n → ∃ ad, A = some ad ∧ ∀ i x, xs[i]? = some x → ∀ j v, (enc x)[j]? = some v → w.cell? ((ad.add (i * k)).add j) = some v
theorem sts_below {α : Type} {enc : α → List Value} {k : Nat} {w w' : World} {A : Option Addr} {n : Nat} {xs : List α} (h : Sts enc k w A n xs) (hb : Below w.heap.size w w') : Sts enc k w' A n xs :=
  ⟨h.len, h.max, fun hn => by
    obtain ⟨ad, e, hc⟩ := h.row hn
    exact ⟨ad, e, fun i x hx j v hv => below_cell hb (hc i x hx j v hv)⟩⟩
theorem sts_nil {α : Type} (enc : α → List Value) (k : Nat) (w : World) (A : Option Addr) : Sts enc k w A 0 [] := ⟨rfl, by omega, fun h => absurd h (by omega)⟩
/-- Such a slice's type. -/
structure StTy (P : Program) (t e : TypeId) (k : Nat) : Prop where
  und : P.underlying t = some (.slice e)
  size : (P.info? e).map (·.size) = some k
theorem st_sizeOf {P : Program} {t e : TypeId} {k : Nat} (T : StTy P t e k) (w : World) : (sizeOf (P.elem t)).run P w = .ok k w := by
  have hel : P.elem t = e := by simp [Program.elem, T.und]
  rw [hel]
  have h := T.size
  cases hi : P.info? e with
  | none => rw [hi] at h; simp at h
  | some i =>
    rw [hi] at h
    have hs : i.size = k := by simpa using h
    simp [sizeOf, typeInfo, hi, hs]
theorem run_index_st {P : Program} {t e : TypeId} {k : Nat} (T : StTy P t e k) {ad : Addr} {n c i : Nat} {kd : IntKind} {j : Int} (hj : j = (i : Int)) (hi : i < n) (w : World) :
    (Instr.indexAt t (.slice (some ad) n c) (.int kd j)).run P w = .ok (.pointer (some (ad.add (i * k)))) w := by
  subst hj
  have hel : P.elem t = e := by simp [Program.elem, T.und]
  rw [run_indexAt_slice w t ad n c kd (i : Int) (by rw [hel]; exact T.und), if_pos ⟨by omega, by omega⟩, st_sizeOf T w]
  simp [Result.andThen]
theorem loadVar_at {P : Program} (w : World) (ad : Addr) (ty : TypeId) (cs : List Value) (d : TypeDesc) (hc : ∀ j v, cs[j]? = some v → w.cell? (ad.add j) = some v) (hu : P.underlying ty = some d) (hd : d.isRow = true) (hi : (P.info? ty).map (·.size) = some cs.length) :
    (loadVar ty ad).run P w = .ok (.agg cs.toArray) w := by
  have hl : (loadCells ad cs.length).run P w = .ok cs.toArray w := run_loadCells_list (P := P) w ad cs hc
  cases hq : P.info? ty with
  | none => simp [hq] at hi
  | some i =>
    have hs : i.size = cs.length := by simpa [hq] using hi
    have hagg : (isAgg ty).run P w = .ok true w := by
      unfold isAgg
      rw [Sem.run_bind, run_underlying hu w]
      cases d <;> simp_all
    simp [loadVar, Sem.run_bind, hagg, sizeOf, typeInfo, hq, hs, hl]
theorem run_loadAt_at {P : Program} (w : World) (ad : Addr) (ty : TypeId) (cs : List Value) (d : TypeDesc) (hc : ∀ j v, cs[j]? = some v → w.cell? (ad.add j) = some v) (hu : P.underlying ty = some d) (hd : d.isRow = true) (hi : (P.info? ty).map (·.size) = some cs.length) :
    (Instr.loadAt ty (.pointer (some ad))).run P w = .ok (.agg cs.toArray) w := by
  simp only [Instr.loadAt, Instr.sureAddr, Sem.run_bind, Sem.run_pure, Result.andThen_ok, loadVar_at w ad ty cs d hc hu hd hi]
section
variable {P : Program} {ops : Array Oper} {rest : List Oper} {op : Oper} {a : Act} {w : World} {Q : Exit → Act → World → Prop}
theorem wpList_index_st (hgd : op.guard = none) (t : TypeId) (x y : Operand) (ho : op.op = .indexAddr t x y) {e : TypeId} {k : Nat} (T : StTy P t e k) {ad : Addr} {n c i : Nat} {kd : IntKind} {j : Int} (hx : a.eval x = .slice (some ad) n c) (hy : a.eval y = .int kd j) (hj : j = (i : Int)) (hi : i < n)
    (h : wpList P ops Q rest (a.put op.dst (.pointer (some (ad.add (i * k))))) w) : wpList P ops Q (op :: rest) a w := by
  refine wpList_plain hgd fun K hK => ?_
  unfold Oper.wp execOp
  simp only [ho, hx, hy, Sem.run_bind, run_index_st T hj hi w, Result.andThen_ok, Sem.run_pure]
  exact hK _ _ h
theorem wpList_load_at (hgd : op.guard = none) (ty : TypeId) (x : Operand) (ho : op.op = .load ty x) (ad : Addr) (cs : List Value) (hx : a.eval x = .pointer (some ad)) {d : TypeDesc}
    (hc : ∀ j v, cs[j]? = some v → w.cell? (ad.add j) = some v) (hu : P.underlying ty = some d) (hd : d.isRow = true) (hi : (P.info? ty).map (·.size) = some cs.length)
    (h : wpList P ops Q rest (a.put op.dst (.agg cs.toArray)) w) : wpList P ops Q (op :: rest) a w := by
  refine wpList_plain hgd fun K hK => ?_
  unfold Oper.wp execOp
  simp only [ho, hx, Sem.run_bind, run_loadAt_at w ad ty cs d hc hu hd hi, Result.andThen_ok, Sem.run_pure]
  exact hK _ _ h
end
section
variable {P : Program} {o : Oper} {l : List (Nat × Value)} {x y : Operand} {w : World}
theorem op_index_st {t e : TypeId} {k : Nat} (T : StTy P t e k) (ho : o.op = .indexAddr t x y) {ad : Addr} {n c i : Nat} {kd : IntKind} {j : Int} (hx : lk l x = .slice (some ad) n c) (hy : lk l y = .int kd j) (hj : j = (i : Int)) (hi : i < n) :
    (execOp (lk l) o).run P w = .ok (.value (.pointer (some (ad.add (i * k))))) w := by
  unfold execOp
  simp only [ho, hx, hy, Sem.run_bind, run_index_st T hj hi w, Result.andThen_ok, Sem.run_pure]
theorem op_load_at {ty : TypeId} (ho : o.op = .load ty x) (ad : Addr) (cs : List Value) (hx : lk l x = .pointer (some ad)) {d : TypeDesc}
    (hc : ∀ j v, cs[j]? = some v → w.cell? (ad.add j) = some v) (hu : P.underlying ty = some d) (hd : d.isRow = true) (hi : (P.info? ty).map (·.size) = some cs.length) :
    (execOp (lk l) o).run P w = .ok (.value (.agg cs.toArray)) w := run_load_op ho hx (run_loadAt_at w ad ty cs d hc hu hd hi)
end
section
variable {H : Type} {enc : TypeId × Value → H} {P : Program} {w : World} {base m : Nat} {held : Bool} {t e : TypeId}
/-- Such an argument, opened. -/
theorem open_sts {α : Type} [Inhabited α] (enc' : α → List Value) (ok : α → Prop) {k : Nat} {A : Option Addr} {n c : Nat} {x : DataW H × List MemPlace} (ht : P.underlying t = some (.slice e)) (hk : P.cellsOf e = k)
    (hel : ∀ (cs : List Value) (m' : Nat) (y : DataW H × List MemPlace), DataW.trod enc P w base (fun _ => true) held m' e cs = some y → ∃ z : α, cs = enc' z ∧ ok z)
    (h : DataW.trod enc P w base (fun _ => true) held m t [.slice A n c] = some x) : ∃ xs, Sts enc' k w A n xs ∧ n ≤ c ∧ ∀ z ∈ xs, ok z := by
  have hmx : maxLen = 9223372036854775807 := rfl
  rcases Go.Deep.open_slice ht h with ⟨hcs, _⟩ | ⟨a, len, cap, m', n', D, Pl, hcs, hb, hl, hm, hmm, hx, hV⟩
  · simp at hcs
    obtain ⟨rfl, rfl, rfl⟩ := hcs
    exact ⟨[], sts_nil _ _ _ _, Nat.le_refl _, fun z hz => by cases hz⟩
  · simp at hcs
    obtain ⟨rfl, rfl, rfl⟩ := hcs
    have hm2 : m' = c := by simpa using hmm
    have hp : ∀ i, i < n → ∃ z : α, (∀ j v, (enc' z)[j]? = some v → w.cell? ((a.add (i * k)).add j) = some v) ∧ ok z := fun i hi => by
      obtain ⟨cs', h1, h2⟩ := hV i (by omega)
      obtain ⟨z, hz, hok⟩ := hel _ _ _ h2
      obtain ⟨_, hlen, hcell⟩ := World.cells?_some h1
      refine ⟨z, fun j v hv => ?_, hok⟩
      rw [← hz] at hv
      have hj : j < cs'.length := (List.getElem?_eq_some_iff.1 hv).1
      rw [← hk, hcell j (by omega)]
      exact hv
    obtain ⟨f, hf⟩ := Go.Deep.choose_lt hp
    refine ⟨(List.range n).map f, ⟨by simp, by omega, fun _ => ⟨a, rfl, fun i x hx j v hv => ?_⟩⟩, hl, fun z hz => ?_⟩
    · rw [List.getElem?_map] at hx
      have hin : i < n := by
        rcases Nat.lt_or_ge i n with g | g
        · exact g
        · rw [List.getElem?_eq_none (by simpa using g)] at hx; cases hx
      rw [List.getElem?_range hin] at hx
      simp only [Option.map_some, Option.some.injEq] at hx
      subst hx
      exact (hf i hin).1 j v hv
    · obtain ⟨i, hi, rfl⟩ := List.mem_map.1 hz
      exact (hf i (by simpa using hi)).2
end
end Go.Proofs.Ytnkeijdpjcclcaa.Kit
