/- Rows of the call's own, of elements that have several cells. -/
import Derived.Test.YtnkeijdpjcclcaaSt
import Derived.Test.YtnkeijdpjcclcaaBox
import Derived.DataElems
import Derived.Maps.AppendAt
import Derived.Great.BuildSlice
namespace Go.Proofs.Ytnkeijdpjcclcaa.Kit
set_option linter.unusedVariables false
set_option linter.unusedSimpArgs false
open Go.RowKit Go.ChangeShapes Go.WideShapes Go.Proofs.YtnkeijdpjcclcaaW.PrintWords Go.Proofs.YtnkeijdpjcclcaaW.PrintLast Go.Proofs.YtnkeijdpjcclcaaW.PrintMore
section
variable {α : Type} {enc : α → List Value} {k : Nat} {e : TypeId} {w w' : World} {B : Nat} {v : Value} {xs : List α}
def OwnK {α : Type} (enc : α → List Value) (k : Nat) (e : TypeId) (w : World) (B : Nat) (v : Value) (xs : List α) : Prop := w.ownsRow B e k v xs.length (xs.flatMap enc)
theorem ownk_nil (enc : α → List Value) (k : Nat) (e : TypeId) (w : World) (B : Nat) : OwnK enc k e w B (.slice none 0 0) [] := World.ownsRow_nil w B e k
theorem ownk_lower {B' : Nat} (h : OwnK enc k e w B v xs) (hb : B' ≤ B) : OwnK enc k e w B' v xs := ⟨h.1, h.2.imp id fun ⟨g, cap, cur, a, b, c⟩ => ⟨g, cap, cur, a, Nat.le_trans hb b, c⟩⟩
theorem ownk_move (h : OwnK enc k e w B v xs) (hb : ∀ j, v.ownBlock = some j → w'.heap[j]? = w.heap[j]?) : OwnK enc k e w' B v xs := own_move h hb
theorem ownk_lt (h : OwnK enc k e w B v xs) : ∀ j, v.ownBlock = some j → j < w.heap.size := own_lt h
theorem ownk_base (h : OwnK enc k e w B v xs) : ∀ j, v.ownBlock = some j → B ≤ j := own_base h
theorem ownk_below (h : OwnK enc k e w B v xs) (hb : Below w.heap.size w w') : OwnK enc k e w' B v xs := ownk_move h fun j hj => hb.block j (ownk_lt h j hj)
theorem flat_length (hk : ∀ x, (enc x).length = k) : ∀ xs : List α, (xs.flatMap enc).length = xs.length * k
  | [] => by simp
  | x :: xs => by
    rw [List.flatMap_cons, List.length_append, flat_length hk xs, hk, List.length_cons, Nat.add_mul, Nat.one_mul]; omega
theorem flat_get (hk : ∀ x, (enc x).length = k) : ∀ (xs : List α) (i : Nat) (x : α), xs[i]? = some x → ∀ j u, (enc x)[j]? = some u → (xs.flatMap enc)[i * k + j]? = some u
  | [], i, x, hx, j, u, hu => by simp at hx
  | y :: xs, 0, x, hx, j, u, hu => by
    simp only [List.getElem?_cons_zero, Option.some.injEq] at hx
    subst hx
    rw [List.flatMap_cons, Nat.zero_mul, Nat.zero_add, List.getElem?_append_left]
    · exact hu
    · rcases Nat.lt_or_ge j (enc y).length with g | g
      · exact g
      · rw [List.getElem?_eq_none g] at hu; cases hu
  | y :: xs, i + 1, x, hx, j, u, hu => by
    rw [List.getElem?_cons_succ] at hx
    have ih := flat_get hk xs i x hx j u hu
    have e1 : (i + 1) * k + j = (enc y).length + (i * k + j) := by rw [hk, Nat.add_mul, Nat.one_mul]; omega
    rw [List.flatMap_cons, e1, List.getElem?_append_right (by omega), Nat.add_sub_cancel_left]
    exact ih
theorem ownk_open (hk : ∀ x, (enc x).length = k) (h : OwnK enc k e w B v xs) : ∃ A n c, v = .slice A n c ∧ n ≤ c ∧ Hid (xs.length = n) ∧ n ≤ 9223372036854775807 ∧ Sts enc k w A n xs := by
  rcases h.2 with ⟨rfl, hn⟩ | ⟨g, cap, cur, rfl, b, c, d, e1, f, g2⟩
  · obtain rfl : xs = [] := List.eq_nil_of_length_eq_zero hn
    exact ⟨none, 0, 0, rfl, Nat.le_refl _, Lib.hid rfl, by omega, sts_nil enc k w none⟩
  · have hm : xs.length ≤ 9223372036854775807 := by simp only [maxLen] at e1; omega
    refine ⟨_, _, cap, rfl, d, Lib.hid rfl, hm, ⟨rfl, hm, fun hp => ⟨_, rfl, fun i x hx j u hu => ?_⟩⟩⟩
    have hf := flat_get hk xs i x hx j u hu
    rw [Go.Proofs.YtnkeijdpjcclcaaW.PrintWords.add_plain, WideShapes.add_plain]
    rw [← g2, List.getElem?_take] at hf
    split at hf
    · simp only [World.cell?, c]
      simpa using hf
    · cases hf
/-- What an element type is. -/
structure EType (P : Program) (t e : TypeId) (k bytes : Nat) (z : Value) : Prop where
  und : P.underlying t = some (.slice e)
  info : (P.info? e).map (fun i => (i.zero, i.size, i.bytes)) = some (some z, k, bytes)
  zs : z.cells.size = k
  pos : 0 < k
theorem etype_st {P : Program} {t e : TypeId} {k bytes : Nat} {z : Value} (T : EType P t e k bytes z) : StTy P t e k := ⟨T.und, by
  have h := T.info
  cases hi : P.info? e with
  | none => rw [hi] at h; simp at h
  | some i => rw [hi] at h; simp only [Option.map_some, Option.some.injEq, Prod.mk.injEq] at h; simp [h.2.1]⟩
/-- The run of an append of elements of several cells. -/
theorem ownk_run {P : Program} {t : TypeId} {bytes : Nat} {z : Value} (hk : ∀ x, (enc x).length = k) (h1 : ∀ x, ∀ u ∈ enc x, u.oneCell' = true) (T : EType P t e k bytes z) (ty : TypeId)
    {W : World} {B : Nat} {v : Value} {xs ys : List α} {ad : Addr} {m c : Nat}
    (HO : OwnK enc k e W B v xs) (HR : Sts enc k W (some ad) m ys) (hbase : B ≤ W.heap.size) (hl : (xs.length + m) * bytes ≤ 140737488355328) (hl2 : xs.length + m ≤ 9223372036854775807) :
    ∃ v1 w1, (Builtin.append_ #[t, t] ty #[v, .slice (some ad) m c]).run P W = .ok v1 w1 ∧ OwnK enc k e w1 B v1 (xs ++ ys) ∧ Fr W w1 v v1 := by
  have hi := T.info
  cases hq : P.info? e with
  | none => rw [hq] at hi; simp at hi
  | some i =>
    rw [hq] at hi
    simp only [Option.map_some, Option.some.injEq, Prod.mk.injEq] at hi
    obtain ⟨i1, i2, i3⟩ := hi
    have hnews : ∀ j u, (ys.flatMap enc)[j]? = some u → W.cell? (ad.add j) = some u := by
      intro j u hu
      have hjl : j < ys.length * k := by
        rw [← flat_length hk ys]
        rcases Nat.lt_or_ge j (ys.flatMap enc).length with g | g
        · exact g
        · rw [List.getElem?_eq_none g] at hu; cases hu
      have hpos := T.pos
      have hm : 0 < m := by
        rw [← HR.len]
        rcases Nat.eq_zero_or_pos ys.length with g | g
        · rw [g] at hjl; omega
        · exact g
      obtain ⟨ad', e1, hc⟩ := HR.row hm
      injection e1 with e1
      subst e1
      have hdm := Nat.div_add_mod j k
      have hji : j / k < ys.length := Nat.div_lt_of_lt_mul (by rw [Nat.mul_comm]; exact hjl)
      have hmod : j % k < k := Nat.mod_lt _ hpos
      have hsplit : j = j / k * k + j % k := by rw [Nat.mul_comm]; omega
      have hxx : ys[j / k]? = some ys[j / k] := List.getElem?_eq_getElem hji
      have huu : (enc ys[j / k])[j % k]? = some ((enc ys[j / k])[j % k]'(by rw [hk]; exact hmod)) := List.getElem?_eq_getElem _
      have hf := flat_get hk ys _ _ hxx _ _ huu
      rw [← hsplit, hu] at hf
      injection hf with hf
      have := hc _ _ hxx _ _ huu
      rw [← hf] at this
      rw [← this, Addr.add_add, ← hsplit]
    obtain ⟨v1, w1, r1, r2, r3, _, r5⟩ := run_append_own_at (P := P) W B t ty e i z k bytes T.und hq i1 i2 i3 T.zs T.pos v xs.length (xs.flatMap enc) HO ad m c (ys.flatMap enc) (by rw [flat_length hk, HR.len]) hnews (fun u hu => by
      obtain ⟨y, _, hy⟩ := List.mem_flatMap.1 hu
      exact h1 y u hy) (by simp only [maxLen]; exact hl2) hl hbase
    refine ⟨v1, w1, r1, ?_, ⟨r3, ?_⟩⟩
    · show w1.ownsRow B e k v1 (xs ++ ys).length ((xs ++ ys).flatMap enc)
      rw [List.length_append, HR.len, List.flatMap_append]
      exact r2
    · rcases r5 with r5 | r5
      · exact .inl r5
      · exact .inr ⟨_, r5, Nat.le_refl _⟩
/-- append(v, x...) of elements of several cells, behind at_builtin. -/
theorem gapp_sts {P : Program} {ops : Array Oper} {rest : List Oper} {o : Oper} {a : Act} {Q : Exit → Act → World → Prop} {t : TypeId} {bytes : Nat} {z : Value} (hk : ∀ x, (enc x).length = k) (h1 : ∀ x, ∀ u ∈ enc x, u.oneCell' = true) (T : EType P t e k bytes z) (hgd : o.guard = none) (s x : Operand) (ho : o.op = .call { callee := .builtin .append, args := #[s, x], argTypes := #[t, t] })
    {w0 W : World} {B : Nat} {v : Value} {xs ys : List α} {ad : Addr} {m c : Nat} (hs : a.eval s = v) (hx : a.eval x = .slice (some ad) m c)
    (HO : OwnK enc k e W B v xs) (HR : Sts enc k W (some ad) m ys) (HB : Below B w0 W) (hbase : B ≤ W.heap.size) (hl : (xs.length + m) * bytes ≤ 140737488355328) (hl2 : xs.length + m ≤ 9223372036854775807)
    (h : ∀ v1 w1, OwnK enc k e w1 B v1 (xs ++ ys) → Below B w0 w1 → B ≤ w1.heap.size → Fr W w1 v v1 → wpList P ops Q rest (a.put o.dst v1) w1) :
    wpList P ops Q (o :: rest) a W := by
  obtain ⟨v1, w1, hrun, k1, k2⟩ := ownk_run (c := c) hk h1 T o.type HO HR hbase hl hl2
  refine wpList_plain hgd fun K hK => ?_
  unfold Oper.wp execOp
  simp only [ho, resolve, invoke, builtin, Sem.run_bind, Sem.run_pure, Result.andThen_ok, List.map_toArray, List.map_cons, List.map_nil, hs, hx, hrun]
  exact hK _ _ (h v1 w1 k1 (HB.grown k2.grown hbase (ownk_base HO)) (Nat.le_trans hbase k2.grown.size) k2)
/-- A literal of one element of several cells. -/
theorem op_lit1 {P : Program} {o : Oper} {l : List (Nat × Value)} {x : Operand} {t : TypeId} {bytes : Nat} {z : Value} (T : EType P t e k bytes z) (hk24 : k ≤ 16777216) (ho : o.op = .buildSlice t 1 #[(0, x)]) {cs : List Value} (hx : lk l x = .agg cs.toArray)
    (hfill : Instr.fill (fun i => some (i * k, k)) ((Array.range (1 * k)).map (z.cells[· % z.cells.size]!)) [(0, .agg cs.toArray)] = some cs.toArray) :
    (execOp (lk l) o).run P w = .ok (.value (.slice (some ⟨w.heap.size, 0, none⟩) 1 1)) (w.alloc (.cells cs.toArray e)) := by
  have hi := T.info
  have hp := T.pos
  cases hq : P.info? e with
  | none => rw [hq] at hi; simp at hi
  | some i =>
    rw [hq] at hi
    simp only [Option.map_some, Option.some.injEq, Prod.mk.injEq] at hi
    obtain ⟨i1, i2, i3⟩ := hi
    have hrun := run_buildSlice (P := P) w t e 1 #[(0, .agg cs.toArray)] cs.toArray i z T.und hq i1 (by rw [i2]; omega) (by rw [i2]; omega) (by rw [i2]; exact hfill)
    unfold execOp
    simp only [ho, Sem.run_bind, List.map_toArray, List.map_cons, List.map_nil, hx, hrun, Result.andThen_ok, Sem.run_pure]
theorem sts_one {g : Nat} {cs : List Value} {p : α} (hk : ∀ x, (enc x).length = k) (hp : enc p = cs) (h : w.heap[g]? = some (.cells cs.toArray e)) : Sts enc k w (some ⟨g, 0, none⟩) 1 [p] :=
  ⟨rfl, by omega, fun _ => ⟨_, rfl, fun i x hx j u hu => by
    cases i with
    | succ i => simp at hx
    | zero =>
      simp only [List.getElem?_cons_zero, Option.some.injEq] at hx
      subst hx
      rw [Nat.zero_mul, Go.Proofs.YtnkeijdpjcclcaaW.PrintWords.add_plain, WideShapes.add_plain, Nat.zero_add]
      rw [hp] at hu
      simp only [World.cell?, h]
      simpa using hu⟩⟩
end
end Go.Proofs.Ytnkeijdpjcclcaa.Kit
