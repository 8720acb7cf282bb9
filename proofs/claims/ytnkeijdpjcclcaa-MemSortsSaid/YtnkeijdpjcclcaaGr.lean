/- Rows that may be appended to: rows of the call's own, and rows that are full (a constant's bytes, which bear a mark). -/
import Derived.Test.YtnkeijdpjcclcaaKit
import Derived.Test.YtnkeijdpjcclcaaWGuard
import Derived.Lib.SlBytesConst
import Derived.Lib.ConvBytes
import Derived.Maps.AppendAt
namespace Go.Proofs.Ytnkeijdpjcclcaa.Kit
set_option linter.unusedVariables false
open Go.RowKit Go.Proofs.YtnkeijdpjcclcaaW.PrintWords Go.Proofs.YtnkeijdpjcclcaaW.PrintLast Go.Proofs.YtnkeijdpjcclcaaW.PrintMore

section
variable {P : Program} {ops : Array Oper} {rest : List Oper} {o : Oper} {a : Act} {Q : Exit → Act → World → Prop} {Kc : Act → World → Prop} {α : Type} {enc : α → Value} {h1 : ∀ x, (enc x).oneCell' = true} {z : Value} {t e : TypeId} {bytes : Nat}
/-- A row that bears a mark behind its end (a conversion's), or none: it may be appended to. -/
def MkE {α : Type} (enc : α → Value) (e : TypeId) (w : World) (B : Nat) (v : Value) (xs : List α) : Prop :=
  ∃ g cap cur fr, v = .slice (some ⟨g, 0, none⟩) xs.length cap ∧ B ≤ g ∧ w.heap[g]? = some (.cells cur e fr) ∧ cur.size ≤ fr.1 ∧ xs.length ≤ cap ∧ cap ≤ 9223372036854775807 ∧ cur.size = cap ∧ cur.toList.take xs.length = encs enc xs
/-- A row of the call's own, or a marked one. -/
def GrE {α : Type} (enc : α → Value) (h1 : ∀ x, (enc x).oneCell' = true) (e : TypeId) (w : World) (B : Nat) (v : Value) (xs : List α) : Prop :=
  OwnE enc h1 e w B v xs ∨ MkE enc e w B v xs
abbrev Gr (k : IntKind) (e : TypeId) (w : World) (B : Nat) (v : Value) (xs : List Int) : Prop := GrE (Value.int k) (int_one k) e w B v xs
theorem gr_own {w : World} {B : Nat} {v : Value} {xs : List α} (h : OwnE enc h1 e w B v xs) : GrE enc h1 e w B v xs := .inl h
theorem gr_nil (e : TypeId) (w : World) (B : Nat) : GrE enc h1 e w B (.slice none 0 0) [] := .inl (own_e_nil e w B)
theorem gr_lower {w : World} {B B' : Nat} {v : Value} {xs : List α} (h : GrE enc h1 e w B v xs) (hb : B' ≤ B) : GrE enc h1 e w B' v xs := by
  rcases h with h | ⟨g, cap, cur, fr, hv, h1, h2⟩
  · exact .inl (own_lower h hb)
  · exact .inr ⟨g, cap, cur, fr, hv, by omega, h2⟩
theorem mk_lt {w : World} {g : Nat} {o : Obj} (h : w.heap[g]? = some o) : g < w.heap.size := (Array.getElem?_eq_some_iff.1 h).1
/-- The row's block is as it was. -/
theorem mk_move {w w' : World} {B : Nat} {v : Value} {xs : List α} (h : MkE enc e w B v xs) (hb : ∀ k, v.ownBlock = some k → w'.heap[k]? = w.heap[k]?) : MkE enc e w' B v xs := by
  obtain ⟨g, cap, cur, fr, rfl, k1, k2, k3⟩ := h
  exact ⟨g, cap, cur, fr, rfl, k1, (hb g rfl).trans k2, k3⟩
theorem gr_move {w w' : World} {B : Nat} {v : Value} {xs : List α} (h : GrE enc h1 e w B v xs) (hb : ∀ k, v.ownBlock = some k → w'.heap[k]? = w.heap[k]?) : GrE enc h1 e w' B v xs := by
  rcases h with h | h
  · exact .inl (Kd.R_of_own (own_move (Kd.own_of_R h) hb) (fun _ _ => trivial))
  · exact .inr (mk_move h hb)
theorem gr_lt {w : World} {B : Nat} {v : Value} {xs : List α} (h : GrE enc h1 e w B v xs) : ∀ j, v.ownBlock = some j → j < w.heap.size := by
  rcases h with h | ⟨g, cap, cur, fr, rfl, k1, k2, k3⟩
  · exact fun j hj => own_lt (Kd.own_of_R h) j hj
  · intro j hj
    simp only [Value.ownBlock, Option.some.injEq] at hj
    subst hj
    exact mk_lt k2
theorem gr_base {w : World} {B : Nat} {v : Value} {xs : List α} (h : GrE enc h1 e w B v xs) : ∀ j, v.ownBlock = some j → B ≤ j := by
  rcases h with h | ⟨g, cap, cur, fr, rfl, k1, k2, k3⟩
  · exact fun j hj => own_base (Kd.own_of_R h) j hj
  · intro j hj
    simp only [Value.ownBlock, Option.some.injEq] at hj
    omega
theorem gr_below {w w' : World} {B : Nat} {v : Value} {xs : List α} (h : GrE enc h1 e w B v xs) (hb : Below w.heap.size w w') : GrE enc h1 e w' B v xs :=
  gr_move h fun k hk => hb.block k (gr_lt h k hk)
theorem mk_cells {w : World} {g cap : Nat} {cur : Array Value} {fr : Nat × Nat} {xs : List α} (h : w.heap[g]? = some (.cells cur e fr)) (ht : cur.toList.take xs.length = encs enc xs) :
    ∀ j u, (encs enc xs)[j]? = some u → w.cell? ((⟨g, 0, none⟩ : Addr).add j) = some u := by
  intro j u hu
  rw [add_plain]
  rw [← ht, List.getElem?_take] at hu
  split at hu
  · simp only [World.cell?, h]
    simpa using hu
  · cases hu
theorem mk_rds (d : α) {w : World} {g cap : Nat} {cur : Array Value} {fr : Nat × Nat} {xs : List α} (h : w.heap[g]? = some (.cells cur e fr)) (hc : xs.length ≤ cap) (hm : cap ≤ 9223372036854775807) (ht : cur.toList.take xs.length = encs enc xs) :
    RdsE enc h1 w (some ⟨g, 0, none⟩) xs.length xs :=
  Kd.C_of_reads (d := d) ⟨rfl, by omega, fun hp => ⟨_, rfl, fun j hj => mk_cells (cap := cap) h ht j _ (by simp [encs, List.getElem?_eq_getElem hj, List.getD_eq_getElem?_getD])⟩⟩
theorem gr_open [Inhabited α] {w : World} {B : Nat} {v : Value} {xs : List α} (h : GrE enc h1 e w B v xs) :
    ∃ A n c, v = .slice A n c ∧ n ≤ c ∧ Hid (xs.length = n) ∧ n ≤ 9223372036854775807 ∧ RdsE enc h1 w A n xs := by
  rcases h with h | ⟨g, cap, cur, fr, hv, k1, k2, k3, k4, k5, k6, k7⟩
  · exact own_open h
  · exact ⟨_, _, cap, hv, k4, Lib.hid rfl, by omega, mk_rds default k2 k4 k5 k7⟩
/-- A constant's bytes, as they are laid: a marked row. -/
theorem gr_marked {e : TypeId} (w : World) (B : Nat) (fr : Nat × Nat) (xs : List α) (n : Nat) (hfr : n ≤ fr.1) (hn : xs.length = n) (hB : B ≤ w.heap.size) (hm : xs.length ≤ 9223372036854775807) :
    GrE enc h1 e (w.alloc (.cells (encs enc xs).toArray e fr)) B (.slice (some ⟨w.heap.size, 0, none⟩) n n) xs := by
  subst hn
  exact .inr ⟨w.heap.size, xs.length, _, fr, rfl, hB, heap_alloc_new w _, by simpa [encs] using hfr, Nat.le_refl _, hm, by simp [encs], by rw [List.take_of_length_le (by simp [encs])]⟩
theorem info_of (T : SlTy P t e z bytes) : ∃ i, P.info? e = some i ∧ i.zero = some z ∧ i.size = 1 ∧ i.bytes = bytes := by
  have h := T.info
  cases hi : P.info? e with
  | none => rw [hi] at h; simp at h
  | some i =>
    rw [hi] at h
    simp only [Option.map_some, Option.some.injEq, Prod.mk.injEq] at h
    exact ⟨i, rfl, h.1, h.2.1, h.2.2⟩
/-- What an append leaves: the row, longer; nothing but its block turned, or a new one. -/
structure Apd {α : Type} (enc : α → Value) (h1 : ∀ x, (enc x).oneCell' = true) (e : TypeId) (W w1 : World) (B : Nat) (v v1 : Value) (xs : List α) : Prop where
  own : GrE enc h1 e w1 B v1 xs
  fr : Fr W w1 v v1
/-- The run of an append onto such a row, its source read. -/
theorem gr_run [Inhabited α] (T : SlTy P t e z bytes) (ty : TypeId) {W : World} {B : Nat} {v : Value} {xs ys : List α} {A : Option Addr} {m c : Nat} (HO : GrE enc h1 e W B v xs) (HR : RdsE enc h1 W A m ys) (hbase : B ≤ W.heap.size) (hl : (xs.length + m) * bytes ≤ 140737488355328) :
    ∃ v1 w1, (Builtin.append_ #[t, t] ty #[v, .slice A m c]).run P W = .ok v1 w1 ∧ Apd enc h1 e W w1 B v v1 (xs ++ ys) := by
  obtain ⟨i, hi, hz, hsize, hby⟩ := info_of T
  have hp := T.pos
  have hm : ys.length = m := rds_len HR
  have hn1 : xs.length + m ≤ 140737488355328 := Nat.le_trans (Nat.le_mul_of_pos_right _ hp) hl
  rcases A with _ | ad
  · have h0 : m = 0 := by
      rcases Nat.eq_zero_or_pos m with h0 | h0
      · exact h0
      · obtain ⟨ad, h, _⟩ := rds_at default HR 0 h0
        cases h
    subst h0
    obtain rfl : ys = [] := List.eq_nil_of_length_eq_zero hm
    rw [List.append_nil]
    refine ⟨v, W, ?_, HO, ⟨World.grownBy.refl W _, .inl rfl⟩⟩
    rcases HO with HO | ⟨g, cap, cur, fr, rfl, k1, k2, k3, k4, k5, k6, k7⟩
    · rcases (Kd.own_of_R HO).2 with ⟨rfl, hn⟩ | ⟨g, cap, cur, rfl, _, _, hnc, _⟩
      · simp [Builtin.append_, run_underlying T.und, sizeOf, typeInfo, hi, Builtin.lenOf, Builtin.firstCells]
      · simp [Builtin.append_, run_underlying T.und, sizeOf, typeInfo, hi, Builtin.lenOf, Builtin.firstCells, hnc, storeCells]
    · simp [Builtin.append_, run_underlying T.und, sizeOf, typeInfo, hi, Builtin.lenOf, Builtin.firstCells, k4, storeCells]
  · have hnews : ∀ j u, (encs enc ys)[j]? = some u → W.cell? (ad.add j) = some u := by
      intro j u hu
      have hj : j < ys.length := by
        rcases Nat.lt_or_ge j (encs enc ys).length with h | h
        · simpa [encs] using h
        · rw [List.getElem?_eq_none h] at hu; cases hu
      obtain ⟨ad', e1, hc⟩ := rds_at default HR j (by omega)
      injection e1 with e1
      subst e1
      rw [hc, ← hu]
      simp [encs, List.getElem?_eq_getElem hj, List.getD_eq_getElem?_getD]
    have hone : ∀ u ∈ encs enc ys, u.oneCell' = true := by
      intro u hu
      obtain ⟨x, _, rfl⟩ := List.mem_map.1 hu
      exact h1 x
    have hyl : (encs enc ys).length = m := by rw [encs, List.length_map, hm]
    rcases HO with HO | ⟨g, cap, cur, fr, rfl, k1, k2, k3, k4, k5, k6, k7⟩
    · obtain ⟨v1, w1, hrun, h2, hg, _, hat⟩ := run_append_own_at (P := P) W B t ty e i z 1 bytes T.und hi hz hsize hby T.one (by omega) v xs.length (encs enc xs) (Kd.own_of_R HO) ad m c (encs enc ys) (by rw [hyl, Nat.mul_one]) hnews hone (by simp only [maxLen]; omega) hl hbase
      refine ⟨v1, w1, hrun, .inl (Kd.R_of_own ?_ (fun _ _ => trivial)), ⟨hg, ?_⟩⟩
      · rw [List.length_append, hm, show encs enc (xs ++ ys) = encs enc xs ++ encs enc ys by simp [encs]]
        exact h2
      · rcases hat with hat | hat
        · exact .inl hat
        · exact .inr ⟨_, hat, Nat.le_refl _⟩
    · have hf := run_firstCells_some (P := P) (w := W) i.size m ad m c (encs enc ys) (by rw [hyl, hsize, Nat.mul_one]) hnews
      by_cases hroom : xs.length + m ≤ cap
      · have hst : (storeCells ⟨g, xs.length, none⟩ (encs enc ys) 0).run P W = .ok () (W.setRow g (cur.toList.take (xs.length + 0) ++ encs enc ys ++ cur.toList.drop (xs.length + 0 + (encs enc ys).length)).toArray) := by
          have key : ∀ (vs : List Value) (i : Nat) (cur : Array Value) (w : World), w.heap[g]? = some (.cells cur e fr) → cur.size ≤ fr.1 → xs.length + i + vs.length ≤ cur.size → (∀ v ∈ vs, v.oneCell' = true) →
              (storeCells ⟨g, xs.length, none⟩ vs i).run P w = .ok () (w.setRow g (cur.toList.take (xs.length + i) ++ vs ++ cur.toList.drop (xs.length + i + vs.length)).toArray) := by
            intro vs
            induction vs with
            | nil =>
              intro i cur w hg _ _ _
              simp only [storeCells, List.append_nil, List.length_nil, Nat.add_zero, List.take_append_drop, Array.toArray_toList]
              rw [setRow_self w g cur e fr hg]
              rfl
            | cons v rest ih =>
              intro i cur w hg hfr hl h1
              have hi : xs.length + i < cur.size := by simp at hl; omega
              have hadd : (⟨g, xs.length, none⟩ : Addr).add i = ⟨g, xs.length + i, none⟩ := by unfold Addr.add; split <;> simp_all
              have hcell : w.cell? ⟨g, xs.length + i, none⟩ = some cur[xs.length + i] := by simp [World.cell?, hg, hi]
              have hfro : w.frozen? ⟨g, xs.length + i, none⟩ = false := by
                obtain ⟨lo, hi'⟩ := fr
                simp only [World.frozen?, hg, Bool.and_eq_false_iff, decide_eq_false_iff_not]
                left
                simp only at hfr
                omega
              have hst : (store ((⟨g, xs.length, none⟩ : Addr).add i) v).run P w = .ok () (w.setRow g (cur.setIfInBounds (xs.length + i) v)) := by
                rw [hadd, run_store P w _ v _ (h1 v (by simp)), hcell]
                simp [hfro, setCell_eq_setRow w g (xs.length + i) cur e fr v hg]
              have ih := ih (i + 1) (cur.setIfInBounds (xs.length + i) v) (w.setRow g (cur.setIfInBounds (xs.length + i) v)) (setRow_heap w g cur _ e _ hg) (by simpa using hfr) (by simp at hl ⊢; omega) (fun x hx => h1 x (by simp [hx]))
              simp only [storeCells, Sem.run_bind, hst, Result.andThen_ok, ih, setRow_setRow]
              congr 3
              have e := list_seg_step cur.toList (xs.length + i) v rest (by simp at hl ⊢; omega)
              simpa [Array.toList_setIfInBounds, Nat.add_assoc] using e
          exact key (encs enc ys) 0 cur W k2 k3 (by rw [hyl]; omega) hone
        simp only [Nat.add_zero] at hst
        have hrun : (Builtin.append_ #[t, t] ty #[.slice (some ⟨g, 0, none⟩) xs.length cap, .slice (some ad) m c]).run P W = .ok (.slice (some ⟨g, 0, none⟩) (xs.length + m) cap) (W.setRow g (cur.toList.take xs.length ++ encs enc ys ++ cur.toList.drop (xs.length + (encs enc ys).length)).toArray) := by
          rw [hsize] at hf
          simp [Builtin.append_, run_underlying T.und, sizeOf, typeInfo, hi, Builtin.lenOf, hroom, hf, Addr.add_lit, hsize, hst]
        refine ⟨_, _, hrun, .inr ⟨g, cap, _, fr, by rw [List.length_append, hm], k1, setRow_heap W g cur _ e _ k2, ?_, by rw [List.length_append, hm]; exact hroom, k5, ?_, ?_⟩, ⟨⟨rfl, rfl, rfl, by simp, fun k _ hk => setRow_other W g k _ (fun e => hk (by simp [Value.ownBlock, e]))⟩, .inl rfl⟩⟩
        · simp only [List.size_toArray, List.length_append, List.length_take, List.length_drop, Array.length_toList, hyl]
          omega
        · simp only [List.size_toArray, List.length_append, List.length_take, List.length_drop, Array.length_toList, hyl]
          omega
        · have hlx : (encs enc xs).length = xs.length := by simp [encs]
          rw [k7, List.length_append, hm, show encs enc (xs ++ ys) = encs enc xs ++ encs enc ys by simp [encs], List.append_assoc]
          rw [← List.append_assoc, List.take_left' (by rw [List.length_append, hlx, hyl])]
      · have hrun := run_append_grow (P := P) W t ty e i z T.und hi hz ⟨g, 0, none⟩ xs.length cap (encs enc xs) (by rw [hsize, encs, List.length_map]; omega) (mk_cells (cap := cap) k2 k7) ad m c (encs enc ys) (by rw [hyl, hsize, Nat.mul_one]) hnews (by omega) (by omega)
          (by rw [hby]; exact growslice_fits (by omega) hl)
        refine ⟨_, _, hrun, .inl (Kd.R_of_own ?_ (fun _ _ => trivial)), ⟨⟨rfl, rfl, rfl, by simp, fun k hk _ => heap_alloc_old W.drew _ hk⟩, .inr ⟨_, rfl, Nat.le_refl _⟩⟩⟩
        have hcm : grownCap W (xs.length + m) cap e ≤ maxLen := grownCap_le_maxLen _ _ _ _ (by simp only [maxLen]; omega)
        have hge := grownCap_ge W (xs.length + m) cap e
        refine ⟨by simp [encs, hm], .inr ⟨_, _, _, by rw [List.length_append, hm], hbase, heap_alloc_new W.drew _, by rw [List.length_append, hm]; exact hge, hcm, ?_, ?_⟩⟩
        · simp only [Array.size_append, List.size_toArray, size_zeroCells, encs, List.length_map, hm, T.one]
          omega
        · simp only [Array.toList_append, encs, List.map_append, List.append_assoc]
          rw [← List.append_assoc, List.take_left' (by simp [hm])]
/-- append(v, x...), behind at_builtin. -/
theorem gapp_row [Inhabited α] (T : SlTy P t e z bytes) (hgd : o.guard = none) (s x : Operand) (ho : o.op = .call { callee := .builtin .append, args := #[s, x], argTypes := #[t, t] })
    {w0 W : World} {B : Nat} {v : Value} {xs : List α} {A : Option Addr} {m c : Nat} {ys : List α} (hs : a.eval s = v) (hx : a.eval x = .slice A m c)
    (HO : GrE enc h1 e W B v xs) (HR : RdsE enc h1 W A m ys) (HB : Below B w0 W) (hbase : B ≤ W.heap.size) (hl : (xs.length + m) * bytes ≤ 140737488355328)
    (h : ∀ v1 w1, GrE enc h1 e w1 B v1 (xs ++ ys) → Below B w0 w1 → B ≤ w1.heap.size → Fr W w1 v v1 → wpList P ops Q rest (a.put o.dst v1) w1) :
    wpList P ops Q (o :: rest) a W := by
  obtain ⟨v1, w1, hrun, hA⟩ := gr_run (c := c) T o.type HO HR hbase hl
  refine wpList_plain hgd fun K hK => ?_
  unfold Oper.wp execOp
  simp only [ho, resolve, invoke, builtin, Sem.run_bind, Sem.run_pure, Result.andThen_ok, List.map_toArray, List.map_cons, List.map_nil, hs, hx, hrun]
  exact hK _ _ (h v1 w1 hA.own (HB.grown hA.fr.grown hbase (gr_base HO)) (Nat.le_trans hbase hA.fr.size) hA.fr)
/-- append(v, x) of one element. -/
theorem gapp_one [Inhabited α] (T : SlTy P t e z bytes) (hgd : o.guard = none) (s x : Operand) (ho : o.op = .call { callee := .builtin .append, args := #[s, x], argTypes := #[t, t] })
    {w0 W : World} {B : Nat} {v : Value} {xs : List α} {p : α} (hs : a.eval s = v) (hx : a.eval x = .slice (some ⟨W.heap.size, 0, none⟩) 1 1)
    (HO : GrE enc h1 e W B v xs) (HB : Below B w0 W) (hbase : B ≤ W.heap.size) (hl : (xs.length + 1) * bytes ≤ 140737488355328)
    (h : ∀ v1 w1, GrE enc h1 e w1 B v1 (xs ++ [p]) → Below B w0 w1 → B ≤ w1.heap.size → Fr W w1 v v1 → wpList P ops Q rest (a.put o.dst v1) w1) :
    wpList P ops Q (o :: rest) a (W.alloc (.cells #[enc p] e)) := by
  have hb1 : Below W.heap.size W (W.alloc (.cells #[enc p] e)) := below_alloc (Below.refl _ _) _
  refine gapp_row T hgd s x ho hs hx (gr_below HO hb1) (rds_lit W e (0, 0) default [p] (by simp) 1 rfl) (below_then HB hbase hb1) (Nat.le_trans hbase hb1.size) hl fun v1 w1 k1 k2 k3 k4 => h v1 w1 k1 k2 k3 ⟨?_, ?_⟩
  · refine ⟨k4.grown.os, k4.grown.tape, k4.grown.output, Nat.le_trans hb1.size k4.grown.size, fun k hk hne => ?_⟩
    rw [k4.grown.block k (Nat.lt_of_lt_of_le hk hb1.size) hne]
    exact hb1.block k hk
  · rcases k4.at_ with q | ⟨b, q1, q2⟩
    · exact .inl q
    · exact .inr ⟨b, q1, Nat.le_trans hb1.size q2⟩
/-- Bytes of a text. -/
def numsOf (s : ByteArray) : List Int := s.toList.map fun b => (b.toNat : Int)
theorem numsOf_length (s : ByteArray) : (numsOf s).length = s.size := by rw [numsOf, List.length_map, ByteArray.toList_eq]; rfl
theorem numsOf_byte (s : ByteArray) : ∀ x ∈ numsOf s, 0 ≤ x ∧ x < 256 := by
  intro x hx
  obtain ⟨b, _, rfl⟩ := List.mem_map.1 hx
  have := b.toNat_lt
  omega
theorem strOfNums_numsOf (s : ByteArray) : strOfNums (numsOf s) = s := by
  apply ByteArray.ext
  apply Array.toList_inj.1
  rw [strOfNums_data, numsOf, List.map_map, ByteArray.toList_eq]
  conv => rhs; rw [← List.map_id s.data.toList]
  exact List.map_congr_left fun b _ => by simp
theorem numsOf_strOfNums (xs : List Int) (h : ∀ x ∈ xs, 0 ≤ x ∧ x < 256) : numsOf (strOfNums xs) = xs := by
  rw [numsOf, ByteArray.toList_eq, strOfNums_data, List.map_map]
  conv => rhs; rw [← List.map_id xs]
  refine List.map_congr_left fun x hx => ?_
  have := h x hx
  simp
  omega
/-- []byte(s) of a text that is no constant. -/
theorem conv_bytes {P : Program} {t src e : TypeId} {u : TypeDesc} (hs : P.underlying src = some u) (hd : P.underlying t = some (.slice e)) (he : P.underlying e = some (.int .u8)) (w : World) (s : ByteArray) (hm : s.size ≤ maxLen) {B : Nat} (hB : B ≤ w.heap.size) :
    ∃ v w', (convert src t (.string s)).run P w = .ok v w' ∧ Below w.heap.size w w' ∧ Gr .u8 e w' B v (numsOf s) ∧ v.ownBlock = some w.heap.size := by
  have hcm : grownCap w s.size 0 e ≤ maxLen := grownCap_le_maxLen _ _ _ _ hm
  have hge := grownCap_ge w s.size 0 e
  have hsz : (Lib.bytesCells w e s).size = grownCap w s.size 0 e := by
    simp only [Lib.bytesCells, Array.size_append, Array.size_map, Array.size_replicate]
    show s.size + _ = _
    omega
  refine ⟨_, _, Lib.run_convert_string_bytes w src t e s hs hd he, ⟨rfl, rfl, rfl, by rw [Lib.bytesWorld_size]; omega, fun i hi => Lib.bytesWorld_at_old w e s i hi⟩, .inr ⟨w.heap.size, grownCap w s.size 0 e, _, _, ?_, hB, Lib.bytesWorld_at_new w e s, Nat.le_refl _, ?_, by simpa only [maxLen] using hcm, hsz, ?_⟩, rfl⟩
  · rw [numsOf_length]
  · rw [numsOf_length]; exact hge
  · rw [numsOf_length, Lib.bytesCells, Array.toList_append, List.take_left' (by simp)]
    simp [encs, numsOf, ByteArray.toList_eq]
theorem conv_gr {P : Program} {t e dst : TypeId} {bytes : Nat} {z : Value} (T : SlTy P t e z bytes) (he : P.underlying e = some (.int .u8)) (hd : P.underlying dst = some .string) {w : World} {B : Nat} {v : Value} {xs : List Int} (h : Gr .u8 e w B v xs) :
    (convert t dst v).run P w = .ok (.string (strOfNums xs)) w := by
  obtain ⟨A, n, c, rfl, _, hl, _, hr⟩ := gr_open h
  have hl := hl.out
  subst hl
  exact Kd.C_string T.und he hd hr
end
theorem Fr.keep_gr {k : IntKind} {W w1 : World} {v v1 u : Value} {e : TypeId} {B : Nat} {xs : List Int} (h : Fr W w1 v v1) (hu : Gr k e W B u xs) (ha : Apart u v) : Gr k e w1 B u xs :=
  gr_move hu fun j hj => h.grown.block j (gr_lt hu j hj) (by
    rcases ha.ne with h | h
    · rw [h] at hj; cases hj
    · rw [← hj]; exact h)
theorem Fr.apart_gr {k : IntKind} {W w1 : World} {v v1 u : Value} {e : TypeId} {B : Nat} {xs : List Int} (h : Fr W w1 v v1) (hu : Gr k e W B u xs) (ha : Apart u v) : Apart u v1 := ⟨by
  rcases h.at_ with h2 | ⟨b, hb, hle⟩
  · rw [h2]; exact ha.out
  · cases hk : u.ownBlock with
    | none => exact .inl rfl
    | some k =>
      have := gr_lt hu k hk
      exact .inr (.inr (by rw [hb]; intro he; injection he with he; omega))⟩
theorem apart_new_gr {k : IntKind} {W : World} {u v : Value} {e : TypeId} {B : Nat} {xs : List Int} (hu : Gr k e W B u xs) (hv : ∀ k, v.ownBlock = some k → W.heap.size ≤ k) : Apart u v := ⟨by
  cases hk : u.ownBlock with
  | none => exact .inl rfl
  | some k =>
    have := gr_lt hu k hk
    refine .inr (.inr fun he => ?_)
    have := hv k he.symm
    omega⟩
end Go.Proofs.Ytnkeijdpjcclcaa.Kit
