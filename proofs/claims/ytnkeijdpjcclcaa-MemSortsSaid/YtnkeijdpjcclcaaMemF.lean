/- Law MemSorts: what stays sorted; the state of its loop; words. -/
import Derived.Test.YtnkeijdpjcclcaaMemE
import Derived.ChangeSame
namespace Go.Proofs.Ytnkeijdpjcclcaa.Mem
set_option linter.unusedVariables false
set_option linter.unusedSimpArgs false
open Go.Proofs.Ytnkeijdpjcclcaa.Kit Go.RowKit Go.ChangeShapes Go.Proofs.YtnkeijdpjcclcaaW.PrintWords Go.Proofs.YtnkeijdpjcclcaaW.PrintLast Go.Proofs.YtnkeijdpjcclcaaW.PrintMore
def Srt (xs : List Int) : Prop := xs.Pairwise fun a b => Int.tdiv a 3 < Int.tdiv b 3
theorem ord_neg {y x : Int} : ordI y x < 0 ↔ Int.tdiv y 3 < Int.tdiv x 3 := by
  unfold ordI
  split
  · simp; assumption
  · split <;> simp <;> omega
theorem ord_zero {y x : Int} : ordI y x = 0 ↔ Int.tdiv y 3 = Int.tdiv x 3 := by
  unfold ordI
  split
  · simp; omega
  · split <;> simp <;> omega
theorem srt_get {xs : List Int} (h : Srt xs) {i j : Nat} {y z : Int} (hij : i < j) (hy : xs[i]? = some y) (hz : xs[j]? = some z) : Int.tdiv y 3 < Int.tdiv z 3 := by
  obtain ⟨hi, rfl⟩ := List.getElem?_eq_some_iff.1 hy
  obtain ⟨hj, rfl⟩ := List.getElem?_eq_some_iff.1 hz
  exact List.pairwise_iff_getElem.1 h i j hi hj hij
theorem mono_srt {xs : List Int} (h : Srt xs) (x : Int) : Mono ordI xs x := fun i j y z hij hy hz hl => by
  rw [ord_neg] at hl ⊢
  rcases Nat.lt_or_ge i j with g | g
  · have := srt_get h g hy hz
    omega
  · obtain rfl : i = j := by omega
    rw [hy] at hz
    injection hz with hz
    subst hz
    exact hl
theorem hit_some {xs : List Int} {x : Int} (h : hit ordI xs x = true) : ∃ y, xs[pos ordI xs x]? = some y ∧ Int.tdiv y 3 = Int.tdiv x 3 := by
  unfold hit at h
  cases hq : xs[pos ordI xs x]? with
  | none => rw [hq] at h; cases h
  | some y =>
    rw [hq] at h
    exact ⟨y, rfl, ord_zero.1 (by simpa using h)⟩
theorem hit_none {xs : List Int} {x : Int} (h : hit ordI xs x = false) (y : Int) (hy : xs[pos ordI xs x]? = some y) : Int.tdiv x 3 < Int.tdiv y 3 := by
  have h1 := pos_at ordI y hy
  rw [ord_neg] at h1
  unfold hit at h
  rw [hy] at h
  have h2 : ordI y x ≠ 0 := by simpa using h
  rw [ne_eq, ord_zero] at h2
  omega
theorem srt_put {xs : List Int} (h : Srt xs) (x : Int) : Srt (putL xs x) := by
  unfold putL
  cases hh : hit ordI xs x with
  | true =>
    obtain ⟨y, hy, he⟩ := hit_some hh
    rw [if_pos rfl]
    refine List.pairwise_iff_getElem.2 fun i j hi hj hij => ?_
    rw [List.length_set] at hi hj
    rw [List.getElem_set, List.getElem_set]
    split
    · rename_i e
      subst e
      rw [if_neg (by omega), ← he]
      exact srt_get h hij hy (List.getElem?_eq_getElem hj)
    · split
      · rename_i e
        subst e
        rw [← he]
        exact srt_get h hij (List.getElem?_eq_getElem hi) hy
      · exact List.pairwise_iff_getElem.1 h i j hi hj hij
  | false =>
    rw [if_neg (by decide)]
    have hbelow : ∀ a ∈ xs.take (pos ordI xs x), Int.tdiv a 3 < Int.tdiv x 3 := fun a ha => by
      obtain ⟨i, hi, rfl⟩ := List.getElem_of_mem ha
      rw [List.length_take] at hi
      rw [List.getElem_take]
      exact ord_neg.1 (pos_below ordI i _ (by omega) (List.getElem?_eq_getElem (by omega)))
    have habove : ∀ b ∈ xs.drop (pos ordI xs x), Int.tdiv x 3 < Int.tdiv b 3 := fun b hb => by
      obtain ⟨i, hi, rfl⟩ := List.getElem_of_mem hb
      rw [List.length_drop] at hi
      rw [List.getElem_drop]
      have hlt : pos ordI xs x < xs.length := by omega
      have h1 := hit_none hh _ (List.getElem?_eq_getElem hlt)
      rcases Nat.eq_zero_or_pos i with g | g
      · subst g
        exact h1
      · have := srt_get h (show pos ordI xs x < pos ordI xs x + i by omega) (List.getElem?_eq_getElem hlt) (List.getElem?_eq_getElem (by omega))
        omega
    unfold Srt
    rw [List.pairwise_append, List.pairwise_append]
    refine ⟨⟨h.sublist (List.take_sublist _ _), List.pairwise_singleton _ _, fun a ha b hb => ?_⟩, h.sublist (List.drop_sublist _ _), fun a ha b hb => ?_⟩
    · rw [List.mem_singleton.1 hb]
      exact hbelow a ha
    · rcases List.mem_append.1 ha with ha | ha
      · have := hbelow a ha
        have := habove b hb
        omega
      · rw [List.mem_singleton.1 ha]
        exact habove b hb
theorem srt_drop {xs : List Int} (h : Srt xs) (j : Int) : Srt (dropL xs j) := by
  unfold dropL
  split
  · rw [← List.eraseIdx_eq_take_drop_succ]
    exact h.sublist (List.eraseIdx_sublist _ _)
  · exact h
theorem rng_put {xs : List Int} (h : ∀ y ∈ xs, rng y) {x : Int} (hx : rng x) : ∀ y ∈ putL xs x, rng y := fun y hy => by
  unfold putL at hy
  split at hy
  · rcases List.mem_or_eq_of_mem_set hy with g | rfl
    · exact h y g
    · exact hx
  · rcases List.mem_append.1 hy with g | g
    · rcases List.mem_append.1 g with g | g
      · exact h y (List.mem_of_mem_take g)
      · rw [List.mem_singleton.1 g]; exact hx
    · exact h y (List.mem_of_mem_drop g)
theorem rng_drop {xs : List Int} (h : ∀ y ∈ xs, rng y) (j : Int) : ∀ y ∈ dropL xs j, rng y := fun y hy => by
  unfold dropL at hy
  split at hy
  · rcases List.mem_append.1 hy with g | g
    · exact h y (List.mem_of_mem_take g)
    · exact h y (List.mem_of_mem_drop g)
  · exact h y hy
theorem len_put (xs : List Int) (x : Int) : (putL xs x).length ≤ xs.length + 1 := by
  have := pos_le ordI xs x
  unfold putL
  split
  · rw [List.length_set]; omega
  · simp only [List.length_append, List.length_take, List.length_drop, List.length_singleton]; omega
theorem len_drop (xs : List Int) (j : Int) : (dropL xs j).length ≤ xs.length := by
  unfold dropL
  split
  · simp only [List.length_append, List.length_take, List.length_drop]; omega
  · exact Nat.le_refl _
theorem and255 (x : Int) : ∃ q : Nat, Go.bits .and .i64 x 255 = (q : Int) ∧ q < 256 := by
  refine ⟨(BitVec.ofInt 64 x).toNat % 256, ?_, Nat.mod_lt _ (by omega)⟩
  have h1 : (BitVec.ofInt 64 (255 : Int)).toNat = 2 ^ 8 - 1 := by decide
  show IntKind.i64.wrap ((BitVec.ofInt 64 x &&& BitVec.ofInt 64 255).toNat : Int) = _
  rw [BitVec.toNat_and, h1, Nat.and_two_pow_sub_one_eq_mod]
  have h3 : (2 : Nat) ^ 8 = 256 := by decide
  rw [h3, i64_id (by omega) (by omega)]
/-- The state of the law's loop: the sorted one holds xs, the law's own list zs. -/
structure LS (w0 : World) (p : Nat) (va v : Value) (xs zs : List Int) (wr : World) : Prop where
  bel : Below w0.heap.size w0 wr
  so : SOI wr w0.heap.size p v xs
  own : OwnK encI kI 3 wr w0.heap.size va zs
  nep : va.ownBlock ≠ some p
  ap : ∀ j, v.ownBlock = some j → va.ownBlock ≠ some j
theorem ls_below {w0 : World} {p : Nat} {va v : Value} {xs zs : List Int} {w W : World} (h : LS w0 p va v xs zs w) (hb : Below w.heap.size w W) : LS w0 p va v xs zs W :=
  ⟨below_then h.bel h.bel.size hb, soi_below h.so hb, ownk_below h.own hb, h.nep, h.ap⟩
theorem ls_so {w0 : World} {p : Nat} {va v v' : Value} {xs zs ys : List Int} {w W : World} (h : LS w0 p va v xs zs w) (hs : SOI W w0.heap.size p v' ys) (hg : Gr2 w W p v.ownBlock) (ho : Goes w v v') : LS w0 p va v' ys zs W := by
  refine ⟨⟨hg.os.trans h.bel.os, hg.tape.trans h.bel.tape, hg.output.trans h.bel.output, Nat.le_trans h.bel.size hg.size, fun k hk => ?_⟩, hs, ownk_move h.own (fun j hj => hg.block j (ownk_lt h.own j hj) (fun e => h.nep (by rw [hj, e])) (fun e => h.ap j e.symm hj)), h.nep, fun j hj hv => ?_⟩
  · rw [hg.block k (Nat.lt_of_lt_of_le hk h.bel.size) (fun e => by have := h.so.base; omega) (fun e => by have := ownk_base h.so.own k e.symm; omega)]
    exact h.bel.block k hk
  · rcases ho with g | ⟨b, g, hb⟩
    · exact h.ap j (by rw [← g]; exact hj) hv
    · rw [g] at hj
      injection hj with hj
      have := ownk_lt h.own j hv
      omega
theorem ls_new {w0 : World} {p : Nat} {va va' v : Value} {xs zs ys : List Int} {w W : World} (h : LS w0 p va v xs zs w) (hb : Below w.heap.size w W) (ho : OwnK encI kI 3 W w.heap.size va' ys) : LS w0 p va' v xs ys W := by
  refine ⟨below_then h.bel h.bel.size hb, soi_below h.so hb, ownk_lower ho h.bel.size, fun e => ?_, fun j hj e => ?_⟩
  · have := ownk_base ho p e
    have := mk_lt h.so.box
    omega
  · have := ownk_base ho j e
    have := ownk_lt h.so.own j hj
    omega
theorem ls_set {w0 : World} {p g : Nat} {va v : Value} {o : Obj} {xs zs ys : List Int} {w W : World} (h : LS w0 p va v xs zs w) (hg : va.ownBlock = some g) (hs : Set1 w g o W) (ho : OwnK encI kI 3 W w0.heap.size va ys) : LS w0 p va v xs ys W := by
  refine ⟨hs.then_ h.bel (ownk_base h.own g hg), ⟨hs.keep h.so.box (fun e => h.nep (by rw [hg, e])), ownk_move h.so.own (fun j hj => hs.other j (fun e => h.ap j hj (by rw [hg, e]))), h.so.ne, h.so.base⟩, ho, h.nep, h.ap⟩
theorem sts_take {α : Type} {enc : α → List Value} {k : Nat} {w : World} {A : Option Addr} {n : Nat} {xs : List α} (h : Sts enc k w A n xs) (i : Nat) (hi : i ≤ n) : Sts enc k w A i (xs.take i) :=
  ⟨by rw [List.length_take, h.len, Nat.min_eq_left hi], by have := h.max; omega, fun h0 => by
    obtain ⟨ad, e, hr⟩ := h.row (by omega)
    refine ⟨ad, e, fun j x hx => ?_⟩
    rw [List.getElem?_take] at hx
    split at hx
    · exact hr j x hx
    · cases hx⟩
theorem cut_stM {P : Program} {t e : TypeId} {k : Nat} (T : StTy P t e k) {α : Type} (enc : α → List Value) (A : Option Addr) (n c lo : Nat) (hlo : lo ≤ n) (hc : n ≤ c) (kd : IntKind) (j : Int) (hj : j = (lo : Int)) :
    ∃ A' : Option Addr, (∀ W : World, (Instr.sliceAt t (.slice A n c) (some (.int kd j)) none none).run P W = .ok (.slice A' (n - lo) (c - lo)) W) ∧ ∀ (w : World) (xs : List α), Sts enc k w A n xs → Sts enc k w A' (n - lo) (xs.drop lo) := by
  refine ⟨if c = lo then A else A.map (·.add (lo * k)), fun W => ?_, fun w xs h => ⟨by rw [List.length_drop, h.len], by have := h.max; omega, fun hn => ?_⟩⟩
  · rw [hj, run_sliceAt_slice W t _ _ _ _ (sty_und T), run_slice_l W t A n c (sty_und T) kd lo (by omega) (by omega), st_sizeOf T]
    simp [sliced, Result.andThen]
  · obtain ⟨ad, rfl, hr⟩ := h.row (by omega)
    refine ⟨ad.add (lo * k), by rw [if_neg (by omega)]; rfl, fun i x hx j v hv => ?_⟩
    rw [List.getElem?_drop] at hx
    have := hr (lo + i) x hx j v hv
    rw [Addr.add_add, Addr.add_add, show lo * k + (i * k + j) = (lo + i) * k + j by rw [Nat.add_mul, Nat.add_assoc], ← Addr.add_add]
    exact this
theorem op_lit0 {P : Program} {o : Oper} {l : List (Nat × Value)} {t e : TypeId} {k bytes : Nat} {z : Value} {w : World} (T : EType P t e k bytes z) (ho : o.op = .buildSlice t 0 #[]) :
    (execOp (lk l) o).run P w = .ok (.value (.slice (some ⟨w.heap.size, 0, none⟩) 0 0)) (w.alloc (.cells #[] e)) := by
  have hi := T.info
  cases hq : P.info? e with
  | none => rw [hq] at hi; simp at hi
  | some i =>
    rw [hq] at hi
    simp only [Option.map_some, Option.some.injEq, Prod.mk.injEq] at hi
    obtain ⟨i1, i2, i3⟩ := hi
    have hrun : (Instr.buildSlice t 0 #[]).run P w = .ok (.slice (some ⟨w.heap.size, 0, none⟩) 0 0) (w.alloc (.cells #[] e)) := by
      simp [Instr.buildSlice, run_underlying T.und, sizeOf, typeInfo, hq, Instr.fill, newRow]
      congr 2
      exact Array.eq_empty_of_size_eq_zero (by simp)
    unfold execOp
    simp only [ho, Sem.run_bind, List.map_toArray, List.map_nil, hrun, Result.andThen_ok, Sem.run_pure]
theorem own_lit0 {w : World} {B : Nat} (hB : B ≤ w.heap.size) : OwnK encI kI 3 (w.alloc (.cells #[] 3)) B (.slice (some ⟨w.heap.size, 0, none⟩) 0 0) [] :=
  own_cells (enc := encI) (k := kI) (e := 3) (cap := 0) (B := B) (ys := []) (R := []) encI_len (heap_alloc_new w _) (by simp) (Nat.le_refl _) (by decide) hB
/-- append(v, x...), x whatever slice. -/
theorem ownk_runA {α : Type} {enc : α → List Value} {k : Nat} {e : TypeId} {P : Program} {t : TypeId} {bytes : Nat} {z : Value} (hk : ∀ x, (enc x).length = k) (h1 : ∀ x, ∀ u ∈ enc x, u.oneCell' = true) (T : EType P t e k bytes z) (ty : TypeId)
    {W : World} {B : Nat} {v : Value} {xs ys : List α} {A : Option Addr} {m c : Nat}
    (HO : OwnK enc k e W B v xs) (HR : Sts enc k W A m ys) (hbase : B ≤ W.heap.size) (hl : (xs.length + m) * bytes ≤ 140737488355328) (hl2 : xs.length + m ≤ 9223372036854775807) :
    ∃ v1 w1, (Builtin.append_ #[t, t] ty #[v, .slice A m c]).run P W = .ok v1 w1 ∧ OwnK enc k e w1 B v1 (xs ++ ys) ∧ Fr W w1 v v1 := by
  cases A with
  | some ad => exact ownk_run (c := c) hk h1 T ty HO HR hbase hl hl2
  | none =>
    have hm : m = 0 := by
      rcases Nat.eq_zero_or_pos m with g | g
      · exact g
      · obtain ⟨ad, e1, _⟩ := HR.row g
        cases e1
    subst hm
    obtain rfl : ys = [] := List.eq_nil_of_length_eq_zero HR.len
    obtain ⟨A', n', c', rfl, hnc, HL, _, _⟩ := ownk_open hk HO
    have hsz := (etype_st T).size
    rw [List.append_nil]
    cases hq : P.info? e with
    | none => simp [hq] at hsz
    | some i =>
      refine ⟨_, W, ?_, HO, Fr.refl _ _⟩
      cases A' with
      | none => simp [Builtin.append_, run_underlying T.und, Builtin.lenOf, Builtin.firstCells, sizeOf, typeInfo, hq, hnc]
      | some a => simp [Builtin.append_, run_underlying T.und, Builtin.lenOf, Builtin.firstCells, sizeOf, typeInfo, hq, hnc, storeCells]
abbrev OpV := Int × Int
def encO (z : OpV) : List Value := [.int .i64 z.1, .int .i64 z.2]
def okO (z : OpV) : Prop := (Lit.int .i64 z.1).wf = true ∧ (Lit.int .i64 z.2).wf = true
theorem open_ops {H : Type} {enc : TypeId × Value → H} {w : World} {base m : Nat} {held : Bool} {A : Option Addr} {n c : Nat} {x : DataW H × List MemPlace} (h : DataW.trod enc Try.prog w base (fun _ => true) held m 47 [.slice A n c] = some x) : ∃ xs, Sts encO 2 w A n xs ∧ n ≤ c ∧ ∀ z ∈ xs, okO z :=
  open_sts encO okO Try.underlying47 (by kernel_rfl) (fun cs m' y hy => by
    obtain ⟨y0, y1, n, _, hl, h0, h1⟩ := trod_struct2 Try.underlying54 hy
    rw [show Try.prog.cellsOf 54 = 2 by kernel_rfl] at hl
    change DataW.trod enc Try.prog w base _ held n 3 ((cs.drop 0).take (Try.prog.cellsOf 3)) = _ at h0
    change DataW.trod enc Try.prog w base _ held n 3 ((cs.drop 1).take (Try.prog.cellsOf 3)) = _ at h1
    rw [show Try.prog.cellsOf 3 = 1 by kernel_rfl] at h0 h1
    obtain ⟨a, e0, _, w0⟩ := DataW.trod_int Try.underlying3 h0
    obtain ⟨v, e1, _, w1⟩ := DataW.trod_int Try.underlying3 h1
    refine ⟨(a, v), ?_, ⟨w0, w1⟩⟩
    have := cut_cons e0 rfl (cut_cons e1 rfl (cut_end hl))
    rw [List.drop_zero] at this
    exact this) h
end Go.Proofs.Ytnkeijdpjcclcaa.Mem

