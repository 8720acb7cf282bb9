/- slices.Insert's words: cuts, copies, zeros behind a row; elements of k cells. -/
import Derived.Test.YtnkeijdpjcclcaaStO
import Derived.Test.YtnkeijdpjcclcaaFld2
import Derived.Lib.AppendZerosOnto
import Derived.Lib.Overlaps
import Derived.Laws.Externs
namespace Go.Proofs.Ytnkeijdpjcclcaa.Kit
set_option linter.unusedVariables false
set_option linter.unusedSimpArgs false
open Go.RowKit Go.ChangeShapes Go.WideShapes Go.Proofs.YtnkeijdpjcclcaaW.PrintWords Go.Proofs.YtnkeijdpjcclcaaW.PrintLast Go.Proofs.YtnkeijdpjcclcaaW.PrintMore
section
variable {P : Program} {t e : TypeId} {k : Nat}
theorem sty_elem (T : StTy P t e k) : P.elem t = e := by simp [Program.elem, T.und]
theorem sty_und (T : StTy P t e k) : P.underlying t = some (.slice (P.elem t)) := by rw [sty_elem T]; exact T.und
/-- s[lo:] of a block's row. -/
theorem cut_lo (T : StTy P t e k) (g n c lo : Nat) (hlo : lo ≤ n) (hc : lo < c) (kd : IntKind) (j : Int) (hj : j = (lo : Int)) (W : World) :
    (Instr.sliceAt t (.slice (some ⟨g, 0, none⟩) n c) (some (.int kd j)) none none).run P W = .ok (.slice (some ⟨g, lo * k, none⟩) (n - lo) (c - lo)) W := by
  rw [hj, run_sliceAt_slice W t _ _ _ _ (sty_und T), run_slice_l W t _ n c (sty_und T) kd lo (by omega) (by omega), st_sizeOf T]
  have h1 : ¬ (c = lo) := by omega
  simp [sliced, Result.andThen, h1, Go.Proofs.YtnkeijdpjcclcaaW.PrintWords.add_plain]
/-- s[:hi]. -/
theorem cut_hi (T : StTy P t e k) (A : Option Addr) (n c hi : Nat) (hh : hi ≤ c) (kd : IntKind) (j : Int) (hj : j = (hi : Int)) (W : World) :
    (Instr.sliceAt t (.slice A n c) none (some (.int kd j)) none).run P W = .ok (.slice A hi c) W := by
  have ha : (A.map fun x => x.add 0) = A := by cases A <;> simp [Addr.add]
  rw [hj, run_sliceAt_slice W t _ _ _ _ (sty_und T), run_slice_h W t A n c (sty_und T) kd hi (by omega) (by omega), st_sizeOf T]
  simp [sliced, Result.andThen, ha]
/-- copy into a block's row, from whatever is read. -/
theorem copy_run (T : StTy P t e k) {W : World} {g o dl dc sl sc : Nat} {a : Addr} {cur cs : List Value} (hg : W.heap[g]? = some (.cells cur.toArray e (0, 0))) (hn : cs.length = Nat.min sl dl * k) (hsrc : ∀ (j : Nat) (v : Value), cs[j]? = some v → W.cell? (a.add j) = some v) (hl : o + cs.length ≤ cur.length) (h1 : ∀ v ∈ cs, v.oneCell' = true) (ty : TypeId) :
    ∃ W', (Builtin.copy_ #[t, t] ty #[.slice (some ⟨g, o, none⟩) dl dc, .slice (some a) sl sc]).run P W = .ok (goInt (Nat.min sl dl)) W' ∧ Set1 W g (.cells (cur.take o ++ cs ++ cur.drop (o + cs.length)).toArray e (0, 0)) W' := by
  have hld := run_loadCells_list (P := P) W a cs hsrc
  have hst := run_storeCells_at (P := P) g o e cs 0 cur.toArray W hg (by simpa using hl) h1
  have hsz := T.size
  cases hq : P.info? e with
  | none => simp [hq] at hsz
  | some i =>
    have hi : i.size = k := by simpa [hq] using hsz
    refine ⟨_, ?_, set1_row (cs := (cur.take o ++ cs ++ cur.drop (o + cs.length)).toArray) hg⟩
    simp only [Nat.add_zero] at hst
    simp [Builtin.copy_, run_underlying T.und, Builtin.lenOf, Builtin.firstCells, sizeOf, typeInfo, hq, hi, ← hn, hld, hst]
theorem run_copy_op {o : Oper} {l : List (Nat × Value)} {d s : Operand} {ts : Array TypeId} {u v v1 : Value} {w w1 : World} (ho : o.op = .call { callee := .builtin .copy, args := #[d, s], argTypes := ts }) (hd : lk l d = v) (hs : lk l s = u)
    (hrun : (Builtin.copy_ ts o.type #[v, u]).run P w = .ok v1 w1) : (execOp (lk l) o).run P w = .ok (.value v1) w1 := by
  unfold execOp
  simp [ho, resolve, invoke, builtin, hd, hs, hrun]
/-- append(s[:i], make([]T, m)...), where there is no room. -/
theorem zeros_run {bytes : Nat} {z : Value} (T : EType P t e k bytes z) {tn : TypeId} {kn : IntKind} (htn : P.underlying tn = some (.int kn)) {W : World} {g cap i m : Nat} {cur : List Value} {kq : IntKind} (hg : W.heap[g]? = some (.cells cur.toArray e (0, 0))) (hcur : cur.length = cap * k) (hi : i ≤ cap) (hm : 0 < m) (hgrow : cap < i + m) (hbig : (i + m) * bytes ≤ 140737488355328) (h63 : i + m ≤ maxLen) (ty : TypeId) :
    ∃ (W' : World) (cap' : Nat) (rest : List Value), (Builtin.append_ #[t, tn] ty #[.slice (some ⟨g, 0, none⟩) i cap, .int kq (m : Nat)]).run P W = .ok (.slice (some ⟨W.heap.size, 0, none⟩) (i + m) cap') W' ∧ Below W.heap.size W W' ∧ i + m ≤ cap' ∧ cap' ≤ maxLen ∧ rest.length = (cap' - i) * k ∧ W'.heap[W.heap.size]? = some (.cells (cur.take (i * k) ++ rest).toArray e (0, 0)) ∧ W'.heap.size = W.heap.size + 1 := by
  have hin := T.info
  have hp := T.pos
  cases hq : P.info? e with
  | none => rw [hq] at hin; simp at hin
  | some info =>
    rw [hq] at hin
    simp only [Option.map_some, Option.some.injEq, Prod.mk.injEq] at hin
    obtain ⟨i1, i2, i3⟩ := hin
    have hik : i * k ≤ cur.length := by rw [hcur]; exact Nat.mul_le_mul_right _ hi
    have hold : (Builtin.firstCells info.size i (.slice (some ⟨g, 0, none⟩) i cap)).run P W.drew = .ok (cur.take (i * k)).toArray W.drew := by
      rw [i2]
      exact run_firstCells_some W.drew k i ⟨g, 0, none⟩ i cap _ (by rw [List.length_take]; omega) (fun j v hj => by
        rw [Go.Proofs.YtnkeijdpjcclcaaW.PrintWords.add_plain]
        show W.cell? _ = _
        simp only [World.cell?, hg]
        rw [List.getElem?_take] at hj
        split at hj
        · simpa using hj
        · cases hj)
    have hge := grownCap_ge W (i + m) cap e
    have hrun := Lib.run_append_grow_zeros (P := P) W t tn ty e info z kq kn T.und htn hq i1 (some ⟨g, 0, none⟩) i cap (cur.take (i * k)) hold m hm (by rw [i2]; exact hp) hgrow (by simp only [maxLen] at h63; omega) (by rw [i3]; have := Nat.mul_le_mul_right bytes (show m ≤ i + m by omega); omega) (by rw [i3]; exact growslice_fits hgrow hbig)
    refine ⟨_, _, (Builtin.zeroCells z.cells m).toList ++ (Builtin.zeroCells z.cells (grownCap W (i + m) cap e - (i + m))).toList, hrun, below_alloc (below_drew (Below.refl _ _)) _, hge, grownCap_le_maxLen _ _ _ _ h63, ?_, ?_, (Array.size_push _)⟩
    · simp only [List.length_append, Array.length_toList, Builtin.zeroCells, Array.size_map, Array.size_range, T.zs]
      rw [← Nat.add_mul]
      congr 1
      omega
    · have := heap_alloc_new W.drew (.cells ((cur.take (i * k)).toArray ++ Builtin.zeroCells z.cells m ++ Builtin.zeroCells z.cells (grownCap W (i + m) cap e - (i + m))) e)
      rw [show W.drew.heap.size = W.heap.size from rfl] at this
      rw [this]
      congr 2
      apply Array.toList_inj.1
      simp [List.append_assoc]
/-- slices.overlaps of rows in two blocks. -/
theorem op_overlaps {o : Oper} {l : List (Nat × Value)} {ags : Array Operand} {ts : Array TypeId} {f : FuncId} {fn : Func} {tR : TypeId} (T : StTy P t e k) (hop : o.op = .call { callee := .value (.func f), args := ags, argTypes := ts }) (hf : P.funcs[f]? = some fn) (hname : (fn.name == "runtime.NumGoroutine") = false) (hb : fn.body.isNone = true) (hn : Extern.findNext fn = none) (he : Extern.find fn = some (Extern.SlicesOverlaps.overlaps #[t, t] #[tR]))
    {w : World} {ga oa la ca gb ob lb cb : Nat} {ea eb : TypeId} {va : List Value} {vb : List Value} (hargs : ags.map (lk l) = #[.slice (some ⟨ga, oa, none⟩) la ca, .slice (some ⟨gb, ob, none⟩) lb cb]) (hne : ga ≠ gb)
    (hA : w.heap[ga]? = some (.cells va.toArray ea (0, 0))) (hB : w.heap[gb]? = some (.cells vb.toArray eb (0, 0))) (hpos : vb.length ≠ 0) : (execOp (lk l) o).run P w = .ok (.value (.bool false)) w := by
  have hov := Lib.run_overlaps_apart (P := P) w t tR e T.und k (fun w => by have := st_sizeOf T w; rwa [sty_elem T] at this) ⟨ga, oa, none⟩ ⟨gb, ob, none⟩ la ca lb cb hne ea eb va.length vb.length (by simp [World.shape?, hA]) (by simp [World.shape?, hB]) hpos (by simp [World.frozen?, hA]) (by simp [World.frozen?, hA])
  have hcall : (callFunc f #[.slice (some ⟨ga, oa, none⟩) la ca, .slice (some ⟨gb, ob, none⟩) lb cb]).run P w = .ok (.value (.bool false)) w := by
    rw [run_callFunc_extern hf hname hb hn he, hov]
    rfl
  unfold execOp
  simp [hop, resolve, Deferred.ofValue, invoke, lk, hargs, hcall]
/-- A block's row is own. -/
theorem own_cells {α : Type} {enc : α → List Value} (hk : ∀ x, (enc x).length = k) {W : World} {g cap B : Nat} {ys : List α} {R : List Value} (h : W.heap[g]? = some (.cells (ys.flatMap enc ++ R).toArray e (0, 0))) (hl : (ys.flatMap enc ++ R).length = cap * k) (hy : ys.length ≤ cap) (hm : cap ≤ maxLen) (hB : B ≤ g) :
    OwnK enc k e W B (.slice (some ⟨g, 0, none⟩) ys.length cap) ys :=
  ⟨flat_length hk ys, .inr ⟨g, cap, _, rfl, hB, h, hy, hm, by simpa using hl, by rw [← flat_length hk ys]; simp⟩⟩
theorem own_block {α : Type} {enc : α → List Value} {w : World} {B : Nat} {v : Value} {xs : List α} (h : OwnK enc k e w B v xs) (hx : 0 < xs.length) : ∃ (g cap : Nat) (cur : List Value), v = .slice (some ⟨g, 0, none⟩) xs.length cap ∧ B ≤ g ∧ w.heap[g]? = some (.cells cur.toArray e (0, 0)) ∧ xs.length ≤ cap ∧ cap ≤ maxLen ∧ cur.length = cap * k ∧ cur.take (xs.length * k) = xs.flatMap enc := by
  rcases h.2 with ⟨_, hn⟩ | ⟨g, cap, cur, h1, h2, h3, h4, h5, h6, h7⟩
  · omega
  · exact ⟨g, cap, cur.toList, h1, h2, by simpa using h3, h4, h5, by simpa using h6, h7⟩
/-- s[lo:], whatever s. -/
theorem cut_any (T : StTy P t e k) (A : Option Addr) (n c lo : Nat) (hlo : lo ≤ n) (hc : n ≤ c) (kd : IntKind) (j : Int) (hj : j = (lo : Int)) : ∃ A' : Option Addr, ∀ W : World, (Instr.sliceAt t (.slice A n c) (some (.int kd j)) none none).run P W = .ok (.slice A' (n - lo) (c - lo)) W := by
  refine ⟨if c = lo then A else A.map (·.add (lo * k)), fun W => ?_⟩
  rw [hj, run_sliceAt_slice W t _ _ _ _ (sty_und T), run_slice_l W t A n c (sty_und T) kd lo (by omega) (by omega), st_sizeOf T]
  simp [sliced, Result.andThen]
theorem grown_below {w W : World} {row : Option Nat} (h : Below w.heap.size w W) : w.grownBy W row := ⟨h.os, h.tape, h.output, h.size, fun k hk _ => h.block k hk⟩
theorem grown_then {w W W' : World} {row : Option Nat} (h : w.grownBy W row) (hb : Below W.heap.size W W') : w.grownBy W' row :=
  ⟨hb.os.trans h.os, hb.tape.trans h.tape, hb.output.trans h.output, Nat.le_trans h.size hb.size, fun k hk hr => (hb.block k (Nat.lt_of_lt_of_le hk h.size)).trans (h.block k hk hr)⟩
theorem grown_set {w W W' : World} {g : Nat} {o : Obj} (h : w.grownBy W (some g)) (hs : Set1 W g o W') : w.grownBy W' (some g) :=
  ⟨hs.os.trans h.os, hs.tape.trans h.tape, hs.output.trans h.output, by rw [hs.size]; exact h.size, fun k hk hr => (hs.other k (fun e => hr (by rw [e]))).trans (h.block k hk hr)⟩
/-- append(s[:i], x...) where there is room: in place, from whatever is read (the same block too). -/
theorem append_in (T : StTy P t e k) {W : World} {g cap i m c' : Nat} {a : Addr} {cur cs : List Value} (hg : W.heap[g]? = some (.cells cur.toArray e (0, 0))) (hsrc : ∀ (j : Nat) (v : Value), cs[j]? = some v → W.cell? (a.add j) = some v) (hcs : cs.length = m * k) (hroom : i + m ≤ cap) (hl : i * k + cs.length ≤ cur.length) (h1 : ∀ v ∈ cs, v.oneCell' = true) (ty : TypeId) :
    ∃ W', (Builtin.append_ #[t, t] ty #[.slice (some ⟨g, 0, none⟩) i cap, .slice (some a) m c']).run P W = .ok (.slice (some ⟨g, 0, none⟩) (i + m) cap) W' ∧ Set1 W g (.cells (cur.take (i * k) ++ cs ++ cur.drop (i * k + cs.length)).toArray e (0, 0)) W' := by
  have hld := run_loadCells_list (P := P) W a cs hsrc
  have hst := run_storeCells_at (P := P) g (i * k) e cs 0 cur.toArray W hg (by simpa using hl) h1
  have hsz := T.size
  cases hq : P.info? e with
  | none => simp [hq] at hsz
  | some info =>
    have hi : info.size = k := by simpa [hq] using hsz
    refine ⟨_, ?_, set1_row (cs := (cur.take (i * k) ++ cs ++ cur.drop (i * k + cs.length)).toArray) hg⟩
    simp only [Nat.add_zero] at hst
    simp [Builtin.append_, run_underlying T.und, Builtin.lenOf, Builtin.firstCells, sizeOf, typeInfo, hq, hi, ← hcs, hld, hst, hroom, Go.Proofs.YtnkeijdpjcclcaaW.PrintWords.add_plain]
/-- s[lo:hi] of a block's row. -/
theorem cut_both (T : StTy P t e k) (g n c lo hi : Nat) (hlo : lo ≤ hi) (hh : hi ≤ c) (hc : lo < c) (kd kd2 : IntKind) (j j2 : Int) (hj : j = (lo : Int)) (hj2 : j2 = (hi : Int)) (W : World) :
    (Instr.sliceAt t (.slice (some ⟨g, 0, none⟩) n c) (some (.int kd j)) (some (.int kd2 j2)) none).run P W = .ok (.slice (some ⟨g, lo * k, none⟩) (hi - lo) (c - lo)) W := by
  rw [hj, hj2, run_sliceAt_slice W t _ _ _ _ (sty_und T), run_slice_lh W t _ n c (sty_und T) kd kd2 lo hi (by omega) (by omega) (by omega), st_sizeOf T]
  have h1 : ¬ (c = lo) := by omega
  simp [sliced, Result.andThen, h1, Go.Proofs.YtnkeijdpjcclcaaW.PrintWords.add_plain]
/-- s[lo:], the pointer where nothing is left too. -/
theorem cut_lo' (T : StTy P t e k) (g n c lo : Nat) (hlo : lo ≤ n) (hc : n ≤ c) (kd : IntKind) (j : Int) (hj : j = (lo : Int)) (W : World) :
    (Instr.sliceAt t (.slice (some ⟨g, 0, none⟩) n c) (some (.int kd j)) none none).run P W = .ok (.slice (some ⟨g, if c = lo then 0 else lo * k, none⟩) (n - lo) (c - lo)) W := by
  rw [hj, run_sliceAt_slice W t _ _ _ _ (sty_und T), run_slice_l W t _ n c (sty_und T) kd lo (by omega) (by omega), st_sizeOf T]
  by_cases h1 : c = lo
  · simp [sliced, Result.andThen, h1]
  · simp [sliced, Result.andThen, h1, Go.Proofs.YtnkeijdpjcclcaaW.PrintWords.add_plain]
/-- clear of a row's part. -/
theorem clear_run {bytes : Nat} {z : Value} (T : EType P t e k bytes z) {W : World} {g o m c : Nat} {cur : List Value} (hm : 0 < m) (hg : W.heap[g]? = some (.cells cur.toArray e (0, 0))) (hl : o + (Builtin.zeroCells z.cells m).toList.length ≤ cur.length) (h1 : ∀ v ∈ (Builtin.zeroCells z.cells m).toList, v.oneCell' = true) (ty : TypeId) :
    ∃ W', (Builtin.clear_ #[t] ty #[.slice (some ⟨g, o, none⟩) m c]).run P W = .ok (.tuple #[]) W' ∧ Set1 W g (.cells (cur.take o ++ (Builtin.zeroCells z.cells m).toList ++ cur.drop (o + (Builtin.zeroCells z.cells m).toList.length)).toArray e (0, 0)) W' := by
  have hst := run_storeCells_at (P := P) g o e (Builtin.zeroCells z.cells m).toList 0 cur.toArray W hg (by simpa using hl) h1
  have hin := T.info
  cases hq : P.info? e with
  | none => rw [hq] at hin; simp at hin
  | some info =>
    rw [hq] at hin
    simp only [Option.map_some, Option.some.injEq, Prod.mk.injEq] at hin
    refine ⟨_, ?_, set1_row (cs := (cur.take o ++ (Builtin.zeroCells z.cells m).toList ++ cur.drop (o + (Builtin.zeroCells z.cells m).toList.length)).toArray) hg⟩
    simp only [Nat.add_zero] at hst
    obtain ⟨m', rfl⟩ : ∃ m', m = m' + 1 := ⟨m - 1, by omega⟩
    simp [Builtin.clear_, run_underlying T.und, zeroValue, typeInfo, hq, hin.1, hst]
theorem run_clear_op {o : Oper} {l : List (Nat × Value)} {d : Operand} {ts : Array TypeId} {v v1 : Value} {w w1 : World} (ho : o.op = .call { callee := .builtin .clear, args := #[d], argTypes := ts }) (hd : lk l d = v)
    (hrun : (Builtin.clear_ ts o.type #[v]).run P w = .ok v1 w1) : (execOp (lk l) o).run P w = .ok (.value v1) w1 := by
  unfold execOp
  simp [ho, resolve, invoke, builtin, hd, hrun]
/-- A store of one cell, into a block. -/
theorem ob_store_blk {o : Oper} {x y : Operand} {ty : TypeId} {w : World} {dsts : List (Option Tmp)} {vs : Nat → Value} {a0 : Act} {R : Value → World → Prop} (l : List (Nat × Value)) {g i : Nat} {v : Value} {old : List Value} {t : TypeId} (hw : Wants o vs = true) (hv : Vs (rho dsts vs a0) l) (hc : covers o (l.map (·.1)) = true)
    (ho : o.op = .store ty x y) (hx : lk l x = .pointer (some ⟨g, i, none⟩)) (hy : lk l y = v) (hv1 : v.oneCell' = true) (hg : w.heap[g]? = some (.cells old.toArray t (0, 0))) (hl : i < old.length) (hi : (P.info? ty).map (·.size) = some 1)
    (hR : ∀ w', Set1 w g (.cells (old.set i v).toArray t (0, 0)) w' → R undef w') : Ob P dsts o vs a0 w R := by
  have hcell : w.cell? ⟨g, i, none⟩ = some old[i] := by simp [World.cell?, hg, hl]
  refine ob_store_cell l hw hv hc ho hx hy hv1 hcell (by simp [World.frozen?, hg]) hi (hR _ ?_)
  rw [setCell_eq_setRow w g i old.toArray t (0, 0) v hg, show old.toArray.setIfInBounds i v = (old.set i v).toArray by simp]
  exact set1_row hg
end
end Go.Proofs.Ytnkeijdpjcclcaa.Kit
