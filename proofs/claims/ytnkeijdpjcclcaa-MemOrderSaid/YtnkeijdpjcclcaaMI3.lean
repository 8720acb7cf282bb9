/- Merged of: EntE EntF EntG EntH EntI EntJ EntK EntL EntM MemOrder RowMemOrder -/
import Derived.Test.YtnkeijdpjcclcaaMI2
import Derived.Test.YtnkeijdpjcclcaaRows
import Derived.WalkKit
import Derived.ProofKit
import Derived.OpenShut
import Derived.ShutString
import Derived.ChangeOld
import Derived.Below
import Derived.SizedLaws
import Derived.Test.YtnkeijdpjcclcaaWSized
-- EntE
/- mem.Table: its state; New, Add. -/
namespace Go.Proofs.Ytnkeijdpjcclcaa.Mem
set_option linter.unusedVariables false
set_option linter.unusedSimpArgs false
open Go.Proofs.Ytnkeijdpjcclcaa.Kit Go.Proofs.Ytnkeijdpjcclcaa.Num Go.RowKit Go.Proofs.YtnkeijdpjcclcaaW.PrintWords Go.Proofs.YtnkeijdpjcclcaaW.PrintLast Go.Proofs.YtnkeijdpjcclcaaW.PrintMore NumPure Key
theorem op_alloc {P : Program} {o : Oper} {l : List (Nat × Value)} {t : TypeId} {i : TypeInfo} {z : Value} {w : World} (ho : o.op = .alloc t) (hi : P.info? t = some i) (hz : i.zero = some z) :
    (execOp (lk l) o).run P w = .ok (.value (.pointer (some ⟨w.heap.size, 0, none⟩))) (w.alloc (.cells z.cells t)) := by
  unfold execOp
  simp [ho, Instr.alloc, zeroValue, typeInfo, hi, hz, newVar, newRow, Result.andThen]
theorem zero61 : (Try.prog.info? 61).bind (·.zero) = some e0.ag := by kernel_rfl
theorem op_alloc61 {o : Oper} {l : List (Nat × Value)} {w : World} (ho : o.op = .alloc 61) :
    (execOp (lk l) o).run Try.prog w = .ok (.value (.pointer (some ⟨w.heap.size, 0, none⟩))) (w.alloc (.cells e0.cells.toArray 61)) := by
  obtain ⟨i, hi, hz⟩ := Option.bind_eq_some_iff.1 zero61
  exact op_alloc ho hi hz
theorem op_extract {P : Program} {o : Oper} {l : List (Nat × Value)} {x : Operand} {k : Nat} {vs : Array Value} {c : Value} {w : World} (ho : o.op = .extract x k) (hx : lk l x = .tuple vs) (hv : vs[k]? = some c) : (execOp (lk l) o).run P w = .ok (.value c) w := by
  unfold execOp
  simp [ho, hx, Instr.extract, hv, Result.andThen]
/-- What is known behind each operation of a region with a box made (ia) and a store into it (is). -/
def dF (ia is B : Nat) (cs : List Value) (ty : TypeId) (k : Nat) (new : List Value) (vs : Nat → Value) (i : Nat) (w : World) : Prop :=
  (i ≠ ia → i ≠ is → cs[i]? = some (vs i)) ∧
  (i = ia → ∃ g, vs ia = .pointer (some ⟨g, 0, none⟩) ∧ B ≤ g ∧ ∃ old : List Value, old.length = k ∧ w.heap[g]? = some (.cells old.toArray ty (0, 0))) ∧
  (i = is → ∃ g, vs ia = .pointer (some ⟨g, 0, none⟩) ∧ B ≤ g ∧ w.heap[g]? = some (.cells new.toArray ty (0, 0)))
section
variable {ia is B : Nat} {cs : List Value} {ty : TypeId} {k : Nat} {new : List Value} {vs : Nat → Value} {i : Nat} {w : World}
theorem dF_k {c : Value} (h : dF ia is B cs ty k new vs i w) (h1 : i ≠ ia) (h2 : i ≠ is) (hc : cs[i]? = some c) : vs i = c := by
  have := h.1 h1 h2
  rw [hc] at this
  exact (Option.some.inj this).symm
theorem dF_r {w0 w' : World} {c : Value} (h : Below w0.heap.size w0 w) (hb : Below w.heap.size w w') (h1 : i ≠ ia) (h2 : i ≠ is) (hc : cs[i]? = some c) :
    Below w0.heap.size w0 w' ∧ (i ∉ [is] → Below w.heap.size w w') ∧ dF ia is B cs ty k new (upd vs i c) i w' :=
  ⟨below_then h h.size hb, fun _ => hb, fun _ _ => by rw [upd_same]; exact hc, fun e => absurd e h1, fun e => absurd e h2⟩
theorem dF_cong {D : List (List Nat)} (hne : ia ≠ is) (hD : ia ∈ D.getD is []) : ∀ i vs vs' w, vs i = vs' i → (∀ j ∈ D.getD i [], vs j = vs' j) → dF ia is B cs ty k new vs i w → dF ia is B cs ty k new vs' i w := by
  intro i vs vs' W h1 h2 h
  refine ⟨fun a b => by rw [← h1]; exact h.1 a b, fun e => ?_, fun e => ?_⟩
  · subst e
    rw [← h1]
    exact h.2.1 rfl
  · subst e
    rw [← h2 ia hD]
    exact h.2.2 rfl
theorem dF_stay : ∀ vs i w w', dF ia is B cs ty k new vs i w → Below w.heap.size w w' → dF ia is B cs ty k new vs i w' := by
  intro vs i W W' h hb
  refine ⟨h.1, fun e => ?_, fun e => ?_⟩
  · obtain ⟨g, k1, k2, old, k3, k4⟩ := h.2.1 e
    exact ⟨g, k1, k2, old, k3, box_stays k4 hb⟩
  · obtain ⟨g, k1, k0, k2⟩ := h.2.2 e
    exact ⟨g, k1, k0, box_stays k2 hb⟩
theorem dF_fix : ∀ vs i w w', i ∉ [is] → decide (i ≠ ia) = true → dF ia is B cs ty k new vs i w → dF ia is B cs ty k new vs i w' := by
  intro vs i W W' h12 h11 h
  have h11 := of_decide_eq_true h11
  exact ⟨h.1, fun e => absurd e h11, fun e => absurd (by subst e; exact List.mem_singleton.2 rfl) h12⟩
end
/-- About how many bytes. -/
def szE (xs : List Ent) : Nat := (xs.map fun x => x.key.size + x.val.size + 16).sum
/-- A table. -/
structure TB (w : World) (B t p : Nat) (v : Value) (xs : List Ent) : Prop where
  box : w.heap[t]? = some (.cells [Value.pointer (some ⟨p, 0, none⟩), .int .i64 (szE xs : Nat)].toArray 97 (0, 0))
  so : SOE w B p v xs
  tp : t ≠ p
  tv : v.ownBlock ≠ some t
  base : B ≤ t
theorem tb_below {w W : World} {B t p : Nat} {v : Value} {xs : List Ent} (h : TB w B t p v xs) (hb : Below w.heap.size w W) : TB W B t p v xs := ⟨box_stays h.box hb, soe_below h.so hb, h.tp, h.tv, h.base⟩
/-- What changes at most: two boxes, a row. -/
structure Gr3 (w W : World) (t p : Nat) (r : Option Nat) : Prop where
  os : W.os = w.os
  tape : W.tape = w.tape
  output : W.output = w.output
  size : w.heap.size ≤ W.heap.size
  block : ∀ k, k < w.heap.size → k ≠ t → k ≠ p → some k ≠ r → W.heap[k]? = w.heap[k]?
theorem gr3_below {w W : World} {t p : Nat} {r : Option Nat} (h : Below w.heap.size w W) : Gr3 w W t p r := ⟨h.os, h.tape, h.output, h.size, fun k hk _ _ _ => h.block k hk⟩
theorem gr3_then {w W W' : World} {t p : Nat} {r : Option Nat} (h : Gr3 w W t p r) (hb : Below W.heap.size W W') : Gr3 w W' t p r :=
  ⟨hb.os.trans h.os, hb.tape.trans h.tape, hb.output.trans h.output, Nat.le_trans h.size hb.size, fun k hk ht hp hr => (hb.block k (Nat.lt_of_lt_of_le hk h.size)).trans (h.block k hk ht hp hr)⟩
theorem gr3_gr2 {w W W' : World} {t p : Nat} {r : Option Nat} (h : Below w.heap.size w W) (hb : Gr2 W W' p r) : Gr3 w W' t p r :=
  ⟨hb.os.trans h.os, hb.tape.trans h.tape, hb.output.trans h.output, Nat.le_trans h.size hb.size, fun k hk ht hp hr => (hb.block k (Nat.lt_of_lt_of_le hk h.size) hp hr).trans (h.block k hk)⟩
theorem gr3_set {w W W' : World} {t p : Nat} {r : Option Nat} {o : Obj} (h : Gr3 w W t p r) (hs : Set1 W t o W') : Gr3 w W' t p r :=
  ⟨hs.os.trans h.os, hs.tape.trans h.tape, hs.output.trans h.output, by rw [hs.size]; exact h.size, fun k hk ht hp hr => (hs.other k ht).trans (h.block k hk ht hp hr)⟩
theorem info93 : (Try.prog.info? 93).map (·.size) = some 1 := by kernel_rfl
theorem newT_any (w : World) : Calls Try.prog 37 #[] w fun e w' => ∃ t p, e = .returned (.pointer (some ⟨t, 0, none⟩)) ∧ TB w' w.heap.size t p (.slice none 0 0) [] ∧ Below w.heap.size w w' := by
  have C := Lib.hid (newE_any w)
  go_enter Try.func37, Try.ntmps37
  go_wp2_with fail
  refine C.out.mono ?_
  rintro e w1 ⟨rfl, hp, hs, hb⟩
  generalize w1.heap.size - 1 = p at hp hs ⊢
  have HS := Lib.hid hs
  have HB := Lib.hid hb
  clear hs hb C
  go_wp2_with fail
  go_ret
  have hb1 := below_alloc (Below.refl w1.heap.size w1) (.cells #[Value.pointer (some ⟨p, 0, none⟩), .int .i64 0] 97)
  have hpl := mk_lt HS.out.box
  exact ⟨w1.heap.size, p, rfl, ⟨heap_alloc_new w1 _, soe_below HS.out hb1, by omega, by simp [Value.ownBlock], HB.out.size⟩, below_then HB.out HB.out.size hb1⟩
/-- What stays so of a table's list. -/
structure GoodT (xs : List Ent) : Prop where
  srt : xs.Pairwise fun a b => a.cmp b < 0
  ok : ∀ y ∈ xs, y.ok
  chk : ∀ y ∈ xs, y.check = 0
theorem good_nil : GoodT [] := ⟨List.Pairwise.nil, (fun y h => (by cases h)), (fun y h => (by cases h))⟩
theorem good_get {xs : List Ent} (h : GoodT xs) {i j : Nat} {y z : Ent} (hij : i < j) (hy : xs[i]? = some y) (hz : xs[j]? = some z) : y.cmp z < 0 := by
  obtain ⟨hi, rfl⟩ := List.getElem?_eq_some_iff.1 hy
  obtain ⟨hj, rfl⟩ := List.getElem?_eq_some_iff.1 hz
  exact List.pairwise_iff_getElem.1 h.srt i j hi hj hij
theorem good_mono {xs : List Ent} (h : GoodT xs) (x : Ent) : Mono Ent.cmp xs x := fun i j y z hij hy hz hl => by
  rcases Nat.lt_or_ge i j with g | g
  · exact Ent.cmp_trans y z x (good_get h g hy hz) hl
  · obtain rfl : i = j := by omega
    rw [hy] at hz
    injection hz with hz
    subst hz
    exact hl
theorem hit_some {xs : List Ent} {x : Ent} (h : hit Ent.cmp xs x = true) : ∃ y, xs[pos Ent.cmp xs x]? = some y ∧ y.cmp x = 0 := by
  unfold hit at h
  cases hq : xs[pos Ent.cmp xs x]? with
  | none => rw [hq] at h; cases h
  | some y =>
    rw [hq] at h
    exact ⟨y, rfl, by simpa using h⟩
theorem hit_none {xs : List Ent} {x : Ent} (h : hit Ent.cmp xs x = false) (y : Ent) (hy : xs[pos Ent.cmp xs x]? = some y) : x.cmp y < 0 := by
  have h1 := pos_at Ent.cmp y hy
  unfold hit at h
  rw [hy] at h
  have h2 : y.cmp x ≠ 0 := by simpa using h
  have h3 := Ent.cmp_anti y x
  omega
theorem ins_below {xs : List Ent} {x : Ent} : ∀ a ∈ xs.take (pos Ent.cmp xs x), a.cmp x < 0 := fun a ha => by
  obtain ⟨i, hi, rfl⟩ := List.getElem_of_mem ha
  rw [List.length_take] at hi
  rw [List.getElem_take]
  exact pos_below Ent.cmp i _ (by omega) (List.getElem?_eq_getElem (by omega))
theorem ins_above {xs : List Ent} (h : GoodT xs) {x : Ent} (hh : hit Ent.cmp xs x = false) : ∀ b ∈ xs.drop (pos Ent.cmp xs x), x.cmp b < 0 := fun b hb => by
  obtain ⟨i, hi, rfl⟩ := List.getElem_of_mem hb
  rw [List.length_drop] at hi
  rw [List.getElem_drop]
  have hlt : pos Ent.cmp xs x < xs.length := by omega
  have h1 := hit_none hh _ (List.getElem?_eq_getElem hlt)
  rcases Nat.eq_zero_or_pos i with g | g
  · subst g
    exact h1
  · exact Ent.cmp_trans _ _ _ h1 (good_get h (show pos Ent.cmp xs x < pos Ent.cmp xs x + i by omega) (List.getElem?_eq_getElem hlt) (List.getElem?_eq_getElem (by omega)))
theorem mem_ins {xs : List Ent} {x y : Ent} : y ∈ insL xs x ↔ y = x ∨ y ∈ xs := by
  unfold insL
  rw [List.mem_append, List.mem_append, List.mem_singleton]
  conv => rhs; rw [← List.take_append_drop (pos Ent.cmp xs x) xs]
  rw [List.mem_append]
  constructor
  · rintro ((h | h) | h)
    · exact .inr (.inl h)
    · exact .inl h
    · exact .inr (.inr h)
  · rintro (h | h | h)
    · exact .inl (.inr h)
    · exact .inl (.inl h)
    · exact .inr h
theorem good_ins {xs : List Ent} (h : GoodT xs) {x : Ent} (hx : x.ok) (hc : x.check = 0) (hh : hit Ent.cmp xs x = false) : GoodT (insL xs x) := by
  refine ⟨?_, fun y hy => ?_, fun y hy => ?_⟩
  · have hbelow := ins_below (xs := xs) (x := x)
    have habove := ins_above h hh
    unfold insL
    rw [List.pairwise_append, List.pairwise_append]
    refine ⟨⟨h.srt.sublist (List.take_sublist _ _), List.pairwise_singleton _ _, fun a ha b hb => ?_⟩, h.srt.sublist (List.drop_sublist _ _), fun a ha b hb => ?_⟩
    · rw [List.mem_singleton.1 hb]
      exact hbelow a ha
    · rcases List.mem_append.1 ha with ha | ha
      · exact Ent.cmp_trans _ _ _ (hbelow a ha) (habove b hb)
      · rw [List.mem_singleton.1 ha]
        exact habove b hb
  · rcases mem_ins.1 hy with rfl | hy
    · exact hx
    · exact h.ok y hy
  · rcases mem_ins.1 hy with rfl | hy
    · exact hc
    · exact h.chk y hy
theorem szE_append (a b : List Ent) : szE (a ++ b) = szE a + szE b := by simp [szE]
theorem szE_one (x : Ent) : szE [x] = x.key.size + x.val.size + 16 := by simp [szE]
theorem szE_ins (xs : List Ent) (x : Ent) : szE (insL xs x) = szE xs + (x.key.size + x.val.size + 16) := by
  unfold insL
  rw [szE_append, szE_append, szE_one]
  conv => rhs; rw [← List.take_append_drop (pos Ent.cmp xs x) xs, szE_append]
  omega
theorem szE_le : ∀ {xs : List Ent}, (∀ y ∈ xs, y.check = 0) → szE xs ≤ xs.length * 70000
  | [], _ => by simp [szE]
  | a :: r, h => by
    have ih := szE_le (xs := r) (fun y hy => h y (List.mem_cons_of_mem _ hy))
    have h1 := check_zero.1 (h a (List.mem_cons_self ..))
    rw [show a :: r = [a] ++ r from rfl, szE_append, szE_one, List.length_append, List.length_singleton]
    omega
theorem ins_length (xs : List Ent) (x : Ent) : (insL xs x).length = xs.length + 1 := by
  have := pos_le Ent.cmp xs x
  unfold insL
  simp only [List.length_append, List.length_take, List.length_drop, List.length_singleton]
  omega
/-- What Add tells, what it leaves. -/
def addR (xs : List Ent) (x : Ent) : Nat := if x.check ≠ 0 then x.check else if hit Ent.cmp xs x = true then 5 else 0
def addL (xs : List Ent) (x : Ent) : List Ent := if addR xs x = 0 then insL xs x else xs
theorem good_add {xs : List Ent} (h : GoodT xs) {x : Ent} (hx : x.ok) : GoodT (addL xs x) := by
  unfold addL
  split
  · rename_i e
    unfold addR at e
    split at e
    · omega
    · rename_i hc
      split at e
      · cases e
      · rename_i hh
        exact good_ins h hx (by omega) (by simpa using hh)
  · exact h
theorem add_length (xs : List Ent) (x : Ent) : (addL xs x).length ≤ xs.length + 1 := by
  unfold addL
  split
  · rw [ins_length]; exact Nat.le_refl _
  · omega
theorem at_pos {xs : List Ent} {x : Ent} : ((atE xs (pos Ent.cmp xs x : Nat)).2 && ((atE xs (pos Ent.cmp xs x : Nat)).1.cmp x == 0)) = hit Ent.cmp xs x := by
  unfold atE hit
  have hp := pos_le Ent.cmp xs x
  rcases Nat.lt_or_ge (pos Ent.cmp xs x) xs.length with g | g
  · rw [if_pos (by omega), List.getElem?_eq_getElem g, show ((pos Ent.cmp xs x : Nat) : Int).toNat = pos Ent.cmp xs x from rfl, List.getD_eq_getElem?_getD, List.getElem?_eq_getElem g]
    rfl
  · rw [if_neg (by omega), List.getElem?_eq_none g]
    rfl
theorem e0_ok : e0.ok := ⟨by decide, by decide, by decide⟩
theorem at_ok {xs : List Ent} (h : ∀ y ∈ xs, Ent.ok y) (j : Int) : (atE xs j).1.ok := by
  unfold atE
  split
  · rename_i hj
    have hl : j.toNat < xs.length := by omega
    show (xs.getD j.toNat e0).ok
    rw [List.getD_eq_getElem?_getD, List.getElem?_eq_getElem hl]
    exact h _ (List.getElem_mem hl)
  · exact e0_ok
end Go.Proofs.Ytnkeijdpjcclcaa.Mem
-- EntF
/- mem.Table: Add. -/
namespace Go.Proofs.Ytnkeijdpjcclcaa.Mem
set_option linter.unusedVariables false
set_option linter.unusedSimpArgs false
open Go.Proofs.Ytnkeijdpjcclcaa.Kit Go.Proofs.Ytnkeijdpjcclcaa.Num Go.RowKit Go.Proofs.YtnkeijdpjcclcaaW.PrintWords Go.Proofs.YtnkeijdpjcclcaaW.PrintLast Go.Proofs.YtnkeijdpjcclcaaW.PrintMore NumPure Key
theorem info9 : (Try.prog.info? 9).map (·.size) = some 1 := by kernel_rfl
theorem reg_38_6 : RegOk (opsOf Try.f38 6) [[], [0], [0, 1], [0, 1, 2], [], [4], [4, 5], [4, 5, 6], [], [4, 5, 6, 7, 8], [0, 1, 2, 3, 4, 5, 6, 7, 8, 9], [0, 1, 2, 3, 4, 5, 6, 7, 8, 9, 10], [0, 1, 2, 3, 4, 5, 6, 7, 8, 9, 10, 11], [0, 1, 2, 3, 4, 5, 6, 7, 8, 9, 10, 11], [], [0, 1, 2, 3, 4, 5, 6, 7, 8, 9, 10, 11, 12, 14], [0, 1, 2, 3, 4, 5, 6, 7, 8, 9, 10, 11, 12, 13, 14, 15]] [15] [some 16, some 17, some 18, some 19, some 20, some 21, some 22, some 23, some 24, some 25, some 26, some 15, some 27, some 28, some 6, none, some 7] := regOk (by kernel_rfl)
theorem reg_38_7 : RegOk (opsOf Try.f38 7) [[], [0], [0, 1], [0, 1], [0, 1, 2, 3], [0, 1, 2, 3, 4], [0, 1, 2, 3, 4, 5]] [] [some 29, some 30, some 31, some 32, some 33, some 34, some 35] := regOk (by kernel_rfl)
theorem reg_38_9 : RegOk (opsOf Try.f38 9) [[], [0], [0, 1], [0, 1, 2], [], [0, 1, 2, 3, 4]] [5] [some 36, some 37, some 38, some 39, some 40, some 41] := regOk (by kernel_rfl)
theorem reg_38_10 : RegOk (opsOf Try.f38 10) [[], [0], [0, 1], [0, 1, 2], [], [4], [4, 5], [], [7], [7, 8], [4, 5, 6, 7, 8, 9], [4, 5, 6, 7, 8, 9, 10], [0, 1, 2, 3, 4, 5, 6, 7, 8, 9, 10, 11], [0, 1, 2, 3, 4, 5, 6, 7, 8, 9, 10, 11, 12], [0, 1, 2, 3, 4, 5, 6, 7, 8, 9, 10, 11, 12, 13], [0, 1, 2, 3, 4, 5, 6, 7, 8, 9, 10, 11, 12, 13, 14]] [15] [some 42, some 43, some 44, some 45, some 46, some 47, some 48, some 49, some 50, some 51, some 52, some 53, some 54, some 55, some 56, none] := regOk (by kernel_rfl)
set_option maxRecDepth 20000 in
set_option maxHeartbeats 3200000 in
theorem addT_any (w : World) {B t p : Nat} {v : Value} {xs : List Ent} (x : Ent) (h : TB w B t p v xs) (hB : B ≤ w.heap.size) (hn : xs.length ≤ 1000) (hg : GoodT xs) (hx : x.ok) :
    Calls Try.prog 38 #[.pointer (some ⟨t, 0, none⟩), x.ag] w fun e w' => e = .returned (.int .i64 (addR xs x : Nat)) ∧ ∃ v', TB w' B t p v' (addL xs x) ∧ Gr3 w w' t p v.ownBlock ∧ Goes w v v' := by
  obtain ⟨ys, hys⟩ : ∃ ys, addL xs x = ys := ⟨_, rfl⟩
  obtain ⟨R, hR⟩ : ∃ R, addR xs x = R := ⟨_, rfl⟩
  have hys2 := hys
  have hR2 := hR
  unfold addL at hys2
  rw [hR] at hys2
  rw [hys, hR]
  unfold addR at hR2
  have HYS := Lib.hid hys2
  have HR := Lib.hid hR2
  have HG := Lib.hid hg
  have HX := Lib.hid hx
  have HT0 := Lib.hid h
  have htv := h.tv
  have htp := h.tp
  have hbase := h.base
  have hown := ownk_lt h.so.own
  have htl := mk_lt h.box
  have hpl := mk_lt h.so.box
  have HX0 := Lib.hid (heap_alloc_new w (.cells x.cells.toArray 61))
  have HA0 := Lib.hid (below_alloc (Below.refl w.heap.size w) (.cells x.cells.toArray 61))
  have HT1 := Lib.hid (tb_below h HA0.out)
  clear h hg hx hys hR hys2 hR2
  show Calls Try.prog 38 #[.pointer (some ⟨t, 0, none⟩), .agg x.cells.toArray] w _
  go_enter Try.func38, Try.ntmps38
  go_upto_region 1 with fail
  generalize w.alloc (.cells x.cells.toArray 61) = w0 at HX0 HA0 HT1 ⊢
  obtain ⟨bx, hbx⟩ : ∃ bx, w.heap.size = bx := ⟨_, rfl⟩
  rw [hbx] at HX0 ⊢
  have hbx2 : w.heap.size ≤ bx := by omega
  clear hbx HT0
  have C1 := Lib.hid (check_any x HX.out w0)
  go_wp2_with (first | (refine wpList_load_box rfl 61 (.tmp 3) rfl bx x.cells rfl HX0.out Try.underlying61 rfl info61 ?_) | fail)
  refine C1.out.mono ?_
  rintro e w1 ⟨rfl, hb1⟩
  have HA1 := Lib.hid (below_then HA0.out HA0.out.size hb1)
  have HX1 := Lib.hid (box_stays HX0.out hb1)
  have HT2 := Lib.hid (tb_below HT1.out hb1)
  clear hb1 C1 HX0 HA0 HT1
  by_cases hc : x.check = 0
  · have CS := Lib.hid (fun W (hW : Below w1.heap.size w1 W) => seekE_any W x (soe_below HT2.out.so hW) (by omega) HG.out.ok HX.out (good_mono HG.out x))
    have CA := Lib.hid (fun W (hW : Below w1.heap.size w1 W) => atE_any W (pos Ent.cmp xs x : Nat) (soe_below HT2.out.so hW))
    have hat := at_pos (xs := xs) (x := x)
    obtain ⟨old, hold⟩ : ∃ old, (atE xs (pos Ent.cmp xs x : Nat)).1 = old := ⟨_, rfl⟩
    obtain ⟨bb, hbb⟩ : ∃ b, (atE xs (pos Ent.cmp xs x : Nat)).2 = b := ⟨_, rfl⟩
    have HOK := Lib.hid (at_ok HG.out.ok (pos Ent.cmp xs x : Nat))
    rw [hold] at HOK
    rw [hold, hbb] at hat
    simp only [hold, hbb] at CA
    have hR := HR.out
    rw [if_neg (by omega)] at hR
    obtain ⟨T, hT⟩ : ∃ T, hit Ent.cmp xs x = T := ⟨_, rfl⟩
    have HT := Lib.hid hT
    rw [hT] at hat hR
    have HAT := Lib.hid hat
    have HRR := Lib.hid hR
    clear hold hbb hat hR HR hT
    generalize pos Ent.cmp xs x = po at CS CA
    rw [hc]
    have hc2 := Lib.hid hc
    clear hc
    go_upto_region 6 with fail
    refine drawsD_ (fun wq => Below w1.heap.size w1 wq) (fun _ => True) (dF 14 15 w1.heap.size [.pointer (some ⟨t, 0, none⟩), .pointer (some ⟨t, 0, none⟩), .pointer (some ⟨t, 0, none⟩), .pointer (some ⟨p, 0, none⟩), .pointer (some ⟨t, 0, none⟩), .pointer (some ⟨t, 0, none⟩), .pointer (some ⟨t, 0, none⟩), .pointer (some ⟨p, 0, none⟩), x.ag, .int .i64 (po : Nat), .tuple #[old.ag, .bool bb], .tuple #[old.ag, .bool bb], old.ag, .bool bb, undef, undef, .bool bb] 61 4 (old.cells)) (fun i => decide (i ≠ 14)) (by kernel_rfl) reg_38_6 rfl (fun _ _ _ _ => trivial) (below_drew (Below.refl _ _)) trivial (dF_cong (by decide) (List.mem_of_elem_eq_true rfl)) dF_stay dF_fix ?_ ?_
    · intro i o hio vs wq hI _ _ hK
      have hil : i < 17 := (Array.getElem?_eq_some_iff.1 hio).1
      rcases (by omega : i = 0 ∨ i = 1 ∨ i = 2 ∨ i = 3 ∨ i = 4 ∨ i = 5 ∨ i = 6 ∨ i = 7 ∨ i = 8 ∨ i = 9 ∨ i = 10 ∨ i = 11 ∨ i = 12 ∨ i = 13 ∨ i = 14 ∨ i = 15 ∨ i = 16) with rfl | rfl | rfl | rfl | rfl | rfl | rfl | rfl | rfl | rfl | rfl | rfl | rfl | rfl | rfl | rfl | rfl <;> obtain rfl := Option.some.inj hio
      · exact ob_copy (.inl rfl) (wants_none rfl) (rho_out rfl rfl) (dF_r hI (Below.refl _ _) (by decide) (by decide) rfl)
      · exact ob_run [(16, _)] (wants_none rfl) ⟨rho_in rfl (dF_k (hK 0 (List.mem_of_elem_eq_true rfl)) (by decide) (by decide) rfl), trivial⟩ rfl (by simp only [execOp, Option.map_some, Option.map_none, lk_tmp, lk_const, lkT_cons, ↓reduceIte, Nat.reduceEqDiff]; go_simp; (first | done | rfl)) (dF_r hI (Below.refl _ _) (by decide) (by decide) rfl)
      · exact ob_run [(17, _)] (wants_none rfl) ⟨rho_in rfl (dF_k (hK 1 (List.mem_of_elem_eq_true rfl)) (by decide) (by decide) rfl), trivial⟩ rfl (op_field rfl rfl Try.underlying97 rfl rfl rfl info93 (by decide)) (dF_r hI (Below.refl _ _) (by decide) (by decide) rfl)
      · exact ob_run [(18, _)] (wants_none rfl) ⟨rho_in rfl (dF_k (hK 2 (List.mem_of_elem_eq_true rfl)) (by decide) (by decide) rfl), trivial⟩ rfl (run_load_cell (ad := ⟨t, 0, none⟩) rfl rfl rfl Try.underlying93 rfl (by have := box_stays HT2.out.box hI; simp [World.cell?, this])) (dF_r hI (Below.refl _ _) (by decide) (by decide) rfl)
      · exact ob_copy (.inl rfl) (wants_none rfl) (rho_out rfl rfl) (dF_r hI (Below.refl _ _) (by decide) (by decide) rfl)
      · exact ob_run [(20, _)] (wants_none rfl) ⟨rho_in rfl (dF_k (hK 4 (List.mem_of_elem_eq_true rfl)) (by decide) (by decide) rfl), trivial⟩ rfl (by simp only [execOp, Option.map_some, Option.map_none, lk_tmp, lk_const, lkT_cons, ↓reduceIte, Nat.reduceEqDiff]; go_simp; (first | done | rfl)) (dF_r hI (Below.refl _ _) (by decide) (by decide) rfl)
      · exact ob_run [(21, _)] (wants_none rfl) ⟨rho_in rfl (dF_k (hK 5 (List.mem_of_elem_eq_true rfl)) (by decide) (by decide) rfl), trivial⟩ rfl (op_field rfl rfl Try.underlying97 rfl rfl rfl info93 (by decide)) (dF_r hI (Below.refl _ _) (by decide) (by decide) rfl)
      · exact ob_run [(22, _)] (wants_none rfl) ⟨rho_in rfl (dF_k (hK 6 (List.mem_of_elem_eq_true rfl)) (by decide) (by decide) rfl), trivial⟩ rfl (run_load_cell (ad := ⟨t, 0, none⟩) rfl rfl rfl Try.underlying93 rfl (by have := box_stays HT2.out.box hI; simp [World.cell?, this])) (dF_r hI (Below.refl _ _) (by decide) (by decide) rfl)
      · exact ob_run [(3, _)] (wants_none rfl) ⟨rho_out rfl rfl, trivial⟩ rfl (run_load_op rfl rfl (load_ent (box_stays HX1.out hI))) (dF_r hI (Below.refl _ _) (by decide) (by decide) rfl)
      · exact ob_call [(23, _), (24, _)] _ (wants_none rfl) ⟨rho_in rfl (dF_k (hK 7 (List.mem_of_elem_eq_true rfl)) (by decide) (by decide) rfl), rho_in rfl (dF_k (hK 8 (List.mem_of_elem_eq_true rfl)) (by decide) (by decide) rfl), trivial⟩ rfl rfl Try.func63 (by kernel_rfl) rfl (margs rfl) ((CS.out wq hI).mono fun e w2 h => ⟨_, h.1, dF_r hI h.2 (by decide) (by decide) rfl⟩)
      · exact ob_call [(19, _), (25, _)] _ (wants_none rfl) ⟨rho_in rfl (dF_k (hK 3 (List.mem_of_elem_eq_true rfl)) (by decide) (by decide) rfl), rho_in rfl (dF_k (hK 9 (List.mem_of_elem_eq_true rfl)) (by decide) (by decide) rfl), trivial⟩ rfl rfl Try.func62 (by kernel_rfl) rfl (margs rfl) ((CA.out wq hI).mono fun e w2 h => ⟨_, h.1, dF_r hI h.2 (by decide) (by decide) rfl⟩)
      · exact ob_copy (.inl rfl) (wants_none rfl) (rho_in rfl (dF_k (hK 10 (List.mem_of_elem_eq_true rfl)) (by decide) (by decide) rfl)) (dF_r hI (Below.refl _ _) (by decide) (by decide) rfl)
      · exact ob_run [(15, _)] (wants_none rfl) ⟨rho_in rfl (dF_k (hK 11 (List.mem_of_elem_eq_true rfl)) (by decide) (by decide) rfl), trivial⟩ rfl (op_extract rfl rfl rfl) (dF_r hI (Below.refl _ _) (by decide) (by decide) rfl)
      · exact ob_run [(15, _)] (wants_none rfl) ⟨rho_in rfl (dF_k (hK 11 (List.mem_of_elem_eq_true rfl)) (by decide) (by decide) rfl), trivial⟩ rfl (op_extract rfl rfl rfl) (dF_r hI (Below.refl _ _) (by decide) (by decide) rfl)
      · exact ob_run [] (wants_none rfl) trivial rfl (op_alloc61 rfl) ⟨below_then hI hI.size (below_alloc (Below.refl _ _) _), fun _ => below_alloc (Below.refl _ _) _, fun e => absurd rfl e, fun _ => ⟨wq.heap.size, upd_same _ _ _, hI.size, _, rfl, heap_alloc_new wq _⟩, fun e => by cases e⟩
      · obtain ⟨g, e1, e2, old, e3, e4⟩ := (hK 14 (List.mem_of_elem_eq_true rfl)).2.1 rfl
        exact ob_store_box [(6, _), (27, _)] (wants_none rfl) ⟨rho_in rfl e1, rho_in rfl (dF_k (hK 12 (List.mem_of_elem_eq_true rfl)) (by decide) (by decide) rfl), trivial⟩ rfl rfl rfl rfl e4 e3 info61 rfl (fun w' hs => ⟨hs.then_ hI e2, fun h => absurd (List.mem_singleton.2 rfl) h, fun _ h => absurd rfl h, fun e => (by cases e), fun _ => ⟨g, (upd_other vs undef (by decide)).trans e1, e2, hs.at_⟩⟩)
      · exact ob_copy (.inr rfl) (wants_none rfl) (rho_in rfl (dF_k (hK 13 (List.mem_of_elem_eq_true rfl)) (by decide) (by decide) rfl)) (dF_r hI (Below.refl _ _) (by decide) (by decide) rfl)
    intro vs wq hI hF
    obtain ⟨gD, eD, eB, eX⟩ := (hF 15 (by decide) rfl).2.2 rfl
    have eD0 := dF_k (hF 0 (by decide) rfl) (by decide) (by decide) rfl
    have eD1 := dF_k (hF 1 (by decide) rfl) (by decide) (by decide) rfl
    have eD2 := dF_k (hF 2 (by decide) rfl) (by decide) (by decide) rfl
    have eD3 := dF_k (hF 3 (by decide) rfl) (by decide) (by decide) rfl
    have eD4 := dF_k (hF 4 (by decide) rfl) (by decide) (by decide) rfl
    have eD5 := dF_k (hF 5 (by decide) rfl) (by decide) (by decide) rfl
    have eD6 := dF_k (hF 6 (by decide) rfl) (by decide) (by decide) rfl
    have eD7 := dF_k (hF 7 (by decide) rfl) (by decide) (by decide) rfl
    have eD8 := dF_k (hF 8 (by decide) rfl) (by decide) (by decide) rfl
    have eD9 := dF_k (hF 9 (by decide) rfl) (by decide) (by decide) rfl
    have eD10 := dF_k (hF 10 (by decide) rfl) (by decide) (by decide) rfl
    have eD11 := dF_k (hF 11 (by decide) rfl) (by decide) (by decide) rfl
    have eD12 := dF_k (hF 12 (by decide) rfl) (by decide) (by decide) rfl
    have eD13 := dF_k (hF 13 (by decide) rfl) (by decide) (by decide) rfl
    have eD16 := dF_k (hF 16 (by decide) rfl) (by decide) (by decide) rfl
    simp only [putL, Nat.reduceAdd, eD, eD0, eD1, eD2, eD3, eD4, eD5, eD6, eD7, eD8, eD9, eD10, eD11, eD12, eD13, eD16, Act.put, List.setIfInBounds_toArray, List.set_cons_zero, List.set_cons_succ]
    clear hF eD eD0 eD1 eD2 eD3 eD4 eD5 eD6 eD7 eD8 eD9 eD10 eD11 eD12 eD13 eD16
    have HX2 := Lib.hid (box_stays HX1.out hI)
    have HO2 := Lib.hid eX
    have HW2 := Lib.hid (below_then HA1.out HA1.out.size hI)
    have HT3 := Lib.hid (tb_below HT2.out hI)
    clear hI eX HX1 HA1 HT2 CS CA
    obtain ⟨w2, rfl⟩ : ∃ w2 : World, w2 = wq := ⟨_, rfl⟩
    go_upto_region 7 with fail
    refine plain_ (fun wq => Below w2.heap.size w2 wq) (fun _ => True) reg_38_7 rfl inv0 (fun _ _ _ _ => trivial) (Below.refl _ _) trivial ?_
    refine w_move (.inl rfl) (fun vs w hK => ⟨wants_none rfl, rho_out rfl rfl⟩) ?_
    refine w_move (.inl rfl) (fun vs w hK => ⟨wants_none rfl, rho_in rfl (fv (hK 0 (memE rfl)))⟩) ?_
    refine w_valG [(6, _)] (old.ag) (fun vs w hK => wantsT rfl (fv (hK 1 (memE rfl)))) (fun hG vs w hK => ⟨(rho_out rfl rfl), trivial⟩) rfl (fun hG wq hI => by exact run_load_op rfl rfl (load_ent (box_stays HO2.out hI))) ?_
    refine w_valG [(3, _)] (x.ag) (fun vs w hK => wantsT rfl (fv (hK 1 (memE rfl)))) (fun hG vs w hK => ⟨(rho_out rfl rfl), trivial⟩) rfl (fun hG wq hI => by exact run_load_op rfl rfl (load_ent (box_stays HX2.out hI))) ?_
    refine w_callG [(31, _), (32, _)] _ _ (by decide) (fun vs w hK => wantsT rfl (fv (hK 1 (memE rfl)))) (fun hG vs w hK => ⟨(rho_in rfl (fvg (hK 2 (memE rfl)) hG)), (rho_in rfl (fvg (hK 3 (memE rfl)) hG)), trivial⟩) rfl rfl Try.func32 (by kernel_rfl) rfl (fun hG wq hI => cmp_any old x HOK.out HX.out wq) (margs rfl) ?_
    refine w_valG [(33, _)] (_) (fun vs w hK => wantsT rfl (fv (hK 1 (memE rfl)))) (fun hG vs w hK => ⟨(rho_in rfl (fvg (hK 4 (memE rfl)) hG)), trivial⟩) rfl (fun hG wq hI => by exact run_int_eql rfl rfl rfl rfl) ?_
    refine w_and rfl (fun vs w hK => wants_none rfl) (fun vs w hK => (rho_in rfl (fv (hK 1 (memE rfl))))) (fun hB vs w hK => (rho_in rfl (fvg (hK 5 (memE rfl)) hB))) ?_
    refine w_as (c' := .bool T) (congrArg Value.bool HAT.out) ?_
    refine w_endM [false, false, false, false, false, false, true] rfl rfl rfl (fun vs wq hI hF => ?_)
    simp only [List.reverse_cons, List.reverse_nil, List.nil_append, List.cons_append, finL_val, finL_of, finL_any, finL_app, finL_new, finL_gr, finL_row, finL_box, finL_nil, Act.put, List.setIfInBounds_toArray, List.set_cons_zero, List.set_cons_succ, Nat.reduceAdd, maskF, finL_imp, Bool.not_false, Bool.not_true, Bool.true_and, Bool.false_and]
    have HX3 := Lib.hid (box_stays HX2.out hI)
    have HW3 := Lib.hid (below_then HW2.out HW2.out.size hI)
    have HT4 := Lib.hid (tb_below HT3.out hI)
    clear hI hF HX2 HO2 HW2 HT3 HAT HOK
    obtain ⟨w3, rfl⟩ : ∃ w3 : World, w3 = wq := ⟨_, rfl⟩
    cases T with
    | true =>
      have e := HRR.out
      rw [if_pos rfl] at e
      subst e
      have e2 := HYS.out
      rw [if_neg (by decide)] at e2
      subst e2
      clear HRR HYS
      go_wp2_with fail
      go_ret
      exact ⟨rfl, v, HT4.out, gr3_below HW3.out, .inl rfl⟩
    | false =>
      have e := HRR.out
      rw [if_neg (by decide)] at e
      subst e
      have e2 := HYS.out
      rw [if_pos rfl] at e2
      have HY := Lib.hid e2
      have hw3 := HW3.out.size
      clear HRR HYS e2
      go_upto_region 9 with fail
      refine draws_ (fun W => Gr3 w W t p v.ownBlock) (fun W => TB W B t p v xs ∧ w.heap.size ≤ W.heap.size ∧ W.heap[bx]? = some (.cells x.cells.toArray 61)) (by kernel_rfl) reg_38_9 rfl (fun _ _ h k => gr3_then h k) (fun _ _ h k => ⟨tb_below h.1 k, Nat.le_trans h.2.1 k.size, box_stays h.2.2 k⟩) (gr3_below (below_drew HW3.out)) ⟨tb_below HT4.out (below_drew (Below.refl _ _)), hw3, HX3.out⟩ ?_
      refine w_move (.inl rfl) (fun vs w hK => ⟨wants_none rfl, rho_out rfl rfl⟩) ?_
      refine w_val [(36, _)] _ (fun vs w hK => ⟨wants_none rfl, rho_in rfl (fv (hK 0 (memE rfl))), trivial⟩) rfl (fun wq hI => by simp only [execOp, Option.map_some, Option.map_none, lk_tmp, lk_const, lkT_cons, ↓reduceIte, Nat.reduceEqDiff]; go_simp; (first | done | rfl)) ?_
      refine w_val [(37, _)] (_) (fun vs w hK => ⟨wants_none rfl, rho_in rfl (fv (hK 1 (memE rfl))), trivial⟩) rfl (fun wq hI => by exact op_field rfl rfl Try.underlying97 rfl rfl rfl info93 (by decide)) ?_
      refine w_anyJ (.val (.pointer (some ⟨p, 0, none⟩))) (by decide) (fun vs wq hI hJ hK => ?_) ?_
      · have hA := (hJ (by decide)).1.box
        exact ob_run [(38, .pointer (some ⟨t, 0, none⟩))] (wants_none rfl) ⟨rho_in rfl (fv (hK 2 (memE rfl))), trivial⟩ rfl (run_load_cell (ad := ⟨t, 0, none⟩) rfl rfl rfl Try.underlying93 rfl (by simp [World.cell?, hA])) ⟨Below.refl _ _, rfl⟩
      refine w_anyJ (.val x.ag) (by decide) (fun vs wq hI hJ hK => ?_) ?_
      · have hA := (hJ (by decide)).2.2
        exact ob_run [(3, .pointer (some ⟨bx, 0, none⟩))] (wants_none rfl) ⟨rho_out rfl rfl, trivial⟩ rfl (run_load_op rfl rfl (load_ent hA)) ⟨Below.refl _ _, rfl⟩
      refine w_lin (FW.of (fun v0 W => v0 = .bool false ∧ W.heap[t]? = some (.cells [Value.pointer (some ⟨p, 0, none⟩), .int .i64 (szE xs : Nat)].toArray 97 (0, 0)) ∧ W.heap[bx]? = some (.cells x.cells.toArray 61) ∧ ∃ v', SOE W B p v' ys ∧ v'.ownBlock ≠ some t ∧ Goes w v v') (fun _ _ _ h hb => ⟨h.1, box_stays h.2.1 hb, box_stays h.2.2.1 hb, h.2.2.2.elim fun v' h => ⟨v', soe_below h.1 hb, h.2⟩⟩)) (by decide) (fun vs wq hI hJ hK => ?_) ?_
      · obtain ⟨hA, hA2, hA3⟩ := hJ (by decide) (by decide)
        refine ob_call [(39, .pointer (some ⟨p, 0, none⟩)), (40, x.ag)] _ (wants_none rfl) ⟨rho_in rfl (fv (hK 3 (memE rfl))), rho_in rfl (fv (hK 4 (memE rfl))), trivial⟩ rfl rfl Try.func64 (by kernel_rfl) rfl (margs rfl) ((putE_any wq x hA.so (by omega) (by omega) HG.out.ok HX.out (good_mono HG.out x) HT.out).mono ?_)
        rintro e w' ⟨rfl, v', k1, k2, k3⟩
        rw [HY.out] at k1
        refine ⟨_, rfl, ⟨k2.os.trans hI.os, k2.tape.trans hI.tape, k2.output.trans hI.output, Nat.le_trans hI.size k2.size, fun k hk ht hp hr => (k2.block k (Nat.lt_of_lt_of_le hk hI.size) hp hr).trans (hI.block k hk ht hp hr)⟩, rfl, ?_, ?_, v', k1, ?_, ?_⟩
        · rw [k2.block t (mk_lt hA.box) htp (Ne.symm htv)]
          exact hA.box
        · rw [k2.block bx (mk_lt hA3) (by omega) (fun e => by have := hown bx e.symm; omega)]
          exact hA3
        · rcases k3 with g | ⟨b, g, hb⟩
          · rw [g]; exact htv
          · rw [g]
            intro he
            injection he with he
            have := mk_lt hA.box
            omega
        · rcases k3 with g | ⟨b, g, hb⟩
          · exact .inl g
          · exact .inr ⟨b, g, by omega⟩
      refine w_end rfl rfl rfl (fun vs wq hI hF => ?_)
      simp only [List.reverse_cons, List.reverse_nil, List.nil_append, List.cons_append, finL_val, finL_of, finL_any, finL_app, finL_new, finL_gr, finL_row, finL_box, finL_nil, Act.put, List.setIfInBounds_toArray, List.set_cons_zero, List.set_cons_succ, Nat.reduceAdd]
      obtain ⟨e5, hbox, hbxx, v', hso, htv', hgo⟩ := hF 5 (by decide) rfl
      rw [e5]
      have HI5 := Lib.hid hI
      have HBT := Lib.hid hbox
      have HBX := Lib.hid hbxx
      have HSO := Lib.hid hso
      have HGO := Lib.hid hgo
      clear hI hF e5 hbox hbxx hso hgo HX3 HW3 HT4 hw3
      obtain ⟨w4, rfl⟩ : ∃ w4 : World, w4 = wq := ⟨_, rfl⟩
      have hck := check_zero.1 hc2.out
      have hks := hck.2.1
      have hvs := hck.2.2.2.2
      have hsz : szE xs ≤ 1000 * 70000 := Nat.le_trans (szE_le HG.out.chk) (Nat.mul_le_mul_right _ hn)
      have hsy : szE ys = szE xs + (x.key.size + x.val.size + 16) := by rw [← HY.out, szE_ins]
      obtain ⟨sx, hsx⟩ : ∃ sx, szE xs = sx := ⟨_, rfl⟩
      obtain ⟨sy, hsy2⟩ : ∃ sy, szE ys = sy := ⟨_, rfl⟩
      rw [hsx] at hsz hsy HBT
      rw [hsy2] at hsy
      have HSY := Lib.hid hsy2
      obtain ⟨kn, hkn⟩ : ∃ k, x.key.size = k := ⟨_, rfl⟩
      obtain ⟨vn, hvn⟩ : ∃ k, x.val.size = k := ⟨_, rfl⟩
      rw [hkn] at hks hsy
      rw [hvn] at hvs hsy
      have HKN := Lib.hid hkn
      have HVN := Lib.hid hvn
      clear hck hsx hsy2 hkn hvn
      go_upto_region 10 with fail
      refine draws_ (fun W => Gr3 w W t p v.ownBlock) (fun W => W.heap[t]? = some (.cells [Value.pointer (some ⟨p, 0, none⟩), .int .i64 (sx : Nat)].toArray 97 (0, 0)) ∧ W.heap[bx]? = some (.cells x.cells.toArray 61) ∧ SOE W B p v' ys) (by kernel_rfl) reg_38_10 rfl (fun _ _ h k => gr3_then h k) (fun _ _ h k => ⟨box_stays h.1 k, box_stays h.2.1 k, soe_below h.2.2 k⟩) (gr3_then HI5.out (below_drew (Below.refl _ _))) ⟨HBT.out, HBX.out, soe_below HSO.out (below_drew (Below.refl _ _))⟩ ?_
      refine w_move (.inl rfl) (fun vs w hK => ⟨wants_none rfl, rho_out rfl rfl⟩) ?_
      refine w_val [(42, _)] _ (fun vs w hK => ⟨wants_none rfl, rho_in rfl (fv (hK 0 (memE rfl))), trivial⟩) rfl (fun wq hI => by simp only [execOp, Option.map_some, Option.map_none, lk_tmp, lk_const, lkT_cons, ↓reduceIte, Nat.reduceEqDiff]; go_simp; (first | done | rfl)) ?_
      refine w_val [(43, _)] (_) (fun vs w hK => ⟨wants_none rfl, rho_in rfl (fv (hK 1 (memE rfl))), trivial⟩) rfl (fun wq hI => by exact op_field rfl rfl Try.underlying97 rfl rfl rfl info3 (by decide)) ?_
      refine w_anyJ (.val (.int .i64 (sx : Nat))) (by decide) (fun vs wq hI hJ hK => ?_) ?_
      · have hA := (hJ (by decide)).1
        exact ob_run [(44, .pointer (some ⟨t, 1, none⟩))] (wants_none rfl) ⟨rho_in rfl (fv (hK 2 (memE rfl))), trivial⟩ rfl (run_load_cell (ad := ⟨t, 1, none⟩) rfl rfl rfl Try.underlying3 rfl (by simp [World.cell?, hA])) ⟨Below.refl _ _, rfl⟩
      refine w_val [(3, _)] (_) (fun vs w hK => ⟨wants_none rfl, rho_out rfl rfl, trivial⟩) rfl (fun wq hI => by exact op_field rfl rfl Try.underlying61 rfl rfl rfl info9 (by decide)) ?_
      refine w_anyJ (.val (.string x.key)) (by decide) (fun vs wq hI hJ hK => ?_) ?_
      · have hA := (hJ (by decide)).2.1
        exact ob_run [(46, .pointer (some ⟨bx, 0, none⟩))] (wants_none rfl) ⟨rho_in rfl (fv (hK 4 (memE rfl))), trivial⟩ rfl (run_load_cell (ad := ⟨bx, 0, none⟩) rfl rfl rfl Try.underlying9 rfl (by simp [World.cell?, hA, Ent.cells])) ⟨Below.refl _ _, rfl⟩
      refine w_val [(47, _)] (_) (fun vs w hK => ⟨wants_none rfl, rho_in rfl (fv (hK 5 (memE rfl))), trivial⟩) rfl (fun wq hI => by exact run_len_str (n := (kn : Nat)) rfl Try.underlying9 rfl (by rw [HKN.out])) ?_
      refine w_val [(3, _)] (_) (fun vs w hK => ⟨wants_none rfl, rho_out rfl rfl, trivial⟩) rfl (fun wq hI => by exact op_field rfl rfl Try.underlying61 rfl rfl rfl info9 (by decide)) ?_
      refine w_anyJ (.val (.string x.val)) (by decide) (fun vs wq hI hJ hK => ?_) ?_
      · have hA := (hJ (by decide)).2.1
        exact ob_run [(49, .pointer (some ⟨bx, 3, none⟩))] (wants_none rfl) ⟨rho_in rfl (fv (hK 7 (memE rfl))), trivial⟩ rfl (run_load_cell (ad := ⟨bx, 3, none⟩) rfl rfl rfl Try.underlying9 rfl (by simp [World.cell?, hA, Ent.cells])) ⟨Below.refl _ _, rfl⟩
      refine w_val [(50, _)] (_) (fun vs w hK => ⟨wants_none rfl, rho_in rfl (fv (hK 8 (memE rfl))), trivial⟩) rfl (fun wq hI => by exact run_len_str (n := (vn : Nat)) rfl Try.underlying9 rfl (by rw [HVN.out])) ?_
      refine w_val [(48, _), (51, _)] (_) (fun vs w hK => ⟨wants_none rfl, rho_in rfl (fv (hK 6 (memE rfl))), rho_in rfl (fv (hK 9 (memE rfl))), trivial⟩) rfl (fun wq hI => by exact run_int_add (c := ((kn + vn : Nat) : Int)) rfl rfl rfl (by rw [i64_id (by omega) (by omega)]; omega)) ?_
      refine w_val [(52, _)] (_) (fun vs w hK => ⟨wants_none rfl, rho_in rfl (fv (hK 10 (memE rfl))), trivial⟩) rfl (fun wq hI => by exact run_int_add (c := ((kn + vn + 16 : Nat) : Int)) rfl rfl rfl (by rw [i64_id (by omega) (by omega)]; omega)) ?_
      refine w_val [(45, _), (53, _)] (_) (fun vs w hK => ⟨wants_none rfl, rho_in rfl (fv (hK 3 (memE rfl))), rho_in rfl (fv (hK 11 (memE rfl))), trivial⟩) rfl (fun wq hI => by exact run_int_add (c := ((sy : Nat) : Int)) rfl rfl rfl (by rw [i64_id (by omega) (by omega)]; omega)) ?_
      refine w_val [(42, _)] _ (fun vs w hK => ⟨wants_none rfl, rho_in rfl (fv (hK 0 (memE rfl))), trivial⟩) rfl (fun wq hI => by simp only [execOp, Option.map_some, Option.map_none, lk_tmp, lk_const, lkT_cons, ↓reduceIte, Nat.reduceEqDiff]; go_simp; (first | done | rfl)) ?_
      refine w_val [(55, _)] (_) (fun vs w hK => ⟨wants_none rfl, rho_in rfl (fv (hK 13 (memE rfl))), trivial⟩) rfl (fun wq hI => by exact op_field rfl rfl Try.underlying97 rfl rfl rfl info3 (by decide)) ?_
      refine w_lin (FW.of (fun _ W => TB W B t p v' ys) (fun _ _ _ h hb => tb_below h hb)) (by decide) (fun vs wq hI hJ hK => ?_) ?_
      · obtain ⟨hA, hA2, hA3⟩ := hJ (by decide) (by decide)
        exact ob_store_blk [(56, .pointer (some ⟨t, 1, none⟩)), (54, .int .i64 (sy : Nat))] (wants_none rfl) ⟨rho_in rfl (fv (hK 14 (memE rfl))), rho_in rfl (fv (hK 12 (memE rfl))), trivial⟩ rfl rfl rfl rfl rfl hA (by show 1 < 2; omega) info3 (fun w' hs => ⟨gr3_set hI hs, ⟨by rw [HSY.out]; exact hs.at_, ⟨hs.keep hA3.box (Ne.symm htp), ownk_move hA3.own (fun j hj => hs.other j (fun e => htv' (by rw [hj, e]))), hA3.ne, hA3.base⟩, htp, htv', hbase⟩⟩)
      refine w_end rfl rfl rfl (fun vs wq hI hF => ?_)
      simp only [List.reverse_cons, List.reverse_nil, List.nil_append, List.cons_append, finL_val, finL_of, finL_any, finL_app, finL_new, finL_gr, finL_row, finL_box, finL_nil, Act.put, List.setIfInBounds_toArray, List.set_cons_zero, List.set_cons_succ, Nat.reduceAdd]
      have HI6 := Lib.hid hI
      have HF6 : Hid (TB wq B t p v' ys) := Lib.hid (hF 15 (by decide) rfl)
      clear hI hF
      go_wp2_with fail
      go_ret
      exact ⟨rfl, v', HF6.out, HI6.out, HGO.out⟩
  · have t1 : ((x.check : Int) != 0) = true := by simp only [bne_iff_ne]; omega
    have e := HR.out
    rw [if_pos hc] at e
    have e2 := HYS.out
    rw [if_neg (by omega)] at e2
    subst e e2
    clear HR HYS
    go_wp2_with fail
    go_ret
    exact ⟨rfl, v, HT2.out, gr3_below HA1.out, .inl rfl⟩
end Go.Proofs.Ytnkeijdpjcclcaa.Mem
-- EntG
/- mem.Table: Get, From, All, Size, Len, At; those of no table. -/
namespace Go.Proofs.Ytnkeijdpjcclcaa.Mem
set_option linter.unusedVariables false
set_option linter.unusedSimpArgs false
open Go.Proofs.Ytnkeijdpjcclcaa.Kit Go.Proofs.Ytnkeijdpjcclcaa.Num Go.RowKit Go.Proofs.YtnkeijdpjcclcaaW.PrintWords Go.Proofs.YtnkeijdpjcclcaaW.PrintLast Go.Proofs.YtnkeijdpjcclcaaW.PrintMore NumPure Key
theorem op_str_neq {P : Program} {o : Oper} {l : List (Nat × Value)} {x y : Operand} {t : TypeId} {m : Nat} {a b : ByteArray} {w : World} (ho : o.op = .binOp .neq t x y m) (hx : lk l x = .string a) (hy : lk l y = .string b) : (execOp (lk l) o).run P w = .ok (.value (.bool (!decide (a = b)))) w := by
  have e : (a.toList == b.toList) = decide (a = b) := Key.toList_beq a b
  unfold execOp
  simp [ho, hx, hy, eqGuard, binOp, Op.stringOp, e]
theorem op_str_eql {P : Program} {o : Oper} {l : List (Nat × Value)} {x y : Operand} {t : TypeId} {m : Nat} {a b : ByteArray} {w : World} (ho : o.op = .binOp .eql t x y m) (hx : lk l x = .string a) (hy : lk l y = .string b) : (execOp (lk l) o).run P w = .ok (.value (.bool (decide (a = b)))) w := by
  have e : (a.toList == b.toList) = decide (a = b) := Key.toList_beq a b
  unfold execOp
  simp [ho, hx, hy, eqGuard, binOp, Op.stringOp, e]
set_option maxRecDepth 20000 in
set_option maxHeartbeats 1600000 in
theorem cloneE_any (A : Option Addr) (n c : Nat) (xs : List Ent) (w : World) (hr : Sts encE kE w A n xs) (hn : n ≤ 1000000) :
    Calls Try.prog 65 #[.slice A n c] w fun e w' => ∃ v, e = .returned v ∧ OwnK encE kE 61 w' w.heap.size v xs ∧ Below w.heap.size w w' := by
  have q := fun (w : World) (a : Option Addr) (n c n' c' : Nat) => Lib.run_eql_slice_nil (P := Try.prog) w _ _ a n c n' c' Try.underlying59
  have hxl := hr.len
  cases A with
  | none =>
    have h0 : n = 0 := by
      rcases Nat.eq_zero_or_pos n with h0 | h0
      · exact h0
      · obtain ⟨ad, h, _⟩ := hr.row h0
        cases h
    have hx : xs = [] := List.eq_nil_of_length_eq_zero (by omega)
    subst hx
    clear hr hxl
    go_enter Try.func65, Try.ntmps65
    go_wp2_with fail
    go_ret
    exact ⟨_, rfl, ownk_nil _ _ _ _ _, Below.refl _ _⟩
  | some ad =>
    have hO : OwnK encE kE 61 (w.alloc (.cells #[] 61)) w.heap.size (.slice (some ⟨w.heap.size, 0, none⟩) 0 0) [] :=
      own_cells (enc := encE) (k := kE) (e := 61) (cap := 0) (B := w.heap.size) (ys := []) (R := []) encE_len (heap_alloc_new w _) (by simp) (Nat.le_refl _) (by decide) (Nat.le_refl _)
    have HO := Lib.hid hO
    have HB : Hid (Below w.heap.size w (w.alloc (.cells #[] 61))) := Lib.hid (below_alloc (Below.refl w.heap.size w) (.cells #[] 61))
    have HR := Lib.hid (sts_below hr HB.out)
    clear hO hr
    go_enter Try.func65, Try.ntmps65
    go_wp2_with (at_builtin; refine gapp_sts (w0 := w) encE_len encE_one etE rfl (.tmp 5) (.tmp 6) rfl rfl rfl HO.out HR.out HB.out HB.out.size ?cL ?cM ?_; (case cL => simp; omega); (case cM => simp; omega); intro v4 w4 ho hb3 hs1 hf; have HO4 := Lib.hid ho; have HB4 := Lib.hid hb3; clear ho hb3 hs1 hf)
    go_ret
    exact ⟨_, rfl, HO4.out, HB4.out⟩
theorem sizeT_any (w : World) {B t p : Nat} {v : Value} {xs : List Ent} (h : TB w B t p v xs) : Calls Try.prog 42 #[.pointer (some ⟨t, 0, none⟩)] w fun e w' => e = .returned (.int .i64 (szE xs : Nat)) ∧ Below w.heap.size w w' := by
  have hc : w.cell? ⟨t, 1, none⟩ = some (.int .i64 (szE xs : Nat)) := by
    have := h.box
    simp [World.cell?, this]
  clear h
  go_enter Try.func42, Try.ntmps42
  go_wp2_with fail
  go_ret
  exact ⟨rfl, Below.refl _ _⟩
theorem lenT_any (w : World) {B t p : Nat} {v : Value} {xs : List Ent} (h : TB w B t p v xs) : Calls Try.prog 43 #[.pointer (some ⟨t, 0, none⟩)] w fun e w' => e = .returned (.int .i64 (xs.length : Nat)) ∧ Below w.heap.size w w' := by
  have hc : w.cell? ⟨t, 0, none⟩ = some (.pointer (some ⟨p, 0, none⟩)) := by
    have := h.box
    simp [World.cell?, this]
  have C := Lib.hid (lenE_any w h.so)
  clear h
  go_enter Try.func43, Try.ntmps43
  go_wp2_with fail
  refine C.out.mono ?_
  rintro e w1 ⟨rfl, hb⟩
  have HB := Lib.hid hb
  clear hb C hc
  go_wp2_with fail
  go_ret
  exact ⟨rfl, HB.out⟩
theorem allT_any (w : World) {B t p : Nat} {v : Value} {xs : List Ent} (h : TB w B t p v xs) (hn : xs.length ≤ 1000000) : Calls Try.prog 40 #[.pointer (some ⟨t, 0, none⟩)] w fun e w' => ∃ v, e = .returned v ∧ OwnK encE kE 61 w' w.heap.size v xs ∧ Below w.heap.size w w' := by
  obtain ⟨A, n, c, rfl, hnc, HL, hm, hs⟩ := ownk_open encE_len h.so.own
  have hc : w.cell? ⟨t, 0, none⟩ = some (.pointer (some ⟨p, 0, none⟩)) := by
    have := h.box
    simp [World.cell?, this]
  have hc2 : w.cell? ⟨p, 1, none⟩ = some (.slice A n c) := by
    have := h.so.box
    simp [World.cell?, this]
  have C := Lib.hid (cloneE_any A n c xs w hs (by rw [← HL.out]; exact hn))
  clear h hs
  go_enter Try.func40, Try.ntmps40
  go_wp2_with fail
  refine C.out.mono ?_
  rintro e w1 ⟨v, rfl, ho, hb⟩
  have HB := Lib.hid hb
  have HO := Lib.hid ho
  clear hb ho C hc hc2
  go_wp2_with fail
  go_ret
  exact ⟨v, rfl, HO.out, HB.out⟩
theorem atT_any (w : World) {B t p : Nat} {v : Value} {xs : List Ent} (j : Int) (h : TB w B t p v xs) : Calls Try.prog 44 #[.pointer (some ⟨t, 0, none⟩), .int .i64 j] w fun e w' => e = .returned (.tuple #[(atE xs j).1.ag, .bool (atE xs j).2]) ∧ Below w.heap.size w w' := by
  obtain ⟨⟨y, b⟩, hP⟩ : ∃ P, atE xs j = P := ⟨_, rfl⟩
  rw [hP]
  have HT0 := Lib.hid h
  clear h
  go_enter Try.func44, Try.ntmps44
  go_upto_region 1 with fail
  have HB1 := Lib.hid (below_alloc (Below.refl w.heap.size w) (.cells e0.cells.toArray 61))
  have HX1 := Lib.hid (heap_alloc_new w (.cells e0.cells.toArray 61))
  have HT1 := Lib.hid (tb_below HT0.out HB1.out)
  change Code.wp _ _ _ _ (w.alloc (.cells e0.cells.toArray 61))
  generalize w.alloc (.cells e0.cells.toArray 61) = w0 at HB1 HX1 HT1 ⊢
  obtain ⟨g, hg⟩ : ∃ g, w.heap.size = g := ⟨_, rfl⟩
  have hgl : w.heap.size ≤ g := by omega
  rw [hg] at HX1 ⊢
  have hc : w0.cell? ⟨t, 0, none⟩ = some (.pointer (some ⟨p, 0, none⟩)) := by
    have := HT1.out.box
    simp [World.cell?, this]
  have C := Lib.hid (atE_any w0 j HT1.out.so)
  rw [hP] at C
  clear hg HT0 HT1 hP
  go_wp2_with fail
  refine C.out.mono ?_
  rintro e w1 ⟨rfl, hb⟩
  have HW := Lib.hid (below_then HB1.out HB1.out.size hb)
  have HX2 := Lib.hid (box_stays HX1.out hb)
  clear hb C hc HB1 HX1
  go_wp2_with (first
    | (refine wpList_store_box rfl 61 (.tmp 4) (.tmp 15) rfl g y.cells rfl rfl HX2.out rfl info61 rfl ?_; intro w7 hs7; have HS7 := Lib.hid hs7; clear hs7)
    | fail)
  (try simp only [Exit.inBlock, Exit.then])
  refine bodyPost_ret (results_box_tmp rfl rfl (loadVar_box HS7.out.at_ Try.underlying61 rfl info61)) rfl ?_
  exact ⟨rfl, HS7.out.then_ HW.out hgl⟩
theorem reg_39_3 : RegOk (opsOf Try.f39 3) [[], [0], [0, 1], [0, 1, 2], [], [0, 1, 2, 3, 4], [0, 1, 2, 3, 4, 5]] [] [some 7, some 8, some 9, some 10, some 11, some 12, some 4] := regOk (by kernel_rfl)
theorem fromT_any (w : World) {B t p : Nat} {v : Value} {xs : List Ent} (x : Ent) (h : TB w B t p v xs) (hn : xs.length ≤ 1000) (hg : GoodT xs) (hx : x.ok) : Calls Try.prog 39 #[.pointer (some ⟨t, 0, none⟩), x.ag] w fun e w' => e = .returned (.int .i64 (pos Ent.cmp xs x : Nat)) ∧ Below w.heap.size w w' := by
  have HT0 := Lib.hid h
  have HX0 := Lib.hid (heap_alloc_new w (.cells x.cells.toArray 61))
  have HA0 := Lib.hid (below_alloc (Below.refl w.heap.size w) (.cells x.cells.toArray 61))
  have HT1 := Lib.hid (tb_below h HA0.out)
  have HG := Lib.hid hg
  have HXO := Lib.hid hx
  clear h hg hx HT0
  obtain ⟨po, hpo⟩ : ∃ po, pos Ent.cmp xs x = po := ⟨_, rfl⟩
  rw [hpo]
  show Calls Try.prog 39 #[.pointer (some ⟨t, 0, none⟩), .agg x.cells.toArray] w _
  go_enter Try.func39, Try.ntmps39
  go_upto_region 1 with fail
  generalize w.alloc (.cells x.cells.toArray 61) = w0 at HX0 HA0 HT1 ⊢
  generalize w.heap.size = bx at HX0 ⊢
  have CS := Lib.hid (fun W (hW : Below w0.heap.size w0 W) => seekE_any W x (soe_below HT1.out.so hW) (by omega) HG.out.ok HXO.out (good_mono HG.out x))
  rw [hpo] at CS
  clear hpo
  go_upto_region 3 with fail
  refine draws_ (fun wq => Below w0.heap.size w0 wq) (fun _ => True) (by kernel_rfl) reg_39_3 rfl inv0 (fun _ _ _ _ => trivial) (below_drew (Below.refl _ _)) trivial ?_
  refine w_move (.inl rfl) (fun vs w hK => ⟨wants_none rfl, rho_out rfl rfl⟩) ?_
  refine w_val [(7, _)] _ (fun vs w hK => ⟨wants_none rfl, rho_in rfl (fv (hK 0 (memE rfl))), trivial⟩) rfl (fun wq hI => by simp only [execOp, Option.map_some, Option.map_none, lk_tmp, lk_const, lkT_cons, ↓reduceIte, Nat.reduceEqDiff]; go_simp; (first | done | rfl)) ?_
  refine w_val [(8, _)] (_) (fun vs w hK => ⟨wants_none rfl, rho_in rfl (fv (hK 1 (memE rfl))), trivial⟩) rfl (fun wq hI => by exact op_field rfl rfl Try.underlying97 rfl rfl rfl info93 (by decide)) ?_
  refine w_val [(9, _)] (.pointer (some ⟨p, 0, none⟩)) (fun vs w hK => ⟨wants_none rfl, rho_in rfl (fv (hK 2 (memE rfl))), trivial⟩) rfl (fun wq hI => by exact run_load_cell (ad := ⟨t, 0, none⟩) rfl rfl rfl Try.underlying93 rfl (by have := box_stays HT1.out.box hI; simp [World.cell?, this])) ?_
  refine w_val [(3, _)] (x.ag) (fun vs w hK => ⟨wants_none rfl, rho_out rfl rfl, trivial⟩) rfl (fun wq hI => by exact run_load_op rfl rfl (load_ent (box_stays HX0.out hI))) ?_
  refine w_call [(10, _), (11, _)] _ _ (by decide) (fun vs w hK => ⟨wants_none rfl, rho_in rfl (fv (hK 3 (memE rfl))), rho_in rfl (fv (hK 4 (memE rfl))), trivial⟩) rfl rfl Try.func63 (by kernel_rfl) rfl (fun wq hI => CS.out wq hI) (margs rfl) ?_
  refine w_move (.inr rfl) (fun vs w hK => ⟨wants_none rfl, rho_in rfl (fv (hK 5 (memE rfl)))⟩) ?_
  refine w_end rfl rfl rfl (fun vs wq hI hF => ?_)
  simp only [List.reverse_cons, List.reverse_nil, List.nil_append, List.cons_append, finL_val, finL_of, finL_any, finL_app, finL_new, finL_gr, finL_row, finL_box, finL_nil, Act.put, List.setIfInBounds_toArray, List.set_cons_zero, List.set_cons_succ, Nat.reduceAdd]
  have HW := Lib.hid (below_then HA0.out HA0.out.size hI)
  clear hI hF
  go_wp2_with fail
  go_ret
  exact ⟨rfl, HW.out⟩
/-- What is looked for: a key up to a number. -/
def eK (name : ByteArray) (seq : Nat) : Ent := ⟨name, seq, false, ⟨#[]⟩⟩
def getL (xs : List Ent) (name : ByteArray) (seq : Nat) : Ent × Bool :=
  let a := atE xs (pos Ent.cmp xs (eK name seq) : Nat)
  if !a.2 || !decide (a.1.key = name) then (e0, false) else (a.1, true)
theorem built_e (name : ByteArray) (seq : Nat) : Try.prog.built 61 [(0, .string name), (1, .int .u64 (seq : Nat))] = some (eK name seq).cells.toArray := by kernel_rfl
theorem reg_41_3 : RegOk (opsOf Try.f41 3) [[], [0], [0, 1], [0, 1, 2], [], [4], [4, 5], [4, 5, 6], [], [], [8, 9], [4, 5, 6, 7, 8, 9, 10], [0, 1, 2, 3, 4, 5, 6, 7, 8, 9, 10, 11], [0, 1, 2, 3, 4, 5, 6, 7, 8, 9, 10, 11, 12], [0, 1, 2, 3, 4, 5, 6, 7, 8, 9, 10, 11, 12, 13], [0, 1, 2, 3, 4, 5, 6, 7, 8, 9, 10, 11, 12, 13], [], [0, 1, 2, 3, 4, 5, 6, 7, 8, 9, 10, 11, 12, 13, 14, 16], [0, 1, 2, 3, 4, 5, 6, 7, 8, 9, 10, 11, 12, 13, 14, 15, 16, 17]] [17] [some 14, some 15, some 16, some 17, some 18, some 19, some 20, some 21, some 22, some 23, some 24, some 25, some 26, some 13, some 27, some 28, some 8, none, some 9] := regOk (by kernel_rfl)
theorem reg_41_4 : RegOk (opsOf Try.f41 4) [[], [0], [0, 1], [0, 1, 2], [0, 1, 2, 3], [0, 1, 2], [0, 1, 2, 3, 4, 5], [0, 1, 2, 3, 4, 5, 6]] [] [some 29, some 30, some 31, some 32, some 33, some 34, some 35, some 36] := regOk (by kernel_rfl)
set_option maxRecDepth 20000 in
set_option maxHeartbeats 3200000 in
theorem getT_any (w : World) {B t p : Nat} {v : Value} {xs : List Ent} (name : ByteArray) (seq : Nat) (h : TB w B t p v xs) (hn : xs.length ≤ 1000) (hg : GoodT xs) (hx : (eK name seq).ok) :
    Calls Try.prog 41 #[.pointer (some ⟨t, 0, none⟩), .string name, .int .u64 (seq : Nat)] w fun e w' => e = .returned (.tuple #[(getL xs name seq).1.ag, .bool (getL xs name seq).2]) ∧ Below w.heap.size w w' := by
  obtain ⟨R, hR⟩ : ∃ R, getL xs name seq = R := ⟨_, rfl⟩
  rw [hR]
  unfold getL at hR
  have HT0 := Lib.hid h
  have HG := Lib.hid hg
  have HXO := Lib.hid hx
  clear h hg hx
  obtain ⟨⟨y, b⟩, hP⟩ : ∃ P, atE xs (pos Ent.cmp xs (eK name seq) : Nat) = P := ⟨_, rfl⟩
  rw [hP] at hR
  simp only at hR
  have HR := Lib.hid hR
  have HP := Lib.hid hP
  clear hR hP
  go_enter Try.func41, Try.ntmps41
  go_upto_region 1 with fail
  have HB1 := Lib.hid (below_alloc (Below.refl w.heap.size w) (.cells e0.cells.toArray 61))
  have HX1 := Lib.hid (heap_alloc_new w (.cells e0.cells.toArray 61))
  have HT1 := Lib.hid (tb_below HT0.out HB1.out)
  change Code.wp _ _ _ _ (w.alloc (.cells e0.cells.toArray 61))
  generalize w.alloc (.cells e0.cells.toArray 61) = w0 at HB1 HX1 HT1 ⊢
  obtain ⟨g, hg⟩ : ∃ g, w.heap.size = g := ⟨_, rfl⟩
  have hgl : w.heap.size ≤ g := by omega
  rw [hg] at HX1 ⊢
  clear hg HT0
  have CS := Lib.hid (fun W (hW : Below w0.heap.size w0 W) => seekE_any W (eK name seq) (soe_below HT1.out.so hW) (by omega) HG.out.ok HXO.out (good_mono HG.out _))
  have CA := Lib.hid (fun W (hW : Below w0.heap.size w0 W) => atE_any W (pos Ent.cmp xs (eK name seq) : Nat) (soe_below HT1.out.so hW))
  rw [HP.out] at CA
  have HBE := Lib.hid (built_e name seq)
  generalize eK name seq = x at *
  generalize pos Ent.cmp xs x = po at CS CA
  clear HP HG HXO
  go_upto_region 3 with fail
  refine drawsD_ (fun wq => Below w0.heap.size w0 wq) (fun _ => True) (dF 16 17 w0.heap.size [.pointer (some ⟨t, 0, none⟩), .pointer (some ⟨t, 0, none⟩), .pointer (some ⟨t, 0, none⟩), .pointer (some ⟨p, 0, none⟩), .pointer (some ⟨t, 0, none⟩), .pointer (some ⟨t, 0, none⟩), .pointer (some ⟨t, 0, none⟩), .pointer (some ⟨p, 0, none⟩), .string name, .int .u64 (seq : Nat), x.ag, .int .i64 (po : Nat), .tuple #[y.ag, .bool b], .tuple #[y.ag, .bool b], y.ag, .bool b, undef, undef, .bool b] 61 4 (y.cells)) (fun i => decide (i ≠ 16)) (by kernel_rfl) reg_41_3 rfl (fun _ _ _ _ => trivial) (below_drew (Below.refl _ _)) trivial (dF_cong (by decide) (List.mem_of_elem_eq_true rfl)) dF_stay dF_fix ?_ ?_
  · intro i o hio vs wq hI _ _ hK
    have hil : i < 19 := (Array.getElem?_eq_some_iff.1 hio).1
    rcases (by omega : i = 0 ∨ i = 1 ∨ i = 2 ∨ i = 3 ∨ i = 4 ∨ i = 5 ∨ i = 6 ∨ i = 7 ∨ i = 8 ∨ i = 9 ∨ i = 10 ∨ i = 11 ∨ i = 12 ∨ i = 13 ∨ i = 14 ∨ i = 15 ∨ i = 16 ∨ i = 17 ∨ i = 18) with rfl | rfl | rfl | rfl | rfl | rfl | rfl | rfl | rfl | rfl | rfl | rfl | rfl | rfl | rfl | rfl | rfl | rfl | rfl <;> obtain rfl := Option.some.inj hio
    · exact ob_copy (.inl rfl) (wants_none rfl) (rho_out rfl rfl) (dF_r hI (Below.refl _ _) (by decide) (by decide) rfl)
    · exact ob_run [(14, _)] (wants_none rfl) ⟨rho_in rfl (dF_k (hK 0 (List.mem_of_elem_eq_true rfl)) (by decide) (by decide) rfl), trivial⟩ rfl (by simp only [execOp, Option.map_some, Option.map_none, lk_tmp, lk_const, lkT_cons, ↓reduceIte, Nat.reduceEqDiff]; go_simp; (first | done | rfl)) (dF_r hI (Below.refl _ _) (by decide) (by decide) rfl)
    · exact ob_run [(15, _)] (wants_none rfl) ⟨rho_in rfl (dF_k (hK 1 (List.mem_of_elem_eq_true rfl)) (by decide) (by decide) rfl), trivial⟩ rfl (op_field rfl rfl Try.underlying97 rfl rfl rfl info93 (by decide)) (dF_r hI (Below.refl _ _) (by decide) (by decide) rfl)
    · exact ob_run [(16, _)] (wants_none rfl) ⟨rho_in rfl (dF_k (hK 2 (List.mem_of_elem_eq_true rfl)) (by decide) (by decide) rfl), trivial⟩ rfl (run_load_cell (ad := ⟨t, 0, none⟩) rfl rfl rfl Try.underlying93 rfl (by have := box_stays HT1.out.box hI; simp [World.cell?, this])) (dF_r hI (Below.refl _ _) (by decide) (by decide) rfl)
    · exact ob_copy (.inl rfl) (wants_none rfl) (rho_out rfl rfl) (dF_r hI (Below.refl _ _) (by decide) (by decide) rfl)
    · exact ob_run [(18, _)] (wants_none rfl) ⟨rho_in rfl (dF_k (hK 4 (List.mem_of_elem_eq_true rfl)) (by decide) (by decide) rfl), trivial⟩ rfl (by simp only [execOp, Option.map_some, Option.map_none, lk_tmp, lk_const, lkT_cons, ↓reduceIte, Nat.reduceEqDiff]; go_simp; (first | done | rfl)) (dF_r hI (Below.refl _ _) (by decide) (by decide) rfl)
    · exact ob_run [(19, _)] (wants_none rfl) ⟨rho_in rfl (dF_k (hK 5 (List.mem_of_elem_eq_true rfl)) (by decide) (by decide) rfl), trivial⟩ rfl (op_field rfl rfl Try.underlying97 rfl rfl rfl info93 (by decide)) (dF_r hI (Below.refl _ _) (by decide) (by decide) rfl)
    · exact ob_run [(20, _)] (wants_none rfl) ⟨rho_in rfl (dF_k (hK 6 (List.mem_of_elem_eq_true rfl)) (by decide) (by decide) rfl), trivial⟩ rfl (run_load_cell (ad := ⟨t, 0, none⟩) rfl rfl rfl Try.underlying93 rfl (by have := box_stays HT1.out.box hI; simp [World.cell?, this])) (dF_r hI (Below.refl _ _) (by decide) (by decide) rfl)
    · exact ob_copy (.inl rfl) (wants_none rfl) (rho_out rfl rfl) (dF_r hI (Below.refl _ _) (by decide) (by decide) rfl)
    · exact ob_copy (.inl rfl) (wants_none rfl) (rho_out rfl rfl) (dF_r hI (Below.refl _ _) (by decide) (by decide) rfl)
    · exact ob_run [(22, _), (23, _)] (wants_none rfl) ⟨rho_in rfl (dF_k (hK 8 (List.mem_of_elem_eq_true rfl)) (by decide) (by decide) rfl), rho_in rfl (dF_k (hK 9 (List.mem_of_elem_eq_true rfl)) (by decide) (by decide) rfl), trivial⟩ rfl (op_build rfl HBE.out) (dF_r hI (Below.refl _ _) (by decide) (by decide) rfl)
    · exact ob_call [(21, _), (24, _)] _ (wants_none rfl) ⟨rho_in rfl (dF_k (hK 7 (List.mem_of_elem_eq_true rfl)) (by decide) (by decide) rfl), rho_in rfl (dF_k (hK 10 (List.mem_of_elem_eq_true rfl)) (by decide) (by decide) rfl), trivial⟩ rfl rfl Try.func63 (by kernel_rfl) rfl (margs rfl) ((CS.out wq hI).mono fun e w2 h => ⟨_, h.1, dF_r hI h.2 (by decide) (by decide) rfl⟩)
    · exact ob_call [(17, _), (25, _)] _ (wants_none rfl) ⟨rho_in rfl (dF_k (hK 3 (List.mem_of_elem_eq_true rfl)) (by decide) (by decide) rfl), rho_in rfl (dF_k (hK 11 (List.mem_of_elem_eq_true rfl)) (by decide) (by decide) rfl), trivial⟩ rfl rfl Try.func62 (by kernel_rfl) rfl (margs rfl) ((CA.out wq hI).mono fun e w2 h => ⟨_, h.1, dF_r hI h.2 (by decide) (by decide) rfl⟩)
    · exact ob_copy (.inl rfl) (wants_none rfl) (rho_in rfl (dF_k (hK 12 (List.mem_of_elem_eq_true rfl)) (by decide) (by decide) rfl)) (dF_r hI (Below.refl _ _) (by decide) (by decide) rfl)
    · exact ob_run [(13, _)] (wants_none rfl) ⟨rho_in rfl (dF_k (hK 13 (List.mem_of_elem_eq_true rfl)) (by decide) (by decide) rfl), trivial⟩ rfl (op_extract rfl rfl rfl) (dF_r hI (Below.refl _ _) (by decide) (by decide) rfl)
    · exact ob_run [(13, _)] (wants_none rfl) ⟨rho_in rfl (dF_k (hK 13 (List.mem_of_elem_eq_true rfl)) (by decide) (by decide) rfl), trivial⟩ rfl (op_extract rfl rfl rfl) (dF_r hI (Below.refl _ _) (by decide) (by decide) rfl)
    · exact ob_run [] (wants_none rfl) trivial rfl (op_alloc61 rfl) ⟨below_then hI hI.size (below_alloc (Below.refl _ _) _), fun _ => below_alloc (Below.refl _ _) _, fun e => absurd rfl e, fun _ => ⟨wq.heap.size, upd_same _ _ _, hI.size, _, rfl, heap_alloc_new wq _⟩, fun e => by cases e⟩
    · obtain ⟨g, e1, e2, old, e3, e4⟩ := (hK 16 (List.mem_of_elem_eq_true rfl)).2.1 rfl
      exact ob_store_box [(8, _), (27, _)] (wants_none rfl) ⟨rho_in rfl e1, rho_in rfl (dF_k (hK 14 (List.mem_of_elem_eq_true rfl)) (by decide) (by decide) rfl), trivial⟩ rfl rfl rfl rfl e4 e3 info61 rfl (fun w' hs => ⟨hs.then_ hI e2, fun h => absurd (List.mem_singleton.2 rfl) h, fun _ h => absurd rfl h, fun e => (by cases e), fun _ => ⟨g, (upd_other vs undef (by decide)).trans e1, e2, hs.at_⟩⟩)
    · exact ob_copy (.inr rfl) (wants_none rfl) (rho_in rfl (dF_k (hK 15 (List.mem_of_elem_eq_true rfl)) (by decide) (by decide) rfl)) (dF_r hI (Below.refl _ _) (by decide) (by decide) rfl)
  intro vs wq hI hF
  obtain ⟨gD, eD, eB, eX⟩ := (hF 17 (by decide) rfl).2.2 rfl
  have eD0 := dF_k (hF 0 (by decide) rfl) (by decide) (by decide) rfl
  have eD1 := dF_k (hF 1 (by decide) rfl) (by decide) (by decide) rfl
  have eD2 := dF_k (hF 2 (by decide) rfl) (by decide) (by decide) rfl
  have eD3 := dF_k (hF 3 (by decide) rfl) (by decide) (by decide) rfl
  have eD4 := dF_k (hF 4 (by decide) rfl) (by decide) (by decide) rfl
  have eD5 := dF_k (hF 5 (by decide) rfl) (by decide) (by decide) rfl
  have eD6 := dF_k (hF 6 (by decide) rfl) (by decide) (by decide) rfl
  have eD7 := dF_k (hF 7 (by decide) rfl) (by decide) (by decide) rfl
  have eD8 := dF_k (hF 8 (by decide) rfl) (by decide) (by decide) rfl
  have eD9 := dF_k (hF 9 (by decide) rfl) (by decide) (by decide) rfl
  have eD10 := dF_k (hF 10 (by decide) rfl) (by decide) (by decide) rfl
  have eD11 := dF_k (hF 11 (by decide) rfl) (by decide) (by decide) rfl
  have eD12 := dF_k (hF 12 (by decide) rfl) (by decide) (by decide) rfl
  have eD13 := dF_k (hF 13 (by decide) rfl) (by decide) (by decide) rfl
  have eD14 := dF_k (hF 14 (by decide) rfl) (by decide) (by decide) rfl
  have eD15 := dF_k (hF 15 (by decide) rfl) (by decide) (by decide) rfl
  have eD18 := dF_k (hF 18 (by decide) rfl) (by decide) (by decide) rfl
  simp only [putL, Nat.reduceAdd, eD, eD0, eD1, eD2, eD3, eD4, eD5, eD6, eD7, eD8, eD9, eD10, eD11, eD12, eD13, eD14, eD15, eD18, Act.put, List.setIfInBounds_toArray, List.set_cons_zero, List.set_cons_succ]
  clear hF eD eD0 eD1 eD2 eD3 eD4 eD5 eD6 eD7 eD8 eD9 eD10 eD11 eD12 eD13 eD14 eD15 eD18
  have HX2 := Lib.hid (box_stays HX1.out hI)
  have HO2 := Lib.hid eX
  have HW2 := Lib.hid (below_then HB1.out HB1.out.size hI)
  clear hI eX HX1 HB1 HT1 CS CA HBE
  obtain ⟨w2, rfl⟩ : ∃ w2 : World, w2 = wq := ⟨_, rfl⟩
  obtain ⟨D, hD⟩ : ∃ D, (!b || !decide (y.key = name)) = D := ⟨_, rfl⟩
  have HD := Lib.hid hD
  rw [hD] at HR
  clear hD
  go_upto_region 4 with fail
  refine plain_ (fun wq => Below w2.heap.size w2 wq) (fun _ => True) reg_41_4 rfl inv0 (fun _ _ _ _ => trivial) (Below.refl _ _) trivial ?_
  refine w_move (.inl rfl) (fun vs w hK => ⟨wants_none rfl, rho_out rfl rfl⟩) ?_
  refine w_val [(29, _)] (_) (fun vs w hK => ⟨wants_none rfl, rho_in rfl (fv (hK 0 (memE rfl))), trivial⟩) rfl (fun wq hI => by exact op_not rfl rfl rfl) ?_
  refine w_move (.inl rfl) (fun vs w hK => ⟨wants_none rfl, rho_in rfl (fv (hK 1 (memE rfl)))⟩) ?_
  refine w_valG [(8, _)] (_) (fun vs w hK => wantsF rfl (fv (hK 2 (memE rfl)))) (fun hG vs w hK => ⟨(rho_out rfl rfl), trivial⟩) rfl (fun hG wq hI => by exact op_field rfl rfl Try.underlying61 rfl rfl rfl info9 (by decide)) ?_
  refine w_valG [(32, _)] (.string y.key) (fun vs w hK => wantsF rfl (fv (hK 2 (memE rfl)))) (fun hG vs w hK => ⟨(rho_in rfl (fvg (hK 3 (memE rfl)) hG)), trivial⟩) rfl (fun hG wq hI => by exact run_load_cell (ad := ⟨gD, 0, none⟩) rfl rfl rfl Try.underlying9 rfl (by have := box_stays HO2.out hI; simp [World.cell?, this, Ent.cells])) ?_
  refine w_moveG (.inl rfl) (fun vs w hK => wantsF rfl (fv (hK 2 (memE rfl)))) (fun hG vs w hK => (rho_out rfl rfl)) ?_
  refine w_valG [(33, _), (34, _)] (_) (fun vs w hK => wantsF rfl (fv (hK 2 (memE rfl)))) (fun hG vs w hK => ⟨(rho_in rfl (fvg (hK 4 (memE rfl)) hG)), (rho_in rfl (fvg (hK 5 (memE rfl)) hG)), trivial⟩) rfl (fun hG wq hI => by exact op_str_neq rfl rfl rfl) ?_
  refine w_or rfl (fun vs w hK => wants_none rfl) (fun vs w hK => (rho_in rfl (fv (hK 2 (memE rfl))))) (fun hB vs w hK => (rho_in rfl (fvg (hK 6 (memE rfl)) (gnot hB)))) ?_
  refine w_as (c' := .bool D) (congrArg Value.bool HD.out) ?_
  refine w_endM [false, false, false, false, false, false, false, true] rfl rfl rfl (fun vs wq hI hF => ?_)
  simp only [List.reverse_cons, List.reverse_nil, List.nil_append, List.cons_append, finL_val, finL_of, finL_any, finL_app, finL_new, finL_gr, finL_row, finL_box, finL_nil, Act.put, List.setIfInBounds_toArray, List.set_cons_zero, List.set_cons_succ, Nat.reduceAdd, maskF, finL_imp, Bool.not_false, Bool.not_true, Bool.true_and, Bool.false_and]
  have HX3 := Lib.hid (box_stays HX2.out hI)
  have HO3 := Lib.hid (box_stays HO2.out hI)
  have HW3 := Lib.hid (below_then HW2.out HW2.out.size hI)
  clear hI hF HX2 HO2 HW2 HD
  cases D with
  | true =>
    have e := HR.out
    rw [if_pos rfl] at e
    subst e
    clear HR
    go_wp2_with (first
      | (refine wpList_store_box rfl 61 (.tmp 6) (.tmp 37) rfl g e0.cells rfl rfl HX3.out rfl info61 rfl ?_; intro w7 hs7; have HS7 := Lib.hid hs7; clear hs7)
      | fail)
    (try simp only [Exit.inBlock, Exit.then])
    refine bodyPost_ret (results_box_tmp rfl rfl (loadVar_box HS7.out.at_ Try.underlying61 rfl info61)) rfl ?_
    exact ⟨rfl, HS7.out.then_ HW3.out hgl⟩
  | false =>
    have e := HR.out
    rw [if_neg (by decide)] at e
    subst e
    clear HR
    go_wp2_with (first
      | (refine wpList_load_box rfl 61 (.tmp 8) rfl gD y.cells rfl HO3.out Try.underlying61 rfl info61 ?_)
      | (refine wpList_store_box rfl 61 (.tmp 6) (.tmp 38) rfl g y.cells rfl rfl HX3.out rfl info61 rfl ?_; intro w7 hs7; have HS7 := Lib.hid hs7; clear hs7)
      | fail)
    (try simp only [Exit.inBlock, Exit.then])
    refine bodyPost_ret (results_box_tmp rfl rfl (loadVar_box HS7.out.at_ Try.underlying61 rfl info61)) rfl ?_
    exact ⟨rfl, HS7.out.then_ HW3.out hgl⟩
end Go.Proofs.Ytnkeijdpjcclcaa.Mem
-- EntH
/- Of law 10's tables: the guard on sizes; a table that is none; the document's example. -/
namespace Go.Proofs.Ytnkeijdpjcclcaa.Mem
set_option linter.unusedVariables false
set_option linter.unusedSimpArgs false
open Go.Proofs.Ytnkeijdpjcclcaa.Kit Go.Proofs.Ytnkeijdpjcclcaa.Num Go.RowKit Go.Proofs.YtnkeijdpjcclcaaW.PrintWords Go.Proofs.YtnkeijdpjcclcaaW.PrintLast Go.Proofs.YtnkeijdpjcclcaaW.PrintMore NumPure Key
theorem reg_36_6 : RegOk (opsOf Try.f36 6) [[], [0], [0, 1], [0, 1, 2], [0, 1, 2, 3], [0, 1, 2, 3, 4], [0, 1, 2, 3, 4, 5], [0, 1, 2, 3, 4, 5, 6], [0, 1, 2, 3, 4, 5, 6, 7], [0, 1, 2, 3, 4, 5, 6, 7, 8]] [] [some 14, some 15, some 16, some 17, some 18, some 19, some 20, some 21, some 22, some 23] := regOk (by kernel_rfl)
set_option maxRecDepth 20000 in
set_option maxHeartbeats 1600000 in
theorem big_any (A : Option Addr) (n c : Nat) (ps : List Ent) (w : World) (hr : Sts encE kE w A n ps) :
    Calls Try.prog 36 #[.slice A n c] w fun e w' => ∃ B, e = .returned (.bool B) ∧ Below w.heap.size w w' ∧ (B = false → n ≤ 60 ∧ ∀ p ∈ ps, p.key.size ≤ 200 ∧ p.val.size ≤ 70000) := by
  have HL := Lib.hid hr.len
  have HR := Lib.hid hr
  have hm := hr.max
  clear hr
  by_cases hbig : 60 < n
  · have t0 : decide ((60 : Int) < (n : Int)) = true := decide_eq_true (by omega)
    clear hbig
    go_enter Try.func36, Try.ntmps36
    go_wp2_with fail
    go_ret
    exact ⟨true, rfl, Below.refl _ _, fun h => by cases h⟩
  · have t0 : decide ((60 : Int) < (n : Int)) = false := decide_eq_false (by omega)
    go_enter Try.func36, Try.ntmps36
    go_wp2_with fail
    go_loopw [10] (fun i wr => ∃ k : Nat, k ≤ n ∧ i = .int .i64 k ∧ Hid (∀ p ∈ ps.take k, p.key.size ≤ 200 ∧ p.val.size ≤ 70000) ∧ Hid (Below w.heap.size w wr)) (fun i _ => n - (intOf i).toNat)
    case atStart => exact ⟨0, by omega, rfl, Lib.hid (fun p hp => by simp at hp), Lib.hid (Below.refl _ _)⟩
    case round =>
      obtain ⟨k, hk, rfl, HE, HW⟩ := hrel
      by_cases hlt : k < n
      · have t1 : decide ((k : Int) < (n : Int)) = true := decide_eq_true (by omega)
        obtain ⟨ad, rfl, hc1⟩ := (sts_below HR.out HW.out).row (by omega)
        obtain ⟨x, hp⟩ : ∃ p : Ent, ps[k]? = some p := ⟨_, List.getElem?_eq_getElem (by rw [HL.out]; exact hlt)⟩
        have hcell := hc1 k _ hp
        have HTK : Hid (ps.take (k + 1) = ps.take k ++ [x]) := Lib.hid (by
          rw [List.take_succ_eq_append_getElem (by rw [HL.out]; exact hlt)]
          rw [List.getElem?_eq_getElem (by rw [HL.out]; exact hlt)] at hp
          injection hp with hp
          rw [hp])
        obtain ⟨D, hD⟩ : ∃ D, (decide (((x.key.size : Nat) : Int) > 200) || decide (((x.val.size : Nat) : Int) > 70000)) = D := ⟨_, rfl⟩
        have HD := Lib.hid hD
        clear hc1 hp hD
        go_upto_region 6 with (first
          | (refine wpList_index_st rfl 59 _ _ rfl stEn rfl rfl rfl hlt ?_)
          | (refine wpList_load_at rfl 61 _ rfl _ x.cells rfl hcell Try.underlying61 rfl info61 ?_)
          | (refine wpList_store_box rfl 61 (.tmp 4) (.tmp 13) rfl wr.heap.size x.cells rfl rfl (heap_alloc_new wr (.cells e0.cells.toArray 61)) rfl info61 rfl ?_; intro w1 hs1; have HS1 := Lib.hid hs1; clear hs1))
        have HX1 := Lib.hid HS1.out.at_
        have HW1 := Lib.hid (below_then HW.out HW.out.size (HS1.out.then_ (below_alloc (Below.refl _ _) _) (Nat.le_refl _)))
        clear HS1 hcell
        generalize wr.heap.size = b1 at HX1 ⊢
        refine plain_ (fun wq => Below w1.heap.size w1 wq) (fun _ => True) reg_36_6 rfl inv0 (fun _ _ _ _ => trivial) (Below.refl _ _) trivial ?_
        refine w_val [(4, _)] (_) (fun vs w hK => ⟨wants_none rfl, rho_out rfl rfl, trivial⟩) rfl (fun wq hI => by exact op_field rfl rfl Try.underlying61 rfl rfl rfl info9 (by decide)) ?_
        refine w_val [(14, _)] (_) (fun vs w hK => ⟨wants_none rfl, rho_in rfl (fv (hK 0 (memE rfl))), trivial⟩) rfl (fun wq hI => by exact run_load_cell (ad := ⟨b1, 0, none⟩) (v := .string x.key) rfl rfl rfl Try.underlying9 rfl (below_cell hI (by simp [World.cell?, HX1.out, Ent.cells]))) ?_
        refine w_val [(15, _)] (_) (fun vs w hK => ⟨wants_none rfl, rho_in rfl (fv (hK 1 (memE rfl))), trivial⟩) rfl (fun wq hI => by exact run_len_str rfl Try.underlying9 rfl rfl) ?_
        refine w_val [(16, _)] (_) (fun vs w hK => ⟨wants_none rfl, rho_in rfl (fv (hK 2 (memE rfl))), trivial⟩) rfl (fun wq hI => by exact run_int_gtr rfl rfl rfl rfl) ?_
        refine w_move (.inl rfl) (fun vs w hK => ⟨wants_none rfl, rho_in rfl (fv (hK 3 (memE rfl)))⟩) ?_
        refine w_valG [(4, _)] (_) (fun vs w hK => wantsF rfl (fv (hK 4 (memE rfl)))) (fun hG vs w hK => ⟨(rho_out rfl rfl), trivial⟩) rfl (fun hG wq hI => by exact op_field rfl rfl Try.underlying61 rfl rfl rfl info9 (by decide)) ?_
        refine w_valG [(19, _)] (_) (fun vs w hK => wantsF rfl (fv (hK 4 (memE rfl)))) (fun hG vs w hK => ⟨(rho_in rfl (fvg (hK 5 (memE rfl)) hG)), trivial⟩) rfl (fun hG wq hI => by exact run_load_cell (ad := ⟨b1, 3, none⟩) (v := .string x.val) rfl rfl rfl Try.underlying9 rfl (below_cell hI (by simp [World.cell?, HX1.out, Ent.cells]))) ?_
        refine w_valG [(20, _)] (_) (fun vs w hK => wantsF rfl (fv (hK 4 (memE rfl)))) (fun hG vs w hK => ⟨(rho_in rfl (fvg (hK 6 (memE rfl)) hG)), trivial⟩) rfl (fun hG wq hI => by exact run_len_str rfl Try.underlying9 rfl rfl) ?_
        refine w_valG [(21, _)] (_) (fun vs w hK => wantsF rfl (fv (hK 4 (memE rfl)))) (fun hG vs w hK => ⟨(rho_in rfl (fvg (hK 7 (memE rfl)) hG)), trivial⟩) rfl (fun hG wq hI => by exact run_int_gtr rfl rfl rfl rfl) ?_
        refine w_or rfl (fun vs w hK => wants_none rfl) (fun vs w hK => (rho_in rfl (fv (hK 4 (memE rfl))))) (fun hB vs w hK => (rho_in rfl (fvg (hK 8 (memE rfl)) (gnot hB)))) ?_
        refine w_as (c' := .bool D) (congrArg Value.bool HD.out) ?_
        refine w_endM [false, false, false, false, false, false, false, false, false, true] rfl rfl rfl (fun vs wq hI hF => ?_)
        simp only [List.reverse_cons, List.reverse_nil, List.nil_append, List.cons_append, finL_val, finL_of, finL_any, finL_app, finL_new, finL_gr, finL_row, finL_box, finL_nil, Act.put, List.setIfInBounds_toArray, List.set_cons_zero, List.set_cons_succ, Nat.reduceAdd, maskF, finL_imp, Bool.not_false, Bool.not_true, Bool.true_and, Bool.false_and]
        have HW2 := Lib.hid (below_then HW1.out HW1.out.size hI)
        clear hI hF HX1 HW1
        cases D with
        | true =>
          go_wp2_with fail
          go_ret
          exact ⟨true, rfl, HW2.out, fun h => by cases h⟩
        | false =>
          have HE2 : Hid (∀ p ∈ ps.take (k + 1), p.key.size ≤ 200 ∧ p.val.size ≤ 70000) := Lib.hid (fun p hp => by
            rw [HTK.out] at hp
            rcases List.mem_append.1 hp with hp | hp
            · exact HE.out p hp
            · rw [List.mem_singleton.1 hp]
              have h := HD.out
              rw [Bool.or_eq_false_iff, decide_eq_false_iff_not, decide_eq_false_iff_not] at h
              omega)
          clear HE HTK HD
          go_wp2_with fail
          go_roundw
          case rel => exact ⟨k + 1, by omega, by go_num, HE2, HW2⟩
          case measure => simp [intOf]; omega
      · obtain rfl : k = n := by omega
        have t1 : decide ((k : Int) < (k : Int)) = false := by simp
        have HE2 : Hid (∀ p ∈ ps, p.key.size ≤ 200 ∧ p.val.size ≤ 70000) := Lib.hid (by
          have := HE.out
          rwa [← HL.out, List.take_length] at this)
        clear HE
        go_wp2_with fail
        go_ret
        exact ⟨false, rfl, HW.out, fun _ => ⟨by omega, HE2.out⟩⟩
theorem wpList_build_as {P : Program} {ops : Array Oper} {rest : List Oper} {o : Oper} {a : Act} {w : World} {Q : Exit → Act → World → Prop} (hg : o.guard = none) (t : TypeId) (parts : Array (Nat × Operand)) (ho : o.op = .build t parts) (cs : Array Value) (pl : List (Nat × Value)) (hpl : (parts.toList.map fun x => (x.1, a.eval x.2)) = pl) (hb : P.built t pl = some cs)
    (h : wpList P ops Q rest (a.put o.dst (.agg cs)) w) : wpList P ops Q (o :: rest) a w := by
  refine wpList_plain hg fun K hK => ?_
  have hrun := run_build (P := P) w t (parts.map fun (x : Nat × Operand) => (x.1, a.eval x.2)) cs (by rw [Array.toList_map]; rw [hpl]; exact hb)
  unfold Oper.wp execOp
  simp only [ho, Sem.run_bind, hrun, Result.andThen_ok, Sem.run_pure]
  exact hK _ _ h
theorem built0 : Try.prog.built 61 [] = some e0.cells.toArray := by kernel_rfl
theorem getN_any (name : ByteArray) (seq : Nat) (w : World) : Calls Try.prog 41 #[.pointer none, .string name, .int .u64 (seq : Nat)] w fun e w' => e = .returned (.tuple #[e0.ag, .bool false]) ∧ Below w.heap.size w w' := by
  have HB1 := Lib.hid (below_alloc (Below.refl w.heap.size w) (.cells e0.cells.toArray 61))
  have HX1 := Lib.hid (heap_alloc_new w (.cells e0.cells.toArray 61))
  go_enter Try.func41, Try.ntmps41
  go_upto_region 1 with fail
  change Code.wp _ _ _ _ (w.alloc (.cells e0.cells.toArray 61))
  generalize w.alloc (.cells e0.cells.toArray 61) = w0 at HB1 HX1 ⊢
  go_wp2_with (first
    | (refine wpList_build_as rfl 61 #[] rfl e0.cells.toArray [] rfl built0 ?_)
    | (refine wpList_store_box rfl 61 (.tmp 6) (.tmp 12) rfl w.heap.size e0.cells rfl rfl HX1.out rfl info61 rfl ?_; intro w7 hs7; have HS7 := Lib.hid hs7; clear hs7)
    | fail)
  (try simp only [Exit.inBlock, Exit.then])
  refine bodyPost_ret (results_box_tmp rfl rfl (loadVar_box HS7.out.at_ Try.underlying61 rfl info61)) rfl ?_
  exact ⟨rfl, HS7.out.then_ HB1.out (Nat.le_refl _)⟩
theorem atN_any (j : Int) (w : World) : Calls Try.prog 44 #[.pointer none, .int .i64 j] w fun e w' => e = .returned (.tuple #[e0.ag, .bool false]) ∧ Below w.heap.size w w' := by
  have HB1 := Lib.hid (below_alloc (Below.refl w.heap.size w) (.cells e0.cells.toArray 61))
  have HX1 := Lib.hid (heap_alloc_new w (.cells e0.cells.toArray 61))
  go_enter Try.func44, Try.ntmps44
  go_upto_region 1 with fail
  change Code.wp _ _ _ _ (w.alloc (.cells e0.cells.toArray 61))
  generalize w.alloc (.cells e0.cells.toArray 61) = w0 at HB1 HX1 ⊢
  go_wp2_with (first
    | (refine wpList_build_as rfl 61 #[] rfl e0.cells.toArray [] rfl built0 ?_)
    | (refine wpList_store_box rfl 61 (.tmp 4) (.tmp 8) rfl w.heap.size e0.cells rfl rfl HX1.out rfl info61 rfl ?_; intro w7 hs7; have HS7 := Lib.hid hs7; clear hs7)
    | fail)
  (try simp only [Exit.inBlock, Exit.then])
  refine bodyPost_ret (results_box_tmp rfl rfl (loadVar_box HS7.out.at_ Try.underlying61 rfl info61)) rfl ?_
  exact ⟨rfl, HS7.out.then_ HB1.out (Nat.le_refl _)⟩
theorem addN_any (x : Ent) (w : World) : Calls Try.prog 38 #[.pointer none, x.ag] w fun e w' => e = .returned (.int .i64 1) ∧ Below w.heap.size w w' := by
  have HB1 := Lib.hid (below_alloc (Below.refl w.heap.size w) (.cells x.cells.toArray 61))
  show Calls Try.prog 38 #[.pointer none, .agg x.cells.toArray] w _
  go_enter Try.func38, Try.ntmps38
  go_upto_region 1 with fail
  generalize w.alloc (.cells x.cells.toArray 61) = w0 at HB1 ⊢
  go_wp2_with fail
  go_ret
  exact ⟨rfl, HB1.out⟩
theorem fromN_any (x : Ent) (w : World) : Calls Try.prog 39 #[.pointer none, x.ag] w fun e w' => e = .returned (.int .i64 0) ∧ Below w.heap.size w w' := by
  have HB1 := Lib.hid (below_alloc (Below.refl w.heap.size w) (.cells x.cells.toArray 61))
  show Calls Try.prog 39 #[.pointer none, .agg x.cells.toArray] w _
  go_enter Try.func39, Try.ntmps39
  go_upto_region 1 with fail
  generalize w.alloc (.cells x.cells.toArray 61) = w0 at HB1 ⊢
  go_wp2_with fail
  go_ret
  exact ⟨rfl, HB1.out⟩
theorem allN_any (w : World) : Calls Try.prog 40 #[.pointer none] w fun e w' => e = .returned (.slice none 0 0) ∧ Below w.heap.size w w' := by
  go_enter Try.func40, Try.ntmps40
  go_wp2_with fail
  go_ret
  exact ⟨rfl, Below.refl _ _⟩
theorem lenN_any (w : World) : Calls Try.prog 43 #[.pointer none] w fun e w' => e = .returned (.int .i64 0) ∧ Below w.heap.size w w' := by
  go_enter Try.func43, Try.ntmps43
  go_wp2_with fail
  go_ret
  exact ⟨rfl, Below.refl _ _⟩
theorem sizeN_any (w : World) : Calls Try.prog 42 #[.pointer none] w fun e w' => e = .returned (.int .i64 0) ∧ Below w.heap.size w w' := by
  go_enter Try.func42, Try.ntmps42
  go_wp2_with fail
  go_ret
  exact ⟨rfl, Below.refl _ _⟩
end Go.Proofs.Ytnkeijdpjcclcaa.Mem
-- EntI
/- Of law 10's tables: the document's example. -/
namespace Go.Proofs.Ytnkeijdpjcclcaa.Mem
set_option linter.unusedVariables false
set_option linter.unusedSimpArgs false
open Go.Proofs.Ytnkeijdpjcclcaa.Kit Go.Proofs.Ytnkeijdpjcclcaa.Num Go.RowKit Go.Proofs.YtnkeijdpjcclcaaW.PrintWords Go.Proofs.YtnkeijdpjcclcaaW.PrintLast Go.Proofs.YtnkeijdpjcclcaaW.PrintMore NumPure Key
def aN (n : Nat) : Ent := ⟨⟨#[97]⟩, n, false, ⟨#[]⟩⟩
theorem aN_ok (n : Nat) (h : n < 100) : (aN n).ok := ⟨by show n < _; omega, by show (1 : Nat) ≤ _; omega, by show (0 : Nat) ≤ _; omega⟩
theorem addR5 : addR [] (aN 5) = 0 := by decide +kernel
theorem addL5 : addL [] (aN 5) = [aN 5] := by
  unfold addL
  rw [if_pos addR5]
  rfl
theorem addR7 : addR [aN 5] (aN 7) = 0 := by decide +kernel
theorem pos7 : pos Ent.cmp [aN 5] (aN 7) = 0 := by decide +kernel
theorem addL7 : addL [aN 5] (aN 7) = [aN 7, aN 5] := by
  unfold addL
  rw [if_pos addR7]
  unfold insL
  rw [pos7]
  rfl
theorem get_of {xs : List Ent} {name : ByteArray} {n k : Nat} {y : Ent} {b : Bool} (h : pos Ent.cmp xs (eK name n) = k) (h2 : atE xs (k : Nat) = (y, b)) (h3 : (!b || !decide (y.key = name)) = false) : getL xs name n = (y, true) := by
  unfold getL
  simp only [h, h2]
  rw [if_neg (by rw [h3]; decide)]
theorem get6 : getL [aN 7, aN 5] ⟨#[97]⟩ 6 = (aN 5, true) := get_of (k := 1) (by decide +kernel) (b := true) rfl rfl
theorem get9 : getL [aN 7, aN 5] ⟨#[97]⟩ 9 = (aN 7, true) := get_of (k := 0) (by decide +kernel) (b := true) rfl rfl
theorem get4 : (getL [aN 7, aN 5] ⟨#[97]⟩ 4).2 = false := by
  have h : pos Ent.cmp [aN 7, aN 5] (eK ⟨#[97]⟩ 4) = 2 := by decide +kernel
  unfold getL
  simp only [h]
  rfl
/-- A table since a world. -/
structure LT (w0 : World) (t p : Nat) (v : Value) (xs : List Ent) (w : World) : Prop where
  bel : Below w0.heap.size w0 w
  tb : TB w w0.heap.size t p v xs
theorem lt_below {w0 w W : World} {t p : Nat} {v : Value} {xs : List Ent} (h : LT w0 t p v xs w) (hb : Below w.heap.size w W) : LT w0 t p v xs W := ⟨below_then h.bel h.bel.size hb, tb_below h.tb hb⟩
theorem lt_add {w0 w W : World} {t p : Nat} {v v' : Value} {xs ys : List Ent} (h : LT w0 t p v xs w) (hs : TB W w0.heap.size t p v' ys) (hg : Gr3 w W t p v.ownBlock) : LT w0 t p v' ys W :=
  ⟨⟨hg.os.trans h.bel.os, hg.tape.trans h.bel.tape, hg.output.trans h.bel.output, Nat.le_trans h.bel.size hg.size, fun k hk => (hg.block k (Nat.lt_of_lt_of_le hk h.bel.size) (fun e => by have := h.tb.base; omega) (fun e => by have := h.tb.so.base; omega) (fun e => by have := ownk_base h.tb.so.own k e.symm; omega)).trans (h.bel.block k hk)⟩, hs⟩
set_option maxRecDepth 20000 in
set_option maxHeartbeats 1600000 in
theorem headT_any (w : World) : Calls Try.prog 35 #[] w fun e w' => e = .returned (.bool true) ∧ Below w.heap.size w w' := by
  have C0 := Lib.hid (newT_any w)
  go_enter Try.func35, Try.ntmps35
  go_wp2_with fail
  refine C0.out.mono ?_
  rintro e w1 ⟨t, p, rfl, htb, hb1⟩
  have HL1 := Lib.hid (LT.mk hb1 htb)
  have C1 := Lib.hid (addT_any w1 (aN 5) htb hb1.size (by simp) good_nil (aN_ok 5 (by omega)))
  rw [addR5, addL5] at C1
  clear htb hb1 C0
  go_wp2_with fail
  refine C1.out.mono ?_
  rintro e w2 ⟨rfl, v2, htb2, hg2, _⟩
  have HL2 := Lib.hid (lt_add HL1.out htb2 hg2)
  have C2 := Lib.hid (addT_any w2 (aN 7) htb2 HL2.out.bel.size (by simp) (by rw [← addL5]; exact good_add good_nil (aN_ok 5 (by omega))) (aN_ok 7 (by omega)))
  rw [addR7, addL7] at C2
  have hg5 : GoodT [aN 7, aN 5] := by rw [← addL7, ← addL5]; exact good_add (good_add good_nil (aN_ok 5 (by omega))) (aN_ok 7 (by omega))
  have HG := Lib.hid hg5
  clear htb2 hg2 HL1 C1 hg5
  go_wp2_with fail
  refine C2.out.mono ?_
  rintro e w3 ⟨rfl, v3, htb3, hg3, _⟩
  have HL3 := Lib.hid (lt_add HL2.out htb3 hg3)
  have C3 := Lib.hid (getT_any w3 ⟨#[97]⟩ 6 htb3 (by simp) HG.out (aN_ok 6 (by omega)))
  rw [get6] at C3
  clear htb3 hg3 HL2 C2
  go_wp2_with fail
  refine C3.out.mono ?_
  rintro e w4 ⟨rfl, hb4⟩
  have HL4 := Lib.hid (lt_below HL3.out hb4)
  clear hb4 HL3 C3
  go_upto_region 5 with (first
    | (refine wpList_store_box rfl 61 (.tmp 2) (.tmp 26) rfl w4.heap.size (aN 5).cells rfl rfl (heap_alloc_new w4 (.cells e0.cells.toArray 61)) rfl info61 rfl ?_; intro w5 hs5; have HS5 := Lib.hid hs5; clear hs5)
    | fail)
  have hb5 : Below w4.heap.size w4 w5 := HS5.out.then_ (below_alloc (Below.refl _ _) _) (Nat.le_refl _)
  have HX5 := Lib.hid HS5.out.at_
  have HL5 := Lib.hid (lt_below HL4.out hb5)
  generalize w4.heap.size = b4 at HX5 ⊢
  clear hb5 HS5 HL4
  have C5 := Lib.hid (getT_any w5 ⟨#[97]⟩ 9 HL5.out.tb (by simp) HG.out (aN_ok 9 (by omega)))
  rw [get9] at C5
  go_wp2_with fail
  refine C5.out.mono ?_
  rintro e w6 ⟨rfl, hb6⟩
  have HL6 := Lib.hid (lt_below HL5.out hb6)
  have HX6 := Lib.hid (box_stays HX5.out hb6)
  clear hb6 HL5 HX5 C5
  go_upto_region 6 with (first
    | (refine wpList_store_box rfl 61 (.tmp 4) (.tmp 31) rfl w6.heap.size (aN 7).cells rfl rfl (heap_alloc_new w6 (.cells e0.cells.toArray 61)) rfl info61 rfl ?_; intro w7 hs7; have HS7 := Lib.hid hs7; clear hs7)
    | fail)
  have hb7 : Below w6.heap.size w6 w7 := HS7.out.then_ (below_alloc (Below.refl _ _) _) (Nat.le_refl _)
  have HY7 := Lib.hid HS7.out.at_
  have HX7 := Lib.hid (box_stays HX6.out hb7)
  have HL7 := Lib.hid (lt_below HL6.out hb7)
  generalize w6.heap.size = b6 at HY7 ⊢
  clear hb7 HS7 HL6 HX6
  obtain ⟨⟨y4, c4⟩, hG4⟩ : ∃ P, getL [aN 7, aN 5] ⟨#[97]⟩ 4 = P := ⟨_, rfl⟩
  have C7 := Lib.hid (getT_any w7 ⟨#[97]⟩ 4 HL7.out.tb (by simp) HG.out (aN_ok 4 (by omega)))
  rw [hG4] at C7
  have hc4 : c4 = false := by rw [← get4, hG4]
  subst hc4
  clear hG4
  go_wp2_with fail
  refine C7.out.mono ?_
  rintro e w8 ⟨rfl, hb8⟩
  have HL8 := Lib.hid (lt_below HL7.out hb8)
  have HX8 := Lib.hid (box_stays HX7.out hb8)
  have HY8 := Lib.hid (box_stays HY7.out hb8)
  clear hb8 HL7 HX7 HY7 C7
  go_upto_region 7 with (first
    | (refine wpList_store_box rfl 61 (.tmp 6) (.tmp 36) rfl w8.heap.size y4.cells rfl rfl (heap_alloc_new w8 (.cells e0.cells.toArray 61)) rfl info61 rfl ?_; intro w9 hs9; have HS9 := Lib.hid hs9; clear hs9)
    | fail)
  have hb9 : Below w8.heap.size w8 w9 := HS9.out.then_ (below_alloc (Below.refl _ _) _) (Nat.le_refl _)
  have hx9 := box_stays HX8.out hb9
  have hy9 := box_stays HY8.out hb9
  have hcx : w9.cell? ⟨b4, 1, none⟩ = some (.int .u64 5) := by
    simp [World.cell?, hx9, Ent.cells, aN]
  have hcy : w9.cell? ⟨b6, 1, none⟩ = some (.int .u64 7) := by
    simp [World.cell?, hy9, Ent.cells, aN]
  have HL9 := Lib.hid (lt_below HL8.out hb9)
  have C9 := Lib.hid (lenT_any w9 HL9.out.tb)
  clear hb9 hx9 hy9 HS9 HL8 HX8 HY8
  go_wp2_with fail
  refine C9.out.mono ?_
  rintro e w10 ⟨rfl, hb10⟩
  have HW := Lib.hid (below_then HL9.out.bel HL9.out.bel.size hb10)
  clear hb10 C9 HL9 hcx hcy
  go_wp2_with fail
  go_ret
  exact ⟨rfl, HW.out⟩
end Go.Proofs.Ytnkeijdpjcclcaa.Mem
-- EntJ
/- Words of law 10's walks over tables: what changes are put in one by one; a struct stored into a row; a row of its own beside a table. -/
namespace Go.Proofs.Ytnkeijdpjcclcaa.Mem
set_option linter.unusedVariables false
set_option linter.unusedSimpArgs false
open Go.Proofs.Ytnkeijdpjcclcaa.Kit Go.Proofs.Ytnkeijdpjcclcaa.Num Go.RowKit Go.Proofs.YtnkeijdpjcclcaaW.PrintWords Go.Proofs.YtnkeijdpjcclcaaW.PrintLast Go.Proofs.YtnkeijdpjcclcaaW.PrintMore NumPure Key
/-- What a table holds once changes were added. -/
def accL (l : List Ent) : List Ent := l.foldl addL []
theorem acc_snoc (l : List Ent) (x : Ent) : accL (l ++ [x]) = addL (accL l) x := by simp [accL]
theorem good_fold : ∀ (l acc : List Ent), GoodT acc → (∀ z ∈ l, Ent.ok z) → GoodT (l.foldl addL acc)
  | [], _, h, _ => h
  | a :: r, acc, h, hz => good_fold r (addL acc a) (good_add h (hz a (List.mem_cons_self ..))) fun z h => hz z (List.mem_cons_of_mem _ h)
theorem acc_good {l : List Ent} (h : ∀ z ∈ l, Ent.ok z) : GoodT (accL l) := good_fold l [] good_nil h
theorem fold_length : ∀ (l acc : List Ent), (l.foldl addL acc).length ≤ acc.length + l.length
  | [], _ => Nat.le_refl _
  | a :: r, acc => by
    have h1 := fold_length r (addL acc a)
    have h2 := add_length acc a
    rw [List.foldl_cons, List.length_cons]
    omega
theorem acc_length (l : List Ent) : (accL l).length ≤ l.length := by
  have := fold_length l []
  simpa [accL] using this
theorem pos_count {α : Type} (c : α → α → Int) : ∀ {xs : List α} {x : α}, Mono c xs x → pos c xs x = xs.countP fun y => decide (c y x < 0)
  | [], x, _ => rfl
  | a :: r, x, h => by
    by_cases ha : c a x < 0
    · have ih := pos_count c (xs := r) (x := x) fun i j y z hij hy hz => h (i + 1) (j + 1) y z (by omega) (by simpa using hy) (by simpa using hz)
      rw [List.countP_cons_of_pos (by simpa using ha), ← ih]
      unfold pos
      rw [List.takeWhile_cons, if_pos (by simpa using ha), List.length_cons]
    · have h0 : (a :: r).countP (fun y => decide (c y x < 0)) = 0 := by
        rw [List.countP_eq_zero]
        intro y hy hl
        obtain ⟨j, hj, rfl⟩ := List.getElem_of_mem hy
        exact ha (h 0 j a _ (Nat.zero_le _) rfl (List.getElem?_eq_getElem hj) (of_decide_eq_true hl))
      rw [h0]
      unfold pos
      rw [List.takeWhile_cons, if_neg (by simpa using ha), List.length_nil]
theorem ins_count (P : Ent → Bool) (xs : List Ent) (y : Ent) : (insL xs y).countP P = xs.countP P + (if P y = true then 1 else 0) := by
  unfold insL
  rw [List.countP_append, List.countP_append, List.countP_singleton]
  conv => rhs; rw [← List.take_append_drop (pos Ent.cmp xs y) xs, List.countP_append]
  omega
theorem add_count (P : Ent → Bool) (xs : List Ent) (y : Ent) : (addL xs y).countP P = xs.countP P + (if (decide (addR xs y = 0) && P y) = true then 1 else 0) := by
  unfold addL
  by_cases h : addR xs y = 0
  · rw [if_pos h, ins_count, decide_eq_true h, Bool.true_and]
  · rw [if_neg h, decide_eq_false h, Bool.false_and, if_neg (by decide)]
    rfl
/-- A table's own blocks. -/
def InT (t p : Nat) (v : Value) (k : Nat) : Prop := k = t ∨ k = p ∨ v.ownBlock = some k
theorem int_lt {w : World} {B t p : Nat} {v : Value} {xs : List Ent} (h : TB w B t p v xs) {k : Nat} (hk : InT t p v k) : k < w.heap.size := by
  rcases hk with rfl | rfl | hk
  · exact mk_lt h.box
  · exact mk_lt h.so.box
  · exact ownk_lt h.so.own k hk
theorem int_base {w : World} {B t p : Nat} {v : Value} {xs : List Ent} (h : TB w B t p v xs) {k : Nat} (hk : InT t p v k) : B ≤ k := by
  rcases hk with rfl | rfl | hk
  · exact h.base
  · exact h.so.base
  · exact ownk_base h.so.own k hk
theorem int_goes {w : World} {t p : Nat} {v v' : Value} (ho : Goes w v v') {k : Nat} (hk : InT t p v' k) : InT t p v k ∨ w.heap.size ≤ k := by
  rcases hk with rfl | rfl | hk
  · exact .inl (.inl rfl)
  · exact .inl (.inr (.inl rfl))
  · rcases ho with g | ⟨b, g, hb⟩
    · exact .inl (.inr (.inr (by rw [← g]; exact hk)))
    · rw [g] at hk
      injection hk with hk
      exact .inr (by omega)
theorem gr3_at {w W : World} {t p : Nat} {v : Value} (h : Gr3 w W t p v.ownBlock) {k : Nat} (hk : k < w.heap.size) (hn : ¬ InT t p v k) : W.heap[k]? = w.heap[k]? :=
  h.block k hk (fun e => hn (.inl e)) (fun e => hn (.inr (.inl e))) (fun e => hn (.inr (.inr e.symm)))
theorem gr3_box {w W : World} {t p : Nat} {v : Value} {k : Nat} {o : Obj} (h : Gr3 w W t p v.ownBlock) (hb : w.heap[k]? = some o) (hn : ¬ InT t p v k) : W.heap[k]? = some o := by
  rw [gr3_at h (mk_lt hb) hn]
  exact hb
/-- A table and a row of its own, since a world. -/
structure LR (w0 : World) (t p : Nat) (v : Value) (xs : List Ent) (va : Value) (ys : List Ent) (w : World) : Prop where
  lt : LT w0 t p v xs w
  own : OwnK encE kE 61 w w0.heap.size va ys
  ap : ∀ k, InT t p v k → va.ownBlock ≠ some k
section
variable {w0 w W : World} {t p : Nat} {v v' va va' : Value} {xs xs' ys zs : List Ent}
theorem lr_below (h : LR w0 t p v xs va ys w) (hb : Below w.heap.size w W) : LR w0 t p v xs va ys W := ⟨lt_below h.lt hb, ownk_below h.own hb, h.ap⟩
theorem lr_new (h : LT w0 t p v xs w) (hb : Below w.heap.size w W) (ho : OwnK encE kE 61 W w.heap.size va ys) : LR w0 t p v xs va ys W :=
  ⟨lt_below h hb, ownk_lower ho h.bel.size, fun k hk e => by
    have h1 := int_lt h.tb hk
    have h2 := ownk_base ho k e
    omega⟩
theorem lr_add (h : LR w0 t p v xs va ys w) (hs : TB W w0.heap.size t p v' xs') (hg : Gr3 w W t p v.ownBlock) (ho : Goes w v v') : LR w0 t p v' xs' va ys W :=
  ⟨lt_add h.lt hs hg, ownk_move h.own fun j hj => gr3_at hg (ownk_lt h.own j hj) fun hi => h.ap j hi hj, fun k hk e => by
    rcases int_goes ho hk with h1 | h1
    · exact h.ap k h1 e
    · have := ownk_lt h.own k e
      omega⟩
theorem lt_set {g : Nat} {o : Obj} (h : LT w0 t p v xs w) (hs : Set1 w g o W) (hg : w0.heap.size ≤ g) (hn : ¬ InT t p v g) : LT w0 t p v xs W :=
  ⟨hs.then_ h.bel hg, ⟨hs.keep h.tb.box fun e => hn (.inl e.symm), ⟨hs.keep h.tb.so.box fun e => hn (.inr (.inl e.symm)), ownk_move h.tb.so.own fun j hj => hs.other j fun e => hn (.inr (.inr (by rw [← e]; exact hj))), h.tb.so.ne, h.tb.so.base⟩, h.tb.tp, h.tb.tv, h.tb.base⟩⟩
theorem lr_set {g : Nat} {o : Obj} (h : LR w0 t p v xs va ys w) (hg : va.ownBlock = some g) (hs : Set1 w g o W) (ho : OwnK encE kE 61 W w0.heap.size va zs) : LR w0 t p v xs va zs W :=
  ⟨lt_set h.lt hs (ownk_base h.own g hg) fun hi => h.ap g hi hg, ho, h.ap⟩
end
/-- A struct goes into a block's row. -/
theorem run_storeVar_at {P : Program} {w : World} {g o : Nat} {t ty : TypeId} {cur cs : List Value} (hg : w.heap[g]? = some (.cells cur.toArray t (0, 0))) (hl : o + cs.length ≤ cur.length) (hi : (P.info? ty).map (·.size) = some cs.length) (h1 : ∀ v ∈ cs, v.oneCell' = true) :
    ∃ w', (storeVar ty ⟨g, o, none⟩ (.agg cs.toArray)).run P w = .ok () w' ∧ Set1 w g (.cells (cur.take o ++ cs ++ cur.drop (o + cs.length)).toArray t (0, 0)) w' := by
  have hst := run_storeCells_at (P := P) g o t cs 0 cur.toArray w hg (by simpa using hl) h1
  cases hq : P.info? ty with
  | none => simp [hq] at hi
  | some i =>
    have hs : i.size = cs.length := by simp [hq] at hi; exact hi
    refine ⟨_, ?_, set1_row (cs := (cur.take o ++ cs ++ cur.drop (o + cs.length)).toArray) hg⟩
    simp only [Nat.add_zero] at hst
    simp [storeVar, sizeOf, typeInfo, hq, Value.cells, hs, hst]
theorem wpList_store_at {P : Program} {ops : Array Oper} {rest : List Oper} {op : Oper} {a : Act} {w : World} {Q : Exit → Act → World → Prop} (hgd : op.guard = none) (ty : TypeId) (x y : Operand) (ho : op.op = .store ty x y) (g o : Nat) (cs : List Value) (hx : a.eval x = .pointer (some ⟨g, o, none⟩)) (hy : a.eval y = .agg cs.toArray)
    {cur : List Value} {t : TypeId} (hg : w.heap[g]? = some (.cells cur.toArray t (0, 0))) (hl : o + cs.length ≤ cur.length) (hi : (P.info? ty).map (·.size) = some cs.length) (h1 : ∀ v ∈ cs, v.oneCell' = true)
    (h : ∀ w', Set1 w g (.cells (cur.take o ++ cs ++ cur.drop (o + cs.length)).toArray t (0, 0)) w' → wpList P ops Q rest (a.put op.dst undef) w') : wpList P ops Q (op :: rest) a w := by
  obtain ⟨w', hrun, hs⟩ := run_storeVar_at (P := P) hg hl hi h1
  refine wpList_plain hgd fun K hK => ?_
  unfold Oper.wp execOp
  simp only [ho, hx, hy, Instr.storeAt, Instr.sureAddr, Sem.run_bind, Sem.run_pure, Result.andThen_ok, hrun]
  exact hK _ _ (h _ hs)
theorem flat_setE : ∀ (xs : List Ent) (i : Nat) (x : Ent) (R : List Value), i < xs.length → (xs.flatMap encE ++ R).take (i * kE) ++ encE x ++ (xs.flatMap encE ++ R).drop (i * kE + (encE x).length) = (xs.set i x).flatMap encE ++ R
  | [], i, x, R, h => by simp at h
  | a :: r, 0, x, R, _ => by
    have hx : (encE x).length = (encE a).length := by rw [encE_len, encE_len]
    rw [Nat.zero_mul, List.take_zero, List.nil_append, Nat.zero_add, List.set_cons_zero, List.flatMap_cons, List.flatMap_cons, List.append_assoc, hx, List.drop_left, List.append_assoc]
  | a :: r, i + 1, x, R, h => by
    have ih := flat_setE r i x R (by simpa using h)
    have ha : (encE a).length = kE := encE_len a
    have hT : (a :: r).flatMap encE ++ R = encE a ++ (r.flatMap encE ++ R) := by rw [List.flatMap_cons, List.append_assoc]
    rw [List.set_cons_succ, hT, List.flatMap_cons, List.append_assoc (encE a) ((r.set i x).flatMap encE) R, ← ih, Nat.succ_mul, show i * kE + kE = (encE a).length + i * kE by rw [ha, Nat.add_comm], List.take_length_add_append, Nat.add_assoc, List.drop_length_add_append]
    simp only [List.append_assoc]
end Go.Proofs.Ytnkeijdpjcclcaa.Mem
-- EntK
/- The newest change of a key up to a number: pure part of the law MemGets. -/
namespace Go.Proofs.Ytnkeijdpjcclcaa.Mem
set_option linter.unusedVariables false
set_option linter.unusedSimpArgs false
open Go.Proofs.Ytnkeijdpjcclcaa.Kit Go.Proofs.Ytnkeijdpjcclcaa.Num Go.RowKit Go.Proofs.YtnkeijdpjcclcaaW.PrintWords Go.Proofs.YtnkeijdpjcclcaaW.PrintLast Go.Proofs.YtnkeijdpjcclcaaW.PrintMore NumPure Key
/-- Of one key, the newer is ahead. -/
theorem cmp_same {x y : Ent} (h : x.key = y.key) : x.cmp y = if y.seq < x.seq then -1 else if x.seq < y.seq then 1 else 0 := by
  unfold Ent.cmp
  rw [if_neg (by rw [(CB_zero x.key y.key).2 h]; decide)]
theorem cb_of {x y : Ent} (h : x.key ≠ y.key) : x.cmp y = CB x.key y.key ∧ CB x.key y.key ≠ 0 := ⟨Ent.cmp_key x y h, fun e => h ((CB_zero _ _).1 e)⟩
/-- One that is looked for. -/
def Fits (name : ByteArray) (seq : Nat) (y : Ent) : Prop := y.key = name ∧ y.seq ≤ seq
theorem at_of {xs : List Ent} {j : Nat} {y : Ent} (h : xs[j]? = some y) : atE xs (j : Nat) = (y, true) := by
  obtain ⟨hj, rfl⟩ := List.getElem?_eq_some_iff.1 h
  unfold atE
  rw [if_pos (by omega), show ((j : Nat) : Int).toNat = j from rfl, List.getD_eq_getElem?_getD, h]
  rfl
theorem at_off {xs : List Ent} {j : Nat} (h : xs.length ≤ j) : atE xs (j : Nat) = (e0, false) := by
  unfold atE
  rw [if_neg (by omega)]
theorem get_none {xs : List Ent} {name : ByteArray} {seq : Nat} (h : ∀ y ∈ xs, ¬ Fits name seq y) : getL xs name seq = (e0, false) := by
  unfold getL
  rcases Nat.lt_or_ge (pos Ent.cmp xs (eK name seq)) xs.length with g | g
  · have hy := List.getElem?_eq_getElem g
    have h1 := pos_at Ent.cmp _ hy
    have h2 := h _ (List.getElem_mem g)
    generalize xs[pos Ent.cmp xs (eK name seq)] = y at hy h1 h2
    simp only [at_of hy]
    have hne : y.key ≠ name := fun e => by
      refine h2 ⟨e, ?_⟩
      rw [cmp_same (show y.key = (eK name seq).key from e)] at h1
      by_cases hs : (eK name seq).seq < y.seq
      · rw [if_pos hs] at h1
        exact absurd (by decide) h1
      · exact Nat.le_of_not_lt hs
    rw [decide_eq_false hne]
    rfl
  · simp only [at_off g]
    rfl
theorem get_some {xs : List Ent} (hg : GoodT xs) {name : ByteArray} {seq : Nat} {y : Ent} (hy : y ∈ xs) (hf : Fits name seq y) (hb : ∀ z ∈ xs, Fits name seq z → z.seq ≤ y.seq) : getL xs name seq = (y, true) := by
  obtain ⟨j, hj, he⟩ := List.getElem_of_mem hy
  have hyj : xs[j]? = some y := by rw [List.getElem?_eq_getElem hj, he]
  have hge : ¬ y.cmp (eK name seq) < 0 := by
    rw [cmp_same (show y.key = (eK name seq).key from hf.1), if_neg (show ¬ (eK name seq).seq < y.seq from Nat.not_lt.2 hf.2)]
    split <;> decide
  have hpj : pos Ent.cmp xs (eK name seq) ≤ j := by
    rcases Nat.lt_or_ge j (pos Ent.cmp xs (eK name seq)) with g | g
    · exact absurd (pos_below Ent.cmp j y g hyj) hge
    · exact g
  have hp : pos Ent.cmp xs (eK name seq) = j := by
    rcases Nat.lt_or_ge (pos Ent.cmp xs (eK name seq)) j with g | g
    · exfalso
      have hz := List.getElem?_eq_getElem (show pos Ent.cmp xs (eK name seq) < xs.length by omega)
      have h1 := pos_at Ent.cmp _ hz
      have h2 := good_get hg g hz hyj
      have hm := List.mem_of_getElem? hz
      generalize xs[pos Ent.cmp xs (eK name seq)] = z at hz h1 h2 hm
      have hk : z.key = name := Classical.byContradiction fun hne => by
        obtain ⟨e1, n1⟩ := cb_of (x := z) (y := eK name seq) hne
        obtain ⟨e2, n2⟩ := cb_of (x := z) (y := y) (by rw [hf.1]; exact hne)
        rw [e1] at h1
        rw [e2, hf.1] at h2
        exact h1 h2
      rw [cmp_same (show z.key = y.key by rw [hk, hf.1])] at h2
      rw [cmp_same (show z.key = (eK name seq).key from hk)] at h1
      have h3 : z.seq ≤ seq := by
        by_cases hs : (eK name seq).seq < z.seq
        · rw [if_pos hs] at h1
          exact absurd (by decide) h1
        · exact Nat.le_of_not_lt hs
      have h4 := hb z hm ⟨hk, h3⟩
      rw [if_neg (by omega)] at h2
      split at h2 <;> exact absurd h2 (by decide)
    · omega
  unfold getL
  simp only [hp, at_of hyj, hf.1]
  simp
theorem mem_add {xs : List Ent} {x y : Ent} : y ∈ addL xs x ↔ (addR xs x = 0 ∧ y = x) ∨ y ∈ xs := by
  unfold addL
  split
  · rename_i h
    rw [mem_ins]
    exact ⟨fun h2 => h2.imp (fun e => ⟨h, e⟩) id, fun h2 => h2.imp (fun e => e.2) id⟩
  · rename_i h
    exact ⟨fun h2 => .inr h2, fun h2 => h2.resolve_left fun e => h e.1⟩
/-- The law's own answer: the place of the best one so far, or -1. -/
def Best (list : List Ent) (name : ByteArray) (seq : Nat) (xs : List Ent) (b : Int) : Prop :=
  (b = -1 ∧ ∀ y ∈ xs, ¬ Fits name seq y) ∨ ∃ (i : Nat) (y : Ent), b = (i : Int) ∧ list[i]? = some y ∧ y ∈ xs ∧ Fits name seq y ∧ ∀ z ∈ xs, Fits name seq z → z.seq ≤ y.seq
/-- Does the next change become the best? -/
def turns (list : List Ent) (name : ByteArray) (seq : Nat) (r : Nat) (x : Ent) (b : Int) : Bool :=
  (((r : Int) == 0) && decide (x.key = name)) && decide ((x.seq : Int) ≤ (seq : Int)) && (decide (b < 0) || decide (((list.getD b.toNat e0).seq : Int) < (x.seq : Int)))
theorem best_turn {list : List Ent} {name : ByteArray} {seq : Nat} {xs : List Ent} {b : Int} {k : Nat} {x : Ent} (hx : list[k]? = some x) (h : Best list name seq xs b) (ht : turns list name seq (addR xs x) x b = true) : Best list name seq (addL xs x) (k : Int) := by
  unfold turns at ht
  simp only [Bool.and_eq_true, Bool.or_eq_true, beq_iff_eq, decide_eq_true_iff] at ht
  obtain ⟨⟨⟨h1, h2⟩, h3⟩, h4⟩ := ht
  have h1 : addR xs x = 0 := by omega
  refine .inr ⟨k, x, rfl, hx, mem_add.2 (.inl ⟨h1, rfl⟩), ⟨h2, by omega⟩, fun z hz hf => ?_⟩
  rcases mem_add.1 hz with ⟨_, rfl⟩ | hz
  · exact Nat.le_refl _
  · rcases h with ⟨hb, hn⟩ | ⟨i, y, rfl, hy, hm, hfy, hbest⟩
    · exact absurd hf (hn z hz)
    · have h5 := hbest z hz hf
      have h6 : (list.getD ((i : Int)).toNat e0) = y := by rw [show ((i : Int)).toNat = i from rfl, List.getD_eq_getElem?_getD, hy]; rfl
      rw [h6] at h4
      omega
theorem best_keep {list : List Ent} {name : ByteArray} {seq : Nat} {xs : List Ent} {b : Int} {x : Ent} (h : Best list name seq xs b) (ht : turns list name seq (addR xs x) x b = false) : Best list name seq (addL xs x) b := by
  rcases h with ⟨rfl, hn⟩ | ⟨i, y, rfl, hy, hm, hfy, hbest⟩
  · refine .inl ⟨rfl, fun z hz hf => ?_⟩
    rcases mem_add.1 hz with ⟨h0, rfl⟩ | hz
    · unfold turns at ht
      have h1 : ((addR xs z : Int) == 0) = true := by rw [beq_iff_eq]; omega
      have h2 : decide ((z.seq : Int) ≤ (seq : Int)) = true := decide_eq_true (by have := hf.2; omega)
      rw [h1, decide_eq_true hf.1, h2] at ht
      exact absurd ht (by simp)
    · exact hn z hz hf
  · refine .inr ⟨i, y, rfl, hy, mem_add.2 (.inr hm), hfy, fun z hz hf => ?_⟩
    rcases mem_add.1 hz with ⟨h0, rfl⟩ | hz
    · unfold turns at ht
      have h1 : ((addR xs z : Int) == 0) = true := by rw [beq_iff_eq]; omega
      have h2 : decide ((z.seq : Int) ≤ (seq : Int)) = true := decide_eq_true (by have := hf.2; omega)
      have h6 : (list.getD ((i : Int)).toNat e0) = y := by rw [show ((i : Int)).toNat = i from rfl, List.getD_eq_getElem?_getD, hy]; rfl
      rw [h1, decide_eq_true hf.1, h2, h6, decide_eq_false (show ¬ (i : Int) < 0 by omega)] at ht
      simp only [Bool.true_and, Bool.false_or, decide_eq_false_iff_not] at ht
      omega
    · exact hbest z hz hf
/-- The law's last word. -/
def lastG (list : List Ent) (x : Ent) (ok : Bool) (b : Int) : Bool :=
  (ok == decide (b ≥ 0)) && ((!ok && x.eqb e0) || (ok && x.eqb (list.getD b.toNat e0)))
theorem best_last {list : List Ent} {name : ByteArray} {seq : Nat} {xs : List Ent} {b : Int} (hg : GoodT xs) (h : Best list name seq xs b) : lastG list (getL xs name seq).1 (getL xs name seq).2 b = true := by
  unfold lastG
  rcases h with ⟨rfl, hn⟩ | ⟨i, y, rfl, hy, hm, hfy, hbest⟩
  · rw [get_none hn, Ent.eqb_self]
    rfl
  · have h6 : (list.getD ((i : Int)).toNat e0) = y := by rw [show ((i : Int)).toNat = i from rfl, List.getD_eq_getElem?_getD, hy]; rfl
    rw [get_some hg hm hfy hbest, h6, Ent.eqb_self, decide_eq_true (show ((i : Nat) : Int) ≥ 0 by omega)]
    rfl
theorem best_start (list : List Ent) (name : ByteArray) (seq : Nat) : Best list name seq [] (-1) := .inl ⟨rfl, fun y h => by cases h⟩
theorem best_lt {list : List Ent} {name : ByteArray} {seq : Nat} {xs : List Ent} {b : Int} (h : Best list name seq xs b) (hb : ¬ b < 0) : b.toNat < list.length ∧ b = (b.toNat : Int) := by
  rcases h with ⟨rfl, hn⟩ | ⟨i, y, rfl, hy, hm, hfy, hbest⟩
  · exact absurd (by decide) hb
  · exact ⟨(List.getElem?_eq_some_iff.1 hy).1, rfl⟩
/-- A field of a struct that lies wherever. -/
theorem op_fld {P : Program} {o : Oper} {l : List (Nat × Value)} {x : Operand} {t t2 : TypeId} {i off m : Nat} {fs : Array Field} {f : Field} {ad : Addr} {w : World} (ho : o.op = .fieldAddr t x i) (hx : lk l x = .pointer (some ad)) (hu : P.underlying t = some (.struct fs)) (hf : fs[i]? = some f) (hof : f.offset = off) (hft : f.type = t2) (hs : (P.info? t2).map (·.size) = some m) (hm : m ≠ 0) :
    (execOp (lk l) o).run P w = .ok (.value (.pointer (some (ad.add off)))) w := by
  subst hof
  subst hft
  cases hq : P.info? f.type with
  | none => simp [hq] at hs
  | some i0 =>
    have hs2 : i0.size ≠ 0 := by simp [hq] at hs; omega
    unfold execOp
    simp [ho, hx, Instr.fieldAt, run_underlying hu, hf, Instr.sureAddr, fieldPlace, sizeOf, typeInfo, hq, hs2]
end Go.Proofs.Ytnkeijdpjcclcaa.Mem
-- EntL
/- Words of the law MemAdds. -/
namespace Go.Proofs.Ytnkeijdpjcclcaa.Mem
set_option linter.unusedVariables false
set_option linter.unusedSimpArgs false
open Go.Proofs.Ytnkeijdpjcclcaa.Kit Go.Proofs.Ytnkeijdpjcclcaa.Num Go.RowKit Go.Proofs.YtnkeijdpjcclcaaW.PrintWords Go.Proofs.YtnkeijdpjcclcaaW.PrintLast Go.Proofs.YtnkeijdpjcclcaaW.PrintMore NumPure Key
theorem own_lit0E {w : World} {B : Nat} (hB : B ≤ w.heap.size) : OwnK encE kE 61 (w.alloc (.cells #[] 61)) B (.slice (some ⟨w.heap.size, 0, none⟩) 0 0) [] :=
  own_cells (enc := encE) (k := kE) (e := 61) (cap := 0) (B := B) (ys := []) (R := []) encE_len (heap_alloc_new w _) (by simp) (Nat.le_refl _) (by decide) hB
theorem lr_sts {w0 w : World} {t p : Nat} {v : Value} {xs ys : List Ent} {Aa : Option Addr} {m ca : Nat} (h : LR w0 t p v xs (.slice Aa m ca) ys w) : Sts encE kE w Aa m ys := by
  obtain ⟨A', n', c', e1, _, HL', _, hs'⟩ := ownk_open encE_len h.own
  injection e1 with e1 e2 e3
  subst e1 e2 e3
  exact hs'
theorem sts_take {α : Type} {enc : α → List Value} {k : Nat} {w : World} {A : Option Addr} {n : Nat} {xs : List α} (h : Sts enc k w A n xs) (i : Nat) (hi : i ≤ n) : Sts enc k w A i (xs.take i) :=
  ⟨by rw [List.length_take, h.len, Nat.min_eq_left hi], by have := h.max; omega, fun h0 => by
    obtain ⟨ad, e, hr⟩ := h.row (by omega)
    refine ⟨ad, e, fun j x hx => ?_⟩
    rw [List.getElem?_take] at hx
    split at hx
    · exact hr j x hx
    · cases hx⟩
theorem cut_stM {P : Program} {t e : TypeId} {k : Nat} (T : StTy P t e k) {α : Type} (enc : α → List Value) (A : Option Addr) (n c lo : Nat) (hlo : lo ≤ n) (hc : n ≤ c) (kd : IntKind) (j : Int) (hj : j = (lo : Int)) :
    ∃ A' : Option Addr, (∀ W : World, (Instr.sliceAt t (.slice A n c) (some (.int kd j)) none none).run P W = .ok (.slice A' (n - lo) (c - lo)) W) ∧ ∀ (w : World) (xs : List α), Sts enc k w A n xs → Sts enc k w A' (n - lo) (xs.drop lo) := by
  refine ⟨if c = lo then A else A.map (·.add (lo * k)), fun W => ?_, fun w xs h => ⟨by rw [List.length_drop, h.len], by have := h.max; omega, fun hn => ?_⟩⟩
  · rw [hj, run_sliceAt_slice W t _ _ _ _ (sty_und T), run_slice_l W t A n c (sty_und T) kd lo (by omega) (by omega), st_sizeOf T]
    simp [sliced, Result.andThen]
  · obtain ⟨ad, rfl, hr⟩ := h.row (by omega)
    refine ⟨ad.add (lo * k), by rw [if_neg (by omega)]; rfl, fun i x hx j v hv => ?_⟩
    rw [List.getElem?_drop] at hx
    have := hr (lo + i) x hx j v hv
    rw [Addr.add_add, Addr.add_add, show lo * k + (i * k + j) = (lo + i) * k + j by rw [Nat.add_mul, Nat.add_assoc], ← Addr.add_add]
    exact this
/-- What Add tells is what the law's own list says. -/
theorem want_hit {xs : List Ent} {x : Ent} (hc : x.check = 0) (hh : hit Ent.cmp xs x = true) : addR xs x = 5 := by
  unfold addR
  rw [if_neg (by omega), if_pos hh]
theorem want_new {xs : List Ent} {x : Ent} (hc : x.check = 0) (hh : hit Ent.cmp xs x = false) : addR xs x = 0 := by
  unfold addR
  rw [if_neg (by omega), hh]
  rfl
theorem want_bad {xs : List Ent} {x : Ent} (hc : x.check ≠ 0) : addR xs x = x.check := by
  unfold addR
  rw [if_pos hc]
theorem hit_at {xs : List Ent} {x : Ent} {j : Nat} (hp : pos Ent.cmp xs x = j) : hit Ent.cmp xs x = (decide ((j : Int) < (xs.length : Int)) && ((xs.getD j e0).cmp x == 0)) := by
  unfold hit
  rw [hp]
  rcases Nat.lt_or_ge j xs.length with g | g
  · rw [List.getElem?_eq_getElem g, decide_eq_true (by omega), Bool.true_and, List.getD_eq_getElem?_getD, List.getElem?_eq_getElem g]
    rfl
  · rw [List.getElem?_eq_none g, decide_eq_false (by omega), Bool.false_and]
theorem pos_self {xs : List Ent} (h : GoodT xs) {j : Nat} {y : Ent} (hy : xs[j]? = some y) : pos Ent.cmp xs y = j := by
  have hj := (List.getElem?_eq_some_iff.1 hy).1
  refine pos_of Ent.cmp (by omega) (fun i z hi hz => good_get h hi hz hy) fun z hz => ?_
  rw [hy] at hz
  injection hz with hz
  subst hz
  rw [(Ent.cmp_zero y y).2 ⟨rfl, rfl⟩]
  decide
end Go.Proofs.Ytnkeijdpjcclcaa.Mem
-- EntM
/- Words of the law MemOrder: lists of the same changes in order are the same; two tables and a row side by side. -/
namespace Go.Proofs.Ytnkeijdpjcclcaa.Mem
set_option linter.unusedVariables false
set_option linter.unusedSimpArgs false
open Go.Proofs.Ytnkeijdpjcclcaa.Kit Go.Proofs.Ytnkeijdpjcclcaa.Num Go.RowKit Go.Proofs.YtnkeijdpjcclcaaW.PrintWords Go.Proofs.YtnkeijdpjcclcaaW.PrintLast Go.Proofs.YtnkeijdpjcclcaaW.PrintMore NumPure Key
theorem cmp_irr (x : Ent) : ¬ x.cmp x < 0 := by
  rw [(Ent.cmp_zero x x).2 ⟨rfl, rfl⟩]
  decide
theorem srt_ext : ∀ {l r : List Ent}, l.Pairwise (fun a b => a.cmp b < 0) → r.Pairwise (fun a b => a.cmp b < 0) → (∀ z, z ∈ l ↔ z ∈ r) → l = r
  | [], [], _, _, _ => rfl
  | [], b :: r, _, _, h => by
    have := (h b).2 (List.mem_cons_self ..)
    cases this
  | a :: l, [], _, _, h => by
    have := (h a).1 (List.mem_cons_self ..)
    cases this
  | a :: l, b :: r, h1, h2, h => by
    obtain ⟨p1, q1⟩ := List.pairwise_cons.1 h1
    obtain ⟨p2, q2⟩ := List.pairwise_cons.1 h2
    have e : a = b := Classical.byContradiction fun hne => by
      have ha : a ∈ r := by
        rcases List.mem_cons.1 ((h a).1 (List.mem_cons_self ..)) with e | e
        · exact absurd e hne
        · exact e
      have hb : b ∈ l := by
        rcases List.mem_cons.1 ((h b).2 (List.mem_cons_self ..)) with e | e
        · exact absurd e.symm hne
        · exact e
      exact cmp_irr a (Ent.cmp_trans a b a (p1 b hb) (p2 a ha))
    subst e
    congr 1
    refine srt_ext q1 q2 fun z => ⟨fun hz => ?_, fun hz => ?_⟩
    · rcases List.mem_cons.1 ((h z).1 (List.mem_cons_of_mem _ hz)) with rfl | e
      · exact absurd (p1 z hz) (cmp_irr z)
      · exact e
    · rcases List.mem_cons.1 ((h z).2 (List.mem_cons_of_mem _ hz)) with rfl | e
      · exact absurd (p2 z hz) (cmp_irr z)
      · exact e
theorem new_of {xs : List Ent} {x : Ent} (hc : x.check = 0) (h : ∀ z ∈ xs, z.cmp x ≠ 0) : addR xs x = 0 := by
  refine want_new hc ?_
  rw [← Bool.not_eq_true]
  intro hh
  obtain ⟨y, hy, he⟩ := hit_some hh
  exact h y (List.mem_of_getElem? hy) he
theorem new_ne {xs : List Ent} {x : Ent} (hg : GoodT xs) (h : addR xs x = 0) : x.check = 0 ∧ ∀ z ∈ xs, z.cmp x ≠ 0 := by
  have hc : x.check = 0 := Classical.byContradiction fun hc => by rw [want_bad hc] at h; exact hc h
  have hh : hit Ent.cmp xs x = false := by
    rw [← Bool.not_eq_true]
    intro hh
    rw [want_hit hc hh] at h
    cases h
  refine ⟨hc, fun z hz => ?_⟩
  rw [← List.take_append_drop (pos Ent.cmp xs x) xs] at hz
  rcases List.mem_append.1 hz with hz | hz
  · have := ins_below z hz
    omega
  · have := ins_above hg hh z hz
    have := Ent.cmp_anti x z
    omega
/-- The changes that were taken, in the order they came. -/
structure Took (xs zs : List Ent) : Prop where
  mem : ∀ z, z ∈ zs ↔ z ∈ xs
  ne : zs.Pairwise fun a b => a.cmp b ≠ 0
  len : zs.length ≤ 60
theorem took_snoc {xs zs : List Ent} {x : Ent} (hg : GoodT xs) (h : ∀ z, z ∈ zs ↔ z ∈ xs) (hn : zs.Pairwise fun a b => a.cmp b ≠ 0) (h0 : addR xs x = 0) : (∀ z, z ∈ zs ++ [x] ↔ z ∈ addL xs x) ∧ (zs ++ [x]).Pairwise fun a b => a.cmp b ≠ 0 := by
  refine ⟨fun z => ?_, ?_⟩
  · rw [List.mem_append, List.mem_singleton, mem_add, h z]
    exact ⟨fun e => e.elim .inr fun e => .inl ⟨h0, e⟩, fun e => e.elim (fun e => .inr e.2) .inl⟩
  · rw [List.pairwise_append]
    refine ⟨hn, List.pairwise_singleton _ _, fun a ha b hb => ?_⟩
    rw [List.mem_singleton.1 hb]
    exact (new_ne hg h0).2 a ((h a).1 ha)
theorem keep_add {xs : List Ent} {x : Ent} (h0 : addR xs x ≠ 0) : addL xs x = xs := by
  unfold addL
  rw [if_neg h0]
theorem back_new {zs ys : List Ent} {i : Nat} {x : Ent} (hx : zs[i]? = some x) (hc : x.check = 0) (hn : zs.Pairwise fun a b => a.cmp b ≠ 0) (hm : ∀ z, z ∈ ys ↔ z ∈ zs.drop (i + 1)) : addR ys x = 0 := by
  refine new_of hc fun z hz => ?_
  obtain ⟨j, hj, he⟩ := List.getElem_of_mem ((hm z).1 hz)
  rw [List.getElem_drop] at he
  rw [List.length_drop] at hj
  obtain ⟨hi, hxi⟩ := List.getElem?_eq_some_iff.1 hx
  have := List.pairwise_iff_getElem.1 hn i (i + 1 + j) hi (by omega) (by omega)
  rw [hxi, he] at this
  have := Ent.cmp_anti x z
  omega
theorem back_mem {zs ys : List Ent} {i : Nat} {x : Ent} (hx : zs[i]? = some x) (h0 : addR ys x = 0) (hm : ∀ z, z ∈ ys ↔ z ∈ zs.drop (i + 1)) : ∀ z, z ∈ addL ys x ↔ z ∈ zs.drop i := fun z => by
  obtain ⟨hi, hxi⟩ := List.getElem?_eq_some_iff.1 hx
  rw [List.drop_eq_getElem_cons hi, hxi, List.mem_cons, mem_add, hm z]
  exact ⟨fun e => e.imp (fun e => e.2) id, fun e => e.imp (fun e => ⟨h0, e⟩) id⟩
/-- Two tables and a row, since a world. -/
structure L2 (w0 : World) (t p : Nat) (v : Value) (xs : List Ent) (t2 p2 : Nat) (v2 : Value) (ys : List Ent) (va : Value) (zs : List Ent) (w : World) : Prop where
  ra : LR w0 t p v xs va zs w
  tb : TB w w0.heap.size t2 p2 v2 ys
  ab : ∀ k, InT t p v k → ¬ InT t2 p2 v2 k
  bv : ∀ k, InT t2 p2 v2 k → va.ownBlock ≠ some k
section
variable {w0 w W : World} {t p t2 p2 : Nat} {v v' v2 v2' va va' : Value} {xs xs' ys ys' zs zs' : List Ent}
theorem tb_move {w W : World} {B t p : Nat} {v : Value} {xs : List Ent} (h : TB w B t p v xs) (hm : ∀ k, InT t p v k → W.heap[k]? = w.heap[k]?) : TB W B t p v xs :=
  ⟨by rw [hm t (.inl rfl)]; exact h.box, ⟨by rw [hm p (.inr (.inl rfl))]; exact h.so.box, ownk_move h.so.own fun j hj => hm j (.inr (.inr hj)), h.so.ne, h.so.base⟩, h.tp, h.tv, h.base⟩
theorem l2_below (h : L2 w0 t p v xs t2 p2 v2 ys va zs w) (hb : Below w.heap.size w W) : L2 w0 t p v xs t2 p2 v2 ys va zs W := ⟨lr_below h.ra hb, tb_below h.tb hb, h.ab, h.bv⟩
theorem l2_addA (h : L2 w0 t p v xs t2 p2 v2 ys va zs w) (hs : TB W w0.heap.size t p v' xs') (hg : Gr3 w W t p v.ownBlock) (ho : Goes w v v') : L2 w0 t p v' xs' t2 p2 v2 ys va zs W :=
  ⟨lr_add h.ra hs hg ho, tb_move h.tb fun k hk => gr3_at hg (int_lt h.tb hk) fun hi => h.ab k hi hk, fun k hk hk2 => by
    rcases int_goes ho hk with h1 | h1
    · exact h.ab k h1 hk2
    · have := int_lt h.tb hk2
      omega, h.bv⟩
theorem l2_addB (h : L2 w0 t p v xs t2 p2 v2 ys va zs w) (hs : TB W w0.heap.size t2 p2 v2' ys') (hg : Gr3 w W t2 p2 v2.ownBlock) (ho : Goes w v2 v2') : L2 w0 t p v xs t2 p2 v2' ys' va zs W := by
  have hbel : Below w0.heap.size w0 W := (lt_add (LT.mk h.ra.lt.bel h.tb) hs hg).bel
  refine ⟨⟨⟨hbel, tb_move h.ra.lt.tb fun k hk => gr3_at hg (int_lt h.ra.lt.tb hk) (h.ab k hk)⟩, ownk_move h.ra.own fun j hj => gr3_at hg (ownk_lt h.ra.own j hj) fun hi => h.bv j hi hj, h.ra.ap⟩, hs, fun k hk hk2 => ?_, fun k hk hv => ?_⟩
  · rcases int_goes ho hk2 with h1 | h1
    · exact h.ab k hk h1
    · have := int_lt h.ra.lt.tb hk
      omega
  · rcases int_goes ho hk with h1 | h1
    · exact h.bv k h1 hv
    · have := ownk_lt h.ra.own k hv
      omega
theorem l2_grow (h : L2 w0 t p v xs t2 p2 v2 ys va zs w) (ho : OwnK encE kE 61 W w0.heap.size va' zs') (hf : Fr w W va va') : L2 w0 t p v xs t2 p2 v2 ys va' zs' W := by
  have hkeep : ∀ k, k < w.heap.size → va.ownBlock ≠ some k → W.heap[k]? = w.heap[k]? := fun k hk hn => hf.grown.block k hk (Ne.symm hn)
  have hnew : ∀ k, va'.ownBlock = some k → va.ownBlock = some k ∨ w.heap.size ≤ k := fun k hk => by
    rcases hf.at_ with g | ⟨b, g, hb⟩
    · exact .inl (by rw [← g]; exact hk)
    · rw [g] at hk
      injection hk with hk
      exact .inr (by omega)
  refine ⟨⟨⟨h.ra.lt.bel.grown hf.grown h.ra.lt.bel.size (ownk_base h.ra.own), tb_move h.ra.lt.tb fun k hk => hkeep k (int_lt h.ra.lt.tb hk) (h.ra.ap k hk)⟩, ho, fun k hk hv => ?_⟩, tb_move h.tb fun k hk => hkeep k (int_lt h.tb hk) (h.bv k hk), h.ab, fun k hk hv => ?_⟩
  · rcases hnew k hv with g | g
    · exact h.ra.ap k hk g
    · have := int_lt h.ra.lt.tb hk
      omega
  · rcases hnew k hv with g | g
    · exact h.bv k hk g
    · have := int_lt h.tb hk
      omega
theorem l2_new (h : LT w0 t p v xs w) (hb : Below w.heap.size w W) (hs : TB W w.heap.size t2 p2 v2 ys) {W' : World} (hb2 : Below W.heap.size W W') (ho : OwnK encE kE 61 W' W.heap.size va zs) : L2 w0 t p v xs t2 p2 v2 ys va zs W' :=
  ⟨lr_new (lt_below h hb) hb2 ho, ⟨by rw [hb2.block t2 (mk_lt hs.box)]; exact hs.box, ⟨by rw [hb2.block p2 (mk_lt hs.so.box)]; exact hs.so.box, ownk_lower (ownk_below hs.so.own hb2) h.bel.size, hs.so.ne, Nat.le_trans h.bel.size hs.so.base⟩, hs.tp, hs.tv, Nat.le_trans h.bel.size hs.base⟩,
   fun k hk hk2 => by
    have h1 := int_lt h.tb hk
    have h2 := int_base hs hk2
    omega, fun k hk hv => by
    have h1 := int_lt hs hk
    have h2 := ownk_base ho k hv
    omega⟩
end
end Go.Proofs.Ytnkeijdpjcclcaa.Mem
-- MemOrder
/- The walk of the law MemOrder: the order in which changes are added is nothing to what is found. -/
namespace Go.Proofs.Ytnkeijdpjcclcaa.Mem
set_option linter.unusedVariables false
set_option linter.unusedSimpArgs false
open Go.Proofs.Ytnkeijdpjcclcaa.Kit Go.Proofs.Ytnkeijdpjcclcaa.Num Go.RowKit Go.Proofs.YtnkeijdpjcclcaaW.PrintWords Go.Proofs.YtnkeijdpjcclcaaW.PrintLast Go.Proofs.YtnkeijdpjcclcaaW.PrintMore NumPure Key
theorem reg_11_12 : RegOk (opsOf Try.f11 12) [[], [], [1], [0, 1, 2], [0, 1, 2, 3]] [3, 4] [some 42, some 43, some 44, some 45, some 9] := regOk (by kernel_rfl)
theorem reg_11_23 : RegOk (opsOf Try.f11 23) [[], [], [0, 1], [0, 1, 2], [0, 1, 2, 3], [0, 1, 2, 3], [0, 1, 2, 3, 4, 5], [0, 1, 2, 3, 4, 5, 6], [0, 1, 2, 3, 4, 5, 6, 7], [0, 1, 2, 3, 4, 5, 6, 7, 8], [0, 1, 2, 3, 4, 5, 6, 7, 8, 9], [0, 1, 2, 3, 4, 5, 6, 7, 8], [0, 1, 2, 3, 4, 5, 6, 7, 8, 11], [0, 1, 2, 3, 4, 5, 6, 7, 8, 9, 10, 11, 12], [0, 1, 2, 3, 4, 5, 6, 7, 8, 9, 10, 11, 12, 13], [0, 1, 2, 3, 4, 5, 6, 7, 8, 9, 10, 11, 12, 13, 14], [0, 1, 2, 3, 4, 5, 6, 7, 8, 9, 10, 11, 12, 13, 14, 15], [0, 1, 2, 3, 4, 5, 6, 7, 8, 9, 10, 11, 12, 13, 14, 15, 16], [0, 1, 2, 3, 4, 5, 6, 7, 8, 9, 10, 11, 12, 13, 14, 15], [0, 1, 2, 3, 4, 5, 6, 7, 8, 9, 10, 11, 12, 13, 14, 15, 16, 17, 18], [0, 1, 2, 3, 4, 5, 6, 7, 8, 9, 10, 11, 12, 13, 14, 15, 16, 17, 18, 19], [0, 1, 2, 3, 4, 5, 6, 7, 8, 9, 10, 11, 12, 13, 14, 15, 16, 17, 18, 19, 20]] [] [some 79, some 80, some 81, some 82, some 83, some 84, some 85, some 86, some 87, some 88, some 89, some 90, some 91, some 92, some 93, some 94, some 95, some 96, some 97, some 98, some 99, some 100] := regOk (by kernel_rfl)
theorem reg_11_28 : RegOk (opsOf Try.f11 28) [[], [], [0, 1], [0, 1, 2], [], [], [4, 5], [4, 5, 6], [0, 1, 2, 3, 4, 5, 6, 7]] [] [some 106, some 107, some 108, some 109, some 110, some 111, some 112, some 113, some 114] := regOk (by kernel_rfl)
set_option maxRecDepth 20000 in
set_option maxHeartbeats 12800000 in
theorem memorder_any (A : Option Addr) (n c : Nat) (list : List Ent) (name : ByteArray) (seq : Nat) (w : World) (hl : Sts encE kE w A n list) (hnc : n ≤ c) (hok : ∀ z ∈ list, Ent.ok z) (hx : (eK name seq).ok) :
    Calls Try.prog 11 #[.slice A n c, .string name, .int .u64 (seq : Nat)] w fun e w' => e = .returned (.bool true) ∧ Below w.heap.size w w' := by
  have HLEN := Lib.hid hl.len
  have hmx := hl.max
  have HOK := Lib.hid hok
  have HXO := Lib.hid hx
  have HS0 := Lib.hid hl
  clear hl hok hx
  go_enter Try.func11, Try.ntmps11
  go_wp2_with fail
  refine (headT_any w).mono ?_
  rintro e w1 ⟨rfl, hb1⟩
  have HA1 := Lib.hid hb1
  have HS1 := Lib.hid (sts_below HS0.out hb1)
  clear hb1 HS0
  go_wp2_with fail
  refine (big_any A n c list w1 HS1.out).mono ?_
  rintro e w2 ⟨B, rfl, hb2, himp⟩
  have HA2 := Lib.hid (below_then HA1.out HA1.out.size hb2)
  have HS2 := Lib.hid (sts_below HS1.out hb2)
  have HIMP := Lib.hid himp
  clear hb2 himp HA1 HS1
  cases B with
  | true =>
    go_wp2_with fail
    go_ret
    exact ⟨rfl, HA2.out⟩
  | false =>
    obtain ⟨hn60, _⟩ := HIMP.out rfl
    by_cases g1 : 300 < name.size
    · have t1 : decide ((300 : Int) < (name.size : Int)) = true := decide_eq_true (by omega)
      go_wp2_with fail
      go_ret
      exact ⟨rfl, HA2.out⟩
    have t1 : decide ((300 : Int) < (name.size : Int)) = false := decide_eq_false (by omega)
    clear g1 HIMP
    go_wp2_with fail
    refine (newT_any w2).mono ?_
    rintro e w3 ⟨t, p, rfl, htb, hb3⟩
    have HL3 := Lib.hid (LT.mk hb3 htb)
    clear htb hb3 t1
    go_wp2_with fail
    refine (newT_any w3).mono ?_
    rintro e w4 ⟨t2, p2, rfl, htb, hb4⟩
    have HR4 := Lib.hid (l2_new HL3.out hb4 htb (below_alloc (Below.refl w4.heap.size w4) (.cells #[] 61)) (own_lit0E (w := w4) (Nat.le_refl w4.heap.size)))
    clear htb hb4 HL3
    go_wp2_with fail
    go_loopw [9, 34] (fun va iv wr => ∃ (k : Nat) (v : Value) (zs : List Ent), k ≤ n ∧ iv = .int .i64 k ∧ zs.length ≤ k ∧ Hid ((∀ z, z ∈ zs ↔ z ∈ accL (list.take k)) ∧ zs.Pairwise fun a b => a.cmp b ≠ 0) ∧ Hid (L2 w2 t p v (accL (list.take k)) t2 p2 (.slice none 0 0) [] va zs wr)) (fun _ iv _ => n - (intOf iv).toNat)
    case atStart => exact ⟨0, _, [], by omega, rfl, Nat.le_refl _, Lib.hid ⟨fun z => Iff.rfl, List.Pairwise.nil⟩, HR4⟩
    case round =>
      obtain ⟨k, v, zs, hkn, rfl, hzk, HT, HLR⟩ := hrel
      have hgood : GoodT (accL (list.take k)) := acc_good fun z hz => HOK.out z (List.mem_of_mem_take hz)
      have hal : (accL (list.take k)).length ≤ k := by
        have := acc_length (list.take k)
        rw [List.length_take] at this
        omega
      have HGOOD := Lib.hid hgood
      obtain ⟨Aa, m, ca, eva, hmc, HLm, hmm, _⟩ := ownk_open encE_len HLR.out.ra.own
      subst eva
      have hlm := HLm.out
      by_cases hlt : k < n
      · have t1 : decide ((k : Int) < (n : Int)) = true := decide_eq_true (by omega)
        obtain ⟨ad, rfl, hc1⟩ := (sts_below HS2.out HLR.out.ra.lt.bel).row (by omega)
        obtain ⟨x, hp⟩ : ∃ p : Ent, list[k]? = some p := ⟨_, List.getElem?_eq_getElem (by rw [HLEN.out]; exact hlt)⟩
        have hcell := hc1 k _ hp
        have HTK : Hid (list.take (k + 1) = list.take k ++ [x]) := Lib.hid (by
          rw [List.take_succ_eq_append_getElem (by rw [HLEN.out]; exact hlt)]
          rw [List.getElem?_eq_getElem (by rw [HLEN.out]; exact hlt)] at hp
          injection hp with hp
          rw [hp])
        have HXO := Lib.hid (HOK.out x (List.mem_of_getElem? hp))
        clear hc1 hp hgood
        go_upto_region 11 with (first
          | (refine wpList_index_st rfl 59 _ _ rfl stEn rfl rfl rfl hlt ?_)
          | (refine wpList_load_at rfl 61 _ rfl _ x.cells rfl hcell Try.underlying61 rfl info61 ?_)
          | (refine wpList_store_box rfl 61 (.tmp 11) (.tmp 37) rfl wr.heap.size x.cells rfl rfl (heap_alloc_new wr (.cells e0.cells.toArray 61)) rfl info61 rfl ?_; intro w5 hs5; have HS5 := Lib.hid hs5; clear hs5))
        have hb5 : Below wr.heap.size wr w5 := HS5.out.then_ (below_alloc (Below.refl _ _) _) (Nat.le_refl _)
        have HX5 := Lib.hid HS5.out.at_
        have HL5 := Lib.hid (l2_below HLR.out hb5)
        have hby : ∀ j, InT t p v j → j < wr.heap.size := fun j hj => int_lt HLR.out.ra.lt.tb hj
        have hbva : ∀ j, (Value.slice Aa m ca).ownBlock = some j → j < wr.heap.size := ownk_lt HLR.out.ra.own
        clear HS5 hcell hb5 HLR
        generalize wr.heap.size = bx at HX5 hby hbva ⊢
        obtain ⟨xs, hxs⟩ : ∃ xs, accL (list.take k) = xs := ⟨_, rfl⟩
        have hacc : accL (list.take (k + 1)) = addL xs x := by rw [HTK.out, acc_snoc, hxs]
        have HACC := Lib.hid hacc
        rw [hxs] at hal HGOOD HL5 HT
        clear hxs hacc HTK
        have CA := Lib.hid (addT_any w5 x HL5.out.ra.lt.tb HL5.out.ra.lt.bel.size (by omega) HGOOD.out HXO.out)
        obtain ⟨R, hR⟩ : ∃ R, addR xs x = R := ⟨_, rfl⟩
        have HR := Lib.hid hR
        rw [hR] at CA
        clear hR
        go_wp2_with (first | (refine wpList_load_box rfl 61 (.tmp 11) rfl bx x.cells rfl HX5.out Try.underlying61 rfl info61 ?_) | fail)
        refine CA.out.mono ?_
        rintro e w6 ⟨rfl, v6, k1, k2, k3⟩
        have HL6 := Lib.hid (l2_addA HL5.out k1 k2 k3)
        have HX6 := Lib.hid (gr3_box k2 HX5.out (fun h => by have := hby bx h; omega))
        clear k1 k2 k3 CA HL5 HX5
        by_cases hr0 : R = 0
        · subst hr0
          have HT2 := Lib.hid (took_snoc HGOOD.out HT.out.1 HT.out.2 HR.out)
          clear HT
          go_upto_region 12 with fail
          refine plain_ (fun _ => True) (fun W => L2 w2 t p v6 (addL xs x) t2 p2 (.slice none 0 0) [] (.slice Aa m ca) zs W ∧ W.heap[bx]? = some (.cells x.cells.toArray 61 (0, 0))) reg_11_12 rfl (fun _ _ _ _ => trivial) (fun _ _ h k => ⟨l2_below h.1 k, box_stays h.2 k⟩) trivial ⟨HL6.out, HX6.out⟩ ?_
          refine w_move (.inl rfl) (fun vs w hK => ⟨wants_none rfl, rho_out rfl rfl⟩) ?_
          refine w_anyJ (.val x.ag) (by decide) (fun vs wq hI hJ hK => ?_) ?_
          · have hA := (hJ (by decide)).2
            exact ob_run [(11, .pointer (some ⟨bx, 0, none⟩))] (wants_none rfl) ⟨rho_out rfl rfl, trivial⟩ rfl (run_load_op rfl rfl (load_ent hA)) ⟨Below.refl _ _, rfl⟩
          refine w_any (FW.of (fun v' W => ∃ b, v' = .slice (some ⟨b, 0, none⟩) 1 1 ∧ W.heap[b]? = some (.cells (encE x).toArray 61 (0, 0))) (fun _ _ _ h hb => h.elim fun b h => ⟨b, h.1, box_stays h.2 hb⟩)) (by decide) (fun vs wq hI hK => ?_) ?_
          · exact ob_run [(43, x.ag)] (wants_none rfl) ⟨rho_in rfl (fv (hK 1 (memE rfl))), trivial⟩ rfl (op_lit1v (v := x.ag) (cs := encE x) etE (by decide) rfl rfl (fillE x)) ⟨below_alloc (Below.refl _ _) _, _, rfl, heap_alloc_new _ _⟩
          refine w_lin (FW.of (fun v' W => L2 w2 t p v6 (addL xs x) t2 p2 (.slice none 0 0) [] v' (zs ++ [x]) W) (fun _ _ _ h hb => l2_below h hb)) (by decide) (fun vs wq hI hJ hK => ?_) ?_
          · obtain ⟨hA, _⟩ := hJ (by decide) (by decide)
            obtain ⟨b2, e2, hc2⟩ : ∃ b, vs 2 = .slice (some ⟨b, 0, none⟩) 1 1 ∧ wq.heap[b]? = some (.cells (encE x).toArray 61 (0, 0)) := hK 2 (memE rfl)
            obtain ⟨v1, w9, hrun, k1, k2⟩ := ownk_run (ys := [x]) (c := 1) encE_len encE_one etE 59 hA.ra.own (sts_one encE_len rfl hc2) hA.ra.lt.bel.size (by omega) (by omega)
            exact ob_run [(42, _), (44, .slice (some ⟨b2, 0, none⟩) 1 1)] (wants_none rfl) ⟨rho_in rfl (fv (hK 0 (memE rfl))), rho_in rfl e2, trivial⟩ rfl (run_append_op rfl rfl rfl hrun) ⟨trivial, l2_grow hA k1 k2⟩
          refine w_lin (FW.of (fun v' W => L2 w2 t p v6 (addL xs x) t2 p2 (.slice none 0 0) [] v' (zs ++ [x]) W) (fun _ _ _ h hb => l2_below h hb)) (by decide) (fun vs wq hI hJ hK => ?_) ?_
          · exact ob_copy (.inr rfl) (wants_none rfl) (rho_in rfl rfl) ⟨trivial, hK 3 (memE rfl)⟩
          refine w_end rfl rfl rfl (fun vs wq hI hF => ?_)
          simp only [List.reverse_cons, List.reverse_nil, List.nil_append, List.cons_append, finL_val, finL_of, finL_any, finL_app, finL_new, finL_gr, finL_row, finL_box, finL_nil, Act.put, List.setIfInBounds_toArray, List.set_cons_zero, List.set_cons_succ, Nat.reduceAdd]
          have h6 : L2 w2 t p v6 (addL xs x) t2 p2 (.slice none 0 0) [] (vs 4) (zs ++ [x]) wq := hF 4 (by decide) rfl
          have HL7 := Lib.hid h6
          clear hF hI h6 HL6 HX6
          generalize vs 4 = vz at HL7 ⊢
          go_wp2_with fail
          go_roundw
          case rel => exact ⟨k + 1, v6, zs ++ [x], by omega, by go_num, by rw [List.length_append, List.length_singleton]; omega, Lib.hid (by rw [HACC.out]; exact HT2.out), Lib.hid (by rw [HACC.out]; exact HL7.out)⟩
          case measure => simp [intOf]; omega
        · have hk := keep_add (xs := xs) (x := x) (by rw [HR.out]; exact hr0)
          have t3 : (((R : Nat) : Int) == 0) = false := by simp only [beq_eq_false_iff_ne, ne_eq]; omega
          rw [hk] at HACC HL6
          clear hk HX6
          go_wp2_with fail
          go_roundw
          case rel => exact ⟨k + 1, v6, zs, by omega, by go_num, by omega, Lib.hid (by rw [HACC.out]; exact HT.out), Lib.hid (by rw [HACC.out]; exact HL6.out)⟩
          case measure => simp [intOf]; omega
      · obtain rfl : k = n := by omega
        have t1 : decide ((k : Int) < (k : Int)) = false := by simp
        have hk : list.take k = list := by rw [← HLEN.out, List.take_length]
        rw [hk] at HLR HGOOD hal HT
        clear hk hgood
        generalize accL list = xs at *
        have hw1 : IntKind.i64.wrap ((m : Int) - 1) = (m : Int) - 1 := i64_id (by omega) (by omega)
        go_wp2_with fail
        go_loopw [12] (fun iv wr => ∃ (i : Nat) (v2 : Value) (ys : List Ent), iv = .int .i64 ((i : Int) - 1) ∧ ys.length + i = m ∧ Hid (GoodT ys ∧ ∀ z, z ∈ ys ↔ z ∈ zs.drop i) ∧ Hid (L2 w2 t p v xs t2 p2 v2 ys (.slice Aa m ca) zs wr)) (fun iv _ => (intOf iv + 1).toNat)
        case atStart => exact ⟨m, _, [], rfl, by simp, Lib.hid ⟨good_nil, fun z => by rw [← hlm, List.drop_length]⟩, HLR⟩
        case round =>
          obtain ⟨i, v2, ys, rfl, hyl, HY, HL2⟩ := hrel
          rcases Nat.eq_zero_or_pos i with h0 | hpos
          · subst h0
            have hyx : ys = xs := srt_ext HY.out.1.srt HGOOD.out.srt fun z => by
              rw [HY.out.2 z, List.drop_zero]
              exact HT.out.1 z
            subst hyx
            have t1 : decide (((0 : Nat) : Int) - 1 ≥ 0) = false := by decide
            clear HY HT
            rw [show (((0 : Nat) : Int) - 1) = -1 from rfl]
            have hyx : ys.length = m := by omega
            obtain ⟨⟨y, ok⟩, hP⟩ : ∃ P, getL ys name seq = P := ⟨_, rfl⟩
            have CG := Lib.hid (fun W (h : L2 w2 t p v ys t2 p2 v2 ys (.slice Aa m ca) zs W) => getT_any W name seq h.ra.lt.tb (by omega) HGOOD.out HXO.out)
            have CH := Lib.hid (fun W (h : L2 w2 t p v ys t2 p2 v2 ys (.slice Aa m ca) zs W) => getT_any W name seq h.tb (by omega) HGOOD.out HXO.out)
            simp only [hP] at CG CH
            clear hP HLR
            go_wp2_with fail
            refine (CG.out _ HL2.out).mono ?_
            rintro e w5 ⟨rfl, hb5⟩
            have HL5 := Lib.hid (l2_below HL2.out hb5)
            clear hb5 HL2 CG
            go_upto_region 20 with (first
              | (refine wpList_store_box rfl 61 (.tmp 13) (.tmp 66) rfl w5.heap.size y.cells rfl rfl (heap_alloc_new w5 (.cells e0.cells.toArray 61)) rfl info61 rfl ?_; intro w6 hs6; have HS6 := Lib.hid hs6; clear hs6)
              | fail)
            have hb6 : Below w5.heap.size w5 w6 := HS6.out.then_ (below_alloc (Below.refl _ _) _) (Nat.le_refl _)
            have HX6 := Lib.hid HS6.out.at_
            have HL6 := Lib.hid (l2_below HL5.out hb6)
            generalize w5.heap.size = b5 at HX6 ⊢
            clear hb6 HS6 HL5
            go_wp2_with fail
            refine (CH.out _ HL6.out).mono ?_
            rintro e w7 ⟨rfl, hb7⟩
            have HL7 := Lib.hid (l2_below HL6.out hb7)
            have HX7 := Lib.hid (box_stays HX6.out hb7)
            clear hb7 HL6 HX6 CH
            go_upto_region 21 with (first
              | (refine wpList_store_box rfl 61 (.tmp 15) (.tmp 73) rfl w7.heap.size y.cells rfl rfl (heap_alloc_new w7 (.cells e0.cells.toArray 61)) rfl info61 rfl ?_; intro w8 hs8; have HS8 := Lib.hid hs8; clear hs8)
              | fail)
            have hb8 : Below w7.heap.size w7 w8 := HS8.out.then_ (below_alloc (Below.refl _ _) _) (Nat.le_refl _)
            have HY8 := Lib.hid HS8.out.at_
            have HX8 := Lib.hid (box_stays HX7.out hb8)
            have HL8 := Lib.hid (l2_below HL7.out hb8)
            generalize w7.heap.size = b7 at HY8 ⊢
            clear hb8 HS8 HL7 HX7
            go_wp2_with fail
            refine (allT_any w8 HL8.out.ra.lt.tb (by omega)).mono ?_
            rintro e w9 ⟨vp, rfl, hvp, hb9⟩
            have HL9 := Lib.hid (l2_below HL8.out hb9)
            have HX9 := Lib.hid (box_stays HX8.out hb9)
            have HY9 := Lib.hid (box_stays HY8.out hb9)
            obtain ⟨Ap, mp, cp, rfl, _, HLp, _, hsp⟩ := ownk_open encE_len hvp
            have HSP := Lib.hid hsp
            obtain rfl : mp = m := by have := HLp.out; omega
            clear hb9 hvp hsp HL8 HX8 HY8
            go_wp2_with fail
            refine (allT_any w9 HL9.out.tb (by omega)).mono ?_
            rintro e wa ⟨vq, rfl, hvq, hba⟩
            have HLA := Lib.hid (l2_below HL9.out hba)
            have HXA := Lib.hid (box_stays HX9.out hba)
            have HYA := Lib.hid (box_stays HY9.out hba)
            have HSPA := Lib.hid (sts_below HSP.out hba)
            obtain ⟨Aq, mq, cq, rfl, _, HLq, _, hsq⟩ := ownk_open encE_len hvq
            have HSQ := Lib.hid hsq
            obtain rfl : mq = mp := by have := HLq.out; omega
            clear hba hvq hsq HL9 HX9 HY9 HSP
            have CS := Lib.hid (fun W (hW : Below wa.heap.size wa W) => sizeT_any W (l2_below HLA.out hW).ra.lt.tb)
            have CR := Lib.hid (fun W (hW : Below wa.heap.size wa W) => sizeT_any W (l2_below HLA.out hW).tb)
            generalize szE ys = sz at CS CR
            go_upto_region 23 with fail
            refine plain_ (fun W => Below wa.heap.size wa W) (fun _ => True) reg_11_23 rfl inv0 (fun _ _ _ _ => trivial) (Below.refl _ _) trivial ?_
            refine w_move (.inl rfl) (fun vs w hK => ⟨wants_none rfl, rho_out rfl rfl⟩) ?_
            refine w_move (.inl rfl) (fun vs w hK => ⟨wants_none rfl, rho_out rfl rfl⟩) ?_
            refine w_val [(79, _), (80, _)] (.bool false) (fun vs w hK => ⟨wants_none rfl, rho_in rfl (fv (hK 0 (memE rfl))), rho_in rfl (fv (hK 1 (memE rfl))), trivial⟩) rfl (fun wq hI => by exact run_bool_neq rfl rfl Try.underlying4 rfl (by simp)) ?_
            refine w_move (.inl rfl) (fun vs w hK => ⟨wants_none rfl, rho_in rfl (fv (hK 2 (memE rfl)))⟩) ?_
            refine w_valG [(13, _)] (y.ag) (fun vs w hK => wantsF rfl (fv (hK 3 (memE rfl)))) (fun hG vs w hK => ⟨(rho_out rfl rfl), trivial⟩) rfl (fun hG wq hI => by exact run_load_op rfl rfl (load_ent (box_stays HXA.out hI))) ?_
            refine w_valG [(15, _)] (y.ag) (fun vs w hK => wantsF rfl (fv (hK 3 (memE rfl)))) (fun hG vs w hK => ⟨(rho_out rfl rfl), trivial⟩) rfl (fun hG wq hI => by exact run_load_op rfl rfl (load_ent (box_stays HYA.out hI))) ?_
            refine w_valG [(83, _), (84, _)] (.bool false) (fun vs w hK => wantsF rfl (fv (hK 3 (memE rfl)))) (fun hG vs w hK => ⟨(rho_in rfl (fvg (hK 4 (memE rfl)) hG)), (rho_in rfl (fvg (hK 5 (memE rfl)) hG)), trivial⟩) rfl (fun hG wq hI => by exact op_ent_neq rfl rfl rfl (by rw [Ent.eqb_self]; rfl)) ?_
            refine w_or rfl (fun vs w hK => wants_none rfl) (fun vs w hK => (rho_in rfl (fv (hK 3 (memE rfl))))) (fun hB vs w hK => (rho_in rfl (fvg (hK 6 (memE rfl)) (gnot hB)))) ?_
            refine w_move (.inl rfl) (fun vs w hK => ⟨wants_none rfl, rho_in rfl (fv (hK 7 (memE rfl)))⟩) ?_
            refine w_moveG (.inl rfl) (fun vs w hK => wantsF rfl (fv (hK 8 (memE rfl)))) (fun hG vs w hK => (rho_out rfl rfl)) ?_
            refine w_valG [(88, _)] (_) (fun vs w hK => wantsF rfl (fv (hK 8 (memE rfl)))) (fun hG vs w hK => ⟨(rho_in rfl (fvg (hK 9 (memE rfl)) hG)), trivial⟩) rfl (fun hG wq hI => by exact run_len_sl rfl Try.underlying59 rfl rfl) ?_
            refine w_moveG (.inl rfl) (fun vs w hK => wantsF rfl (fv (hK 8 (memE rfl)))) (fun hG vs w hK => (rho_out rfl rfl)) ?_
            refine w_valG [(90, _)] (_) (fun vs w hK => wantsF rfl (fv (hK 8 (memE rfl)))) (fun hG vs w hK => ⟨(rho_in rfl (fvg (hK 11 (memE rfl)) hG)), trivial⟩) rfl (fun hG wq hI => by exact run_len_sl rfl Try.underlying59 rfl rfl) ?_
            refine w_valG [(89, _), (91, _)] (.bool false) (fun vs w hK => wantsF rfl (fv (hK 8 (memE rfl)))) (fun hG vs w hK => ⟨(rho_in rfl (fvg (hK 10 (memE rfl)) hG)), (rho_in rfl (fvg (hK 12 (memE rfl)) hG)), trivial⟩) rfl (fun hG wq hI => by exact run_int_neq (r := false) rfl rfl rfl (by simp)) ?_
            refine w_or rfl (fun vs w hK => wants_none rfl) (fun vs w hK => (rho_in rfl (fv (hK 8 (memE rfl))))) (fun hB vs w hK => (rho_in rfl (fvg (hK 13 (memE rfl)) (gnot hB)))) ?_
            refine w_move (.inl rfl) (fun vs w hK => ⟨wants_none rfl, rho_in rfl (fv (hK 14 (memE rfl)))⟩) ?_
            refine w_moveG (.inl rfl) (fun vs w hK => wantsF rfl (fv (hK 15 (memE rfl)))) (fun hG vs w hK => (rho_out rfl rfl)) ?_
            refine w_callG [(95, _)] _ _ (by decide) (fun vs w hK => wantsF rfl (fv (hK 15 (memE rfl)))) (fun hG vs w hK => ⟨(rho_in rfl (fvg (hK 16 (memE rfl)) hG)), trivial⟩) rfl rfl Try.func42 (by kernel_rfl) rfl (fun hG wq hI => CS.out wq hI) (margs rfl) ?_
            refine w_moveG (.inl rfl) (fun vs w hK => wantsF rfl (fv (hK 15 (memE rfl)))) (fun hG vs w hK => (rho_out rfl rfl)) ?_
            refine w_callG [(97, _)] _ _ (by decide) (fun vs w hK => wantsF rfl (fv (hK 15 (memE rfl)))) (fun hG vs w hK => ⟨(rho_in rfl (fvg (hK 18 (memE rfl)) hG)), trivial⟩) rfl rfl Try.func42 (by kernel_rfl) rfl (fun hG wq hI => CR.out wq hI) (margs rfl) ?_
            refine w_valG [(96, _), (98, _)] (.bool false) (fun vs w hK => wantsF rfl (fv (hK 15 (memE rfl)))) (fun hG vs w hK => ⟨(rho_in rfl (fvg (hK 17 (memE rfl)) hG)), (rho_in rfl (fvg (hK 19 (memE rfl)) hG)), trivial⟩) rfl (fun hG wq hI => by exact run_int_neq (r := false) rfl rfl rfl (by simp)) ?_
            refine w_or rfl (fun vs w hK => wants_none rfl) (fun vs w hK => (rho_in rfl (fv (hK 15 (memE rfl))))) (fun hB vs w hK => (rho_in rfl (fvg (hK 20 (memE rfl)) (gnot hB)))) ?_
            refine w_as (c' := .bool false) (congrArg Value.bool (by simp)) ?_
            refine w_endM [false, false, false, false, false, false, false, false, false, false, false, false, false, false, false, false, false, false, false, false, false, true] rfl rfl rfl (fun vs wq hI hF => ?_)
            simp only [List.reverse_cons, List.reverse_nil, List.nil_append, List.cons_append, finL_val, finL_of, finL_any, finL_app, finL_new, finL_gr, finL_row, finL_box, finL_nil, Act.put, List.setIfInBounds_toArray, List.set_cons_zero, List.set_cons_succ, Nat.reduceAdd, maskF, finL_imp, Bool.not_false, Bool.not_true, Bool.true_and, Bool.false_and]
            have HWB := Lib.hid (below_then HA2.out HA2.out.size (below_then HLA.out.ra.lt.bel HLA.out.ra.lt.bel.size hI))
            have HSPB := Lib.hid (sts_below HSPA.out hI)
            have HSQB := Lib.hid (sts_below HSQ.out hI)
            clear hI hF HLA HXA HYA HSPA HSQ CS CR
            obtain ⟨wb, rfl⟩ : ∃ wb : World, wb = wq := ⟨_, rfl⟩
            go_wp2_with fail
            go_loopw [103] (fun iv wr => ∃ j : Nat, j ≤ mq ∧ iv = .int .i64 j ∧ Hid (Below wb.heap.size wb wr)) (fun iv _ => mq - (intOf iv).toNat)
            case atStart => exact ⟨0, by omega, rfl, Lib.hid (Below.refl _ _)⟩
            case round =>
              obtain ⟨j, hjm, rfl, HW⟩ := hrel
              by_cases hlt2 : j < mq
              · have t1 : decide ((j : Int) < (mq : Int)) = true := decide_eq_true (by omega)
                obtain ⟨z, hz⟩ : ∃ z : Ent, ys[j]? = some z := ⟨_, List.getElem?_eq_getElem (by omega)⟩
                have HZ := Lib.hid hz
                have hrow : ∀ (W : World) (B : Option Addr), Sts encE kE W B mq ys → ∃ ad, B = some ad ∧ ∀ (i : Nat) (u : Value), (encE z)[i]? = some u → W.cell? ((ad.add (j * kE)).add i) = some u := fun W B h => by
                  obtain ⟨ad, e, hr⟩ := h.row (by omega)
                  exact ⟨ad, e, hr j z HZ.out⟩
                have HROW := Lib.hid hrow
                have HSPW := Lib.hid (sts_below HSPB.out HW.out)
                have HSQW := Lib.hid (sts_below HSQB.out HW.out)
                clear hz hrow
                go_upto_region 28 with fail
                refine draws_ (fun W => Below wr.heap.size wr W) (fun _ => True) (by kernel_rfl) reg_11_28 rfl inv0 (fun _ _ _ _ => trivial) (below_drew (Below.refl _ _)) trivial ?_
                refine w_move (.inl rfl) (fun vs w hK => ⟨wants_none rfl, rho_out rfl rfl⟩) ?_
                refine w_move (.inl rfl) (fun vs w hK => ⟨wants_none rfl, rho_out rfl rfl⟩) ?_
                refine w_val [(106, _), (107, _)] (.pointer (Ap.map (·.add (j * kE)))) (fun vs w hK => ⟨wants_none rfl, rho_in rfl (fv (hK 0 (memE rfl))), rho_in rfl (fv (hK 1 (memE rfl))), trivial⟩) rfl (fun wq hI => by (obtain ⟨ad, e, _⟩ := HROW.out _ _ HSPW.out; subst e; exact op_index_st stEn rfl rfl rfl rfl hlt2)) ?_
                refine w_val [(108, _)] (z.ag) (fun vs w hK => ⟨wants_none rfl, rho_in rfl (fv (hK 2 (memE rfl))), trivial⟩) rfl (fun wq hI => by (obtain ⟨ad, e, hc⟩ := HROW.out _ _ (sts_below HSPW.out hI); subst e; exact ent_at rfl rfl hc)) ?_
                refine w_move (.inl rfl) (fun vs w hK => ⟨wants_none rfl, rho_out rfl rfl⟩) ?_
                refine w_move (.inl rfl) (fun vs w hK => ⟨wants_none rfl, rho_out rfl rfl⟩) ?_
                refine w_val [(110, _), (111, _)] (.pointer (Aq.map (·.add (j * kE)))) (fun vs w hK => ⟨wants_none rfl, rho_in rfl (fv (hK 4 (memE rfl))), rho_in rfl (fv (hK 5 (memE rfl))), trivial⟩) rfl (fun wq hI => by (obtain ⟨ad, e, _⟩ := HROW.out _ _ HSQW.out; subst e; exact op_index_st stEn rfl rfl rfl rfl hlt2)) ?_
                refine w_val [(112, _)] (z.ag) (fun vs w hK => ⟨wants_none rfl, rho_in rfl (fv (hK 6 (memE rfl))), trivial⟩) rfl (fun wq hI => by (obtain ⟨ad, e, hc⟩ := HROW.out _ _ (sts_below HSQW.out hI); subst e; exact ent_at rfl rfl hc)) ?_
                refine w_val [(109, _), (113, _)] (.bool false) (fun vs w hK => ⟨wants_none rfl, rho_in rfl (fv (hK 3 (memE rfl))), rho_in rfl (fv (hK 7 (memE rfl))), trivial⟩) rfl (fun wq hI => by exact op_ent_neq rfl rfl rfl (by rw [Ent.eqb_self]; rfl)) ?_
                refine w_end rfl rfl rfl (fun vs wq hI hF => ?_)
                simp only [List.reverse_cons, List.reverse_nil, List.nil_append, List.cons_append, finL_val, finL_of, finL_any, finL_app, finL_new, finL_gr, finL_row, finL_box, finL_nil, Act.put, List.setIfInBounds_toArray, List.set_cons_zero, List.set_cons_succ, Nat.reduceAdd]
                have HW2 := Lib.hid (below_then HW.out HW.out.size hI)
                clear hI hF HROW HSPW HSQW HW
                go_wp2_with fail
                go_roundw
                case rel => exact ⟨j + 1, by omega, by go_num, HW2⟩
                case measure => simp [intOf]; omega
              · obtain rfl : j = mq := by omega
                have t1 : decide ((j : Int) < (j : Int)) = false := by simp
                have HWF := Lib.hid (below_then HWB.out HWB.out.size HW.out)
                clear HW
                go_wp2_with fail
                go_ret
                exact ⟨rfl, HWF.out⟩
          · obtain ⟨q, rfl⟩ : ∃ q, i = q + 1 := ⟨i - 1, by omega⟩
            have eq1 : ((q + 1 : Nat) : Int) - 1 = (q : Int) := by omega
            rw [eq1]
            have t1 : decide ((q : Int) ≥ 0) = true := decide_eq_true (by omega)
            have hqm : q < m := by omega
            obtain ⟨ad, rfl, hc1⟩ := (lr_sts HL2.out.ra).row (by omega)
            obtain ⟨x, hp⟩ : ∃ p : Ent, zs[q]? = some p := ⟨_, List.getElem?_eq_getElem (by omega)⟩
            have hcell := hc1 q _ hp
            have hxm : x ∈ xs := (HT.out.1 x).1 (List.mem_of_getElem? hp)
            have hxo := HGOOD.out.ok x hxm
            have h0 := back_new hp (HGOOD.out.chk x hxm) HT.out.2 HY.out.2
            have hm2 := back_mem hp h0 HY.out.2
            have hg2 := good_add HY.out.1 hxo
            have HM2 := Lib.hid (And.intro hg2 hm2)
            have CB := Lib.hid (addT_any wr x HL2.out.tb HL2.out.ra.lt.bel.size (by omega) HY.out.1 hxo)
            have hlen2 : (addL ys x).length + q = m := by
              unfold addL
              rw [if_pos h0, ins_length]
              omega
            rw [h0] at CB
            have hw2 : IntKind.i64.wrap ((q : Int) - 1) = (q : Int) - 1 := i64_id (by omega) (by omega)
            clear hc1 hp hxm hxo h0 hm2 hg2 HY
            go_wp2_with (first
              | (refine wpList_index_st rfl 59 _ _ rfl stEn rfl rfl rfl hqm ?_)
              | (refine wpList_load_at rfl 61 (.tmp 57) rfl _ x.cells rfl hcell Try.underlying61 rfl info61 ?_)
              | fail)
            refine CB.out.mono ?_
            rintro e w5 ⟨rfl, v5, k1, k2, k3⟩
            have HL5 := Lib.hid (l2_addB HL2.out k1 k2 k3)
            clear k1 k2 k3 CB HL2 hcell
            go_wp2_with fail
            go_roundw
            case rel => exact ⟨q, v5, addL ys x, by go_num, hlen2, HM2, HL5⟩
            case measure => simp [intOf]
theorem memorder_row (A : Option Addr) (n c : Nat) (list : List Ent) (K : ByteArray) (s' : Int) (w : World) (hl : Sts Ent.cells 4 w A n list) (hnc : n ≤ c) (hok : ∀ z ∈ list, Ent.ok z)
    (hk : K.size ≤ 140737488351232) (hs : (Lit.int .u64 s').wf = true) :
    Calls Try.prog 11 #[.slice A n c, .string K, .int .u64 s'] w fun e w' => e = .returned (.bool true) ∧ Below w.heap.size w w' := by
  obtain ⟨q0, q1⟩ := wf_u64 hs
  obtain ⟨s, rfl⟩ : ∃ s : Nat, s' = s := ⟨s'.toNat, by omega⟩
  exact memorder_any A n c list K s w hl hnc hok ⟨by show s < _; omega, by show K.size ≤ _; omega, by show (0 : Nat) ≤ _; omega⟩
end Go.Proofs.Ytnkeijdpjcclcaa.Mem
-- RowMemOrder
/- The law MemOrder holds: the order in which changes are added is nothing to what is found. -/
namespace Go.Proofs.Ytnkeijdpjcclcaa.memOrder
open Go.ChangeShapes Go.WideShapes Go.ChangeAt Go.RowKit Go.Proofs.YtnkeijdpjcclcaaW Go.Proofs.YtnkeijdpjcclcaaW.PrintWords Go.Proofs.Ytnkeijdpjcclcaa.Kit
open Go.ChangeMaps (open_string shut_string)
set_option linter.unusedVariables false
theorem own : ownKnob Try.prog.godebug = none := by kernel_rfl
theorem laidOut : laidOutB Try.prog = true := by kernel_rfl
def IsRow (k : IntKind) (w : World) (a : Option Addr) (len cap : Nat) (zs : List Int) : Prop :=
  (a = none ∧ len = 0 ∧ cap = 0 ∧ zs = []) ∨
  ∃ x, a = some x ∧ len ≤ cap ∧ cap ≤ maxLen ∧ zs.length = cap ∧ (∀ i, i < zs.length → w.cell? (x.add i) = some (.int k (zs.getD i 0))) ∧ ∀ n ∈ zs, (Lit.int k n).wf = true
set_option maxRecDepth 100000 in
theorem lifted (os : Os) (started : os.Started) (H : Type) (enc : TypeId × Value → H) :
    ReturnsInHanded {} Try.checked os 11 .any (Rows.memOrderSpec.pre6 enc Try.prog Try.f11 Rows.memOrderRow.domain false) (Rows.memOrderSpec.post enc Try.prog Try.f11 false true false false) := by
  refine returnsInHanded_of_change_sized (C := Try.checked) own started (by kernel_rfl) Try.func11
    (ChangeSpec.witness6 (enc := enc) (C := Try.checked) false ⟨#[], #[.slice none 0 0, .string ByteArray.empty, .int .u64 0], []⟩ 8 (by kernel_rfl) (by kernel_rfl) (by kernel_rfl) (by kernel_rfl)) ?_
  intro W base args ds gs before hval0 hW hcnd hsz0 _
  have hsz : (DataW.weightsEach Try.prog (Try.f11.params.toList ++ Rows.memOrderSpec.plain.varTypes Try.prog) (ds ++ gs)).all (· ≤ reachBytes) = true := hsz0
  have hval : ∀ (j : Nat) t v, Try.f11.params[j]? = some t → args[j]? = some v → Value.okWide Try.prog W .any base t v := hval0
  have hW' := hW
  obtain ⟨p, q, hA0, hV, rfl, hfz, hnd⟩ := hW
  have hA : DataW.TrodAll enc Try.prog W 0 (fun _ => true) true Try.f11.params.toList args.toList ds p := hA0
  rw [Try.params11] at hA hval hsz
  obtain ⟨v0, vs0, d0, ds0, p0, q0, hargs, rfl, rfl, h0, r0⟩ := trodAll_cons hA
  obtain ⟨v1, vs1, d1, ds1, p1, q1, rfl, rfl, rfl, h1, r1⟩ := trodAll_cons r0
  obtain ⟨v2, vs2, d2, ds2, p2, q2, rfl, rfl, rfl, h2, r2⟩ := trodAll_cons r1
  obtain ⟨rfl, rfl, rfl⟩ := trodAll_nil r2
  obtain rfl : args = #[v0, v1, v2] := by cases args; simp_all
  obtain ⟨rfl, rfl⟩ := trodVars_none hV
  obtain ⟨a0, len0, cap0, rfl⟩ := okWide_slice Try.underlying59 (hval 0 59 v0 rfl rfl)
  have k0 := h0
  have lt0 : ∀ x ∈ p0, x.block < W.heap.size := by obtain ⟨m, hm⟩ := k0; exact DataW.trod_lt m _ _ _ hm
  obtain ⟨fu0, hu0⟩ := h0
  obtain ⟨l0, hl0, hnc0, hok0⟩ := Key.open_ents hu0
  obtain ⟨a1, rfl, rfl, rfl, y1⟩ := open_string Try.underlying9 (hval 1 9 v1 rfl rfl) h1
  have w1 : a1.size ≤ 140737488351232 := by
    have z := sized_string hsz (j := 1) (t := 9) rfl rfl
    rw [Array.length_toList] at z
    exact z
  obtain ⟨a2, rfl, rfl, rfl, w2⟩ := open_int Try.underlying32 (hval 2 32 v2 rfl rfl) h2
  clear hA0 hval0 hsz0 hsz
  refine (Mem.memorder_row a0 len0 cap0 l0 a1 a2 W hl0 hnc0 hok0 w1 w2).mono fun e W' ⟨he, bel⟩ => ?_
  subst he
  exact ⟨_, rfl, _, _, _, [], _, [], hW', trodAll_mk1 (shut_bool Try.underlying4 _), (trodAll_cons_mk (Below.trod laidOut (by kernel_rfl) (of_decide_eq_true (by kernel_rfl)) k0 bel lt0) (trodAll_cons_mk (shut_string Try.underlying9 y1) (trodAll_cons_mk (shut_int Try.underlying32 w2) trodAll_mk0))), rfl, bel.frame _, fun h => by cases h⟩
theorem over : Rows.memOrderRow.holds Try.pinned (OpenSpec.ofChange Rows.memOrderSpec) :=
  OpenClaim.holds_of_wide 11 Try.f11 rfl rfl rfl rfl rfl rfl rfl ⟨rfl, rfl, rfl, rfl, rfl⟩ rfl rfl rfl rfl rfl (by kernel_rfl) Try.func11 (by kernel_rfl)
    (of_decide_eq_true (by kernel_rfl)) (by unfold Func.isWrapper; first | (rw [if_pos (by decide +kernel)]; kernel_rfl) | (rw [if_neg (by decide +kernel)]; exact ⟨rfl, rfl⟩))
    (fun os started H enc _ => lifted os started H enc)
#print axioms over
end Go.Proofs.Ytnkeijdpjcclcaa.memOrder
namespace Go.Proofs.Ytnkeijdpjcclcaa
theorem memOrder_holds : Rows.MemOrderSaid := memOrder.over
end Go.Proofs.Ytnkeijdpjcclcaa
