/- Words of this seat's own walks: rows of whole numbers that the call owns (append, literals), what is read kept; small facts. -/
import Derived.Test.YtakjmhcdmchgdaaDoorProg
import Derived.Below
import Derived.Deep.Draws
import Derived.Deep.AppendLies
import Derived.Maps.AppendAt
import Derived.OwnWalk
import Derived.Laws.BytesArg
import Derived.Laws.MakeOwn
import Derived.Laws.OwnMore
import Derived.Deep.OwnRows
import Derived.Tactics
import Derived.Lib.ConvBytes
import Derived.Laws.Slices
import Derived.WalkKit
import Derived.KernelRfl
import Derived.RowKit3
import Derived.Deep.LoopGhost
import Derived.Deep.QuietTactic
import Derived.BigQuiet
import Derived.WideLaws
import Derived.Deep.DeepCutAuto
import Derived.Deep.CutBlock
import Derived.Deep.RegionHeld3
import Derived.Laws.Rows
import Derived.Lib.AppendStr
import Derived.ArgAppend
import Derived.Laws.IdiomCopy
import Derived.OrdersHeld
import Derived.Laws.BitsLemmas
import Derived.Laws.BitsAllLaws
import Derived.RowKit
import Derived.Outline
import Derived.Lib.Hide
import Derived.Lib.SlBytesConst
import Derived.Test.YtakjmhcdmchgdaaDoorWWords
import Derived.Test.YtakjmhcdmchgdaaDoorWLast
import Derived.Test.YtakjmhcdmchgdaaDoorWTab
import Derived.Test.YtakjmhcdmchgdaaDoorWFour
import Derived.Test.YtakjmhcdmchgdaaDoorWMore
namespace Go.Proofs.YtakjmhcdmchgdaaDoor.Kit
open Go.RowKit Go.Proofs.YtakjmhcdmchgdaaDoorW.PrintWords Go.Proofs.YtakjmhcdmchgdaaDoorW.PrintLast Go.Proofs.YtakjmhcdmchgdaaDoorW.PrintMore

theorem ret_int {k : IntKind} {a b : Int} (h : a = b) : Ending.returned (.int k a) = .returned (.int k b) := by rw [h]
theorem ret_bool {a b : Bool} (h : a = b) : Ending.returned (.bool a) = .returned (.bool b) := by rw [h]

/-- A slice type of whole numbers, as the program's tables have it. -/
structure SlTy (P : Program) (t e : TypeId) (k : IntKind) (bytes : Nat) : Prop where
  und : P.underlying t = some (.slice e)
  info : (P.info? e).map (fun i => (i.zero, i.size, i.bytes)) = some (some (.int k 0), 1, bytes)
  pos : 0 < bytes

/-- A row of whole numbers of the call's own (the only one that is written while this is said). -/
abbrev Own (k : IntKind) (e : TypeId) (w : World) (B : Nat) (v : Value) (xs : List Int) : Prop := Kd.R (Kd.int k) e w B (fun _ => True) v xs
/-- A row of whole numbers that is read. -/
abbrev Rds (k : IntKind) (w : World) (A : Option Addr) (n : Nat) (xs : List Int) : Prop := Kd.C (Kd.int k) w A n xs

section
variable {P : Program} {ops : Array Oper} {rest : List Oper} {o : Oper} {a : Act} {Q : Exit → Act → World → Prop} {k : IntKind} {t e : TypeId} {bytes : Nat}

theorem own_nil (k : IntKind) (e : TypeId) (w : World) (B : Nat) : Own k e w B (.slice none 0 0) [] := Kd.R_nil _ _ _ _ _
theorem own_lit_ (k : IntKind) (e : TypeId) (w : World) (B : Nat) (xs : List Int) (n : Nat) (hn : xs.length = n) (hB : B ≤ w.heap.size) (hm : xs.length ≤ 9223372036854775807) :
    Own k e (w.alloc (.cells (nums k xs).toArray e)) B (.slice (some ⟨w.heap.size, 0, none⟩) n n) xs := by
  subst hn
  exact Kd.R_of_own (own_lit w B e k xs hB hm) (fun _ _ => trivial)

/-- append(v, x...), behind at_builtin. -/
theorem app_row (T : SlTy P t e k bytes) (hgd : o.guard = none) (s x : Operand) (ho : o.op = .call { callee := .builtin .append, args := #[s, x], argTypes := #[t, t] })
    {w0 W : World} {B : Nat} {v : Value} {xs : List Int} {A : Option Addr} {m c : Nat} {ys : List Int} (hs : a.eval s = v) (hx : a.eval x = .slice A m c)
    (HO : Own k e W B v xs) (HR : Rds k W A m ys) (HB : Below B w0 W) (hbase : B ≤ W.heap.size) (hl : (xs.length + m) * bytes ≤ 140737488355328)
    (h : ∀ v1 w1, Own k e w1 B v1 (xs ++ ys) → Below B w0 w1 → B ≤ w1.heap.size → wpList P ops Q rest (a.put o.dst v1) w1) :
    wpList P ops Q (o :: rest) a W := by
  refine Kd.R_append_row (d := (0 : Int)) (Value.int k) B hgd s x t e (.int k 0) bytes ho T.und T.info rfl T.pos v xs ys A m c (fun _ => True) hs hx (fun _ _ => trivial) HO HR HB hbase hl ?_
  intro v1 w1 h1 h2 h3 _
  exact h v1 w1 h1 h2 (Nat.le_trans hbase h3.size)
/-- append(v, x) of one number: the box of the variadic has just been laid. -/
theorem app_one (T : SlTy P t e k bytes) (hgd : o.guard = none) (s x : Operand) (ho : o.op = .call { callee := .builtin .append, args := #[s, x], argTypes := #[t, t] })
    {w0 W : World} {B : Nat} {v : Value} {xs : List Int} {p : Int} (hs : a.eval s = v) (hx : a.eval x = .slice (some ⟨W.heap.size, 0, none⟩) 1 1)
    (HO : Own k e W B v xs) (HB : Below B w0 W) (hbase : B ≤ W.heap.size) (hl : (xs.length + 1) * bytes ≤ 140737488355328)
    (h : ∀ v1 w1, Own k e w1 B v1 (xs ++ [p]) → Below B w0 w1 → B ≤ w1.heap.size → wpList P ops Q rest (a.put o.dst v1) w1) :
    wpList P ops Q (o :: rest) a (W.alloc (.cells #[.int k p] e)) := by
  refine Kd.R_append (Kd.int k) (w0 := w0) B hgd s x t e (.int k 0) bytes ho T.und T.info rfl (show 0 < 1 by decide) T.pos v xs p [.int k p] (fun _ => True) (fun _ => False) hs hx rfl (fun _ hk => hk.elim) (fun _ _ => trivial) HO HB hbase hl ?_
  intro v1 w1 h1 h2 h3 _
  exact h v1 w1 h1 h2 (Nat.le_trans hbase h3.size)
end
/-- What is owned, as a slice that is read. -/
theorem own_open {k : IntKind} {e : TypeId} {w : World} {B : Nat} {v : Value} {xs : List Int} (h : Own k e w B v xs) :
    ∃ A n c, v = .slice A n c ∧ n ≤ c ∧ Hid (xs.length = n) ∧ n ≤ 9223372036854775807 ∧ Rds k w A n xs := by
  obtain ⟨A, c, e1, h1, h2⟩ := Kd.R_reads h
  exact ⟨A, xs.length, c, e1, h1, Lib.hid rfl, Kd.C_max h2, h2⟩
/-- A slice of a block that the call has just laid. -/
theorem C_lit (w : World) (k : IntKind) (t : TypeId) (fr : Nat × Nat) (l : List Int) (hn : l.length ≤ 9223372036854775807) (n : Nat) (hl : l.length = n) :
    Rds k (w.alloc (.cells (nums k l).toArray t fr)) (some ⟨w.heap.size, 0, none⟩) n l := by
  subst hl
  refine Kd.C_of_reads (d := (0 : Int)) (h1 := fun _ => rfl) ⟨rfl, hn, fun _ => ⟨_, rfl, fun j hj => ?_⟩⟩
  rw [add_plain, cell_of_row _ _ j (nums k l).toArray t fr (heap_alloc_new w _)]
  simp [nums, List.getElem?_eq_getElem hj, List.getD_eq_getElem?_getD]
theorem Rds.nil (k : IntKind) (w : World) (A : Option Addr) : Rds k w A 0 [] := ⟨rfl, by omega, fun h => absurd h (by omega)⟩
end Go.Proofs.YtakjmhcdmchgdaaDoor.Kit
