/- Merged of: Kit Gr Kit2 Any Walk Walk2 Walk3 Walk4 Str Str2 Box Ops GrS Open St StO Fld Fld2 Ins -/
import Derived.Test.YtnkeijdpjcclcaaProg
import Derived.Below
import Derived.Deep.Draws
import Derived.Deep.AppendLies
import Derived.Maps.AppendAt
import Derived.OwnWalk
import Derived.Laws.BytesArg
import Derived.Laws.MakeOwn
import Derived.Laws.OwnMore
import Derived.Deep.OwnRows
import Derived.Tactics
import Derived.Lib.ConvBytes
import Derived.Laws.Slices
import Derived.WalkKit
import Derived.KernelRfl
import Derived.RowKit3
import Derived.Deep.LoopGhost
import Derived.Deep.QuietTactic
import Derived.BigQuiet
import Derived.WideLaws
import Derived.Deep.DeepCutAuto
import Derived.Deep.CutBlock
import Derived.Deep.RegionHeld3
import Derived.Laws.Rows
import Derived.Lib.AppendStr
import Derived.ArgAppend
import Derived.Laws.IdiomCopy
import Derived.OrdersHeld
import Derived.Laws.BitsLemmas
import Derived.Laws.BitsAllLaws
import Derived.RowKit
import Derived.Outline
import Derived.Lib.Hide
import Derived.Lib.SlBytesConst
import Derived.Test.YtnkeijdpjcclcaaWWords
import Derived.Test.YtnkeijdpjcclcaaWLast
import Derived.Test.YtnkeijdpjcclcaaWTab
import Derived.Test.YtnkeijdpjcclcaaWFour
import Derived.Test.YtnkeijdpjcclcaaWMore
import Derived.Test.YtnkeijdpjcclcaaWGuard
import Derived.Orders
import Derived.Deep.MidRow
import Derived.Lib.Strings
import Derived.Laws.Tables
import Derived.Great.BuildSlice
import Derived.Laws.StructEq
import Derived.ChangeKeysEq
import Derived.OpenShut
import Derived.ChangeOld
import Derived.Lib.SmallJoins
import Derived.Deep.Slices
import Derived.ChangeSame
import Derived.Deep.Strs
import Derived.DataElems
import Derived.Lib.AppendZerosOnto
import Derived.Lib.Overlaps
import Derived.Laws.Externs
-- Kit
/- Words of this seat's own walks: rows of whole numbers that the call owns (append, literals), what is read kept; small facts. -/
namespace Go.Proofs.Ytnkeijdpjcclcaa.Kit
set_option linter.unusedVariables false
open Go.RowKit Go.Proofs.YtnkeijdpjcclcaaW.PrintWords Go.Proofs.YtnkeijdpjcclcaaW.PrintLast Go.Proofs.YtnkeijdpjcclcaaW.PrintMore

theorem ret_int {k : IntKind} {a b : Int} (h : a = b) : Ending.returned (.int k a) = .returned (.int k b) := by rw [h]
theorem ret_bool {a b : Bool} (h : a = b) : Ending.returned (.bool a) = .returned (.bool b) := by rw [h]

/-- A slice type of one-cell elements, as the program's tables have it: z the element's zero. -/
structure SlTy (P : Program) (t e : TypeId) (z : Value) (bytes : Nat) : Prop where
  und : P.underlying t = some (.slice e)
  info : (P.info? e).map (fun i => (i.zero, i.size, i.bytes)) = some (some z, 1, bytes)
  one : z.cells.size = 1
  pos : 0 < bytes

theorem int_one (k : IntKind) : ∀ x : Int, (Value.int k x).oneCell' = true := fun _ => rfl
theorem str_one : ∀ x : ByteArray, (Value.string x).oneCell' = true := fun _ => rfl

/-- A row of one-cell elements of the call's own. -/
abbrev OwnE {α : Type} (enc : α → Value) (h1 : ∀ x, (enc x).oneCell' = true) (e : TypeId) (w : World) (B : Nat) (v : Value) (xs : List α) : Prop := Kd.R (Kd.scalar enc h1) e w B (fun _ => True) v xs
/-- .. that is read. -/
abbrev RdsE {α : Type} (enc : α → Value) (h1 : ∀ x, (enc x).oneCell' = true) (w : World) (A : Option Addr) (n : Nat) (xs : List α) : Prop := Kd.C (Kd.scalar enc h1) w A n xs
/-- Of whole numbers. -/
abbrev Own (k : IntKind) (e : TypeId) (w : World) (B : Nat) (v : Value) (xs : List Int) : Prop := OwnE (Value.int k) (int_one k) e w B v xs
abbrev Rds (k : IntKind) (w : World) (A : Option Addr) (n : Nat) (xs : List Int) : Prop := RdsE (Value.int k) (int_one k) w A n xs
/-- Of texts. -/
abbrev OwnS (e : TypeId) (w : World) (B : Nat) (v : Value) (xs : List ByteArray) : Prop := OwnE Value.string str_one e w B v xs
abbrev RdsS (w : World) (A : Option Addr) (n : Nat) (xs : List ByteArray) : Prop := RdsE Value.string str_one w A n xs

/-- What an append has done: it wrote the row's own block alone, or laid a new one. -/
structure Fr (W w1 : World) (v v1 : Value) : Prop where
  grown : W.grownBy w1 v.ownBlock
  at_ : v1.ownBlock = v.ownBlock ∨ ∃ b, v1.ownBlock = some b ∧ W.heap.size ≤ b
/-- Two rows lie apart. -/
structure Apart (u v : Value) : Prop where
  out : u.ownBlock = none ∨ v.ownBlock = none ∨ u.ownBlock ≠ v.ownBlock

section
variable {α β : Type} {enc : α → Value} {h1 : ∀ x, (enc x).oneCell' = true} {enc' : β → Value} {h1' : ∀ x, (enc' x).oneCell' = true}
theorem Apart.symm {u v : Value} (h : Apart u v) : Apart v u := ⟨by
  rcases h.out with h | h | h
  · exact .inr (.inl h)
  · exact .inl h
  · exact .inr (.inr (Ne.symm h))⟩
theorem Apart.nil (u : Value) : Apart u (.slice none 0 0) := ⟨.inr (.inl rfl)⟩
theorem Apart.ne {u v : Value} (h : Apart u v) : u.ownBlock = none ∨ u.ownBlock ≠ v.ownBlock := by
  rcases h.out with h | h | h
  · exact .inl h
  · rw [h]
    cases hu : u.ownBlock with
    | none => exact .inl rfl
    | some _ => exact .inr (by simp)
  · exact .inr h
theorem Fr.keep {W w1 : World} {v v1 u : Value} {e : TypeId} {B : Nat} {xs : List α} (h : Fr W w1 v v1) (hu : OwnE enc h1 e W B u xs) (ha : Apart u v) : OwnE enc h1 e w1 B u xs :=
  Kd.R_of_own (own_other (Kd.own_of_R hu) h.grown ha.ne) (fun _ _ => trivial)
theorem Fr.apart {W w1 : World} {v v1 u : Value} {e : TypeId} {B : Nat} {xs : List α} (h : Fr W w1 v v1) (hu : OwnE enc h1 e W B u xs) (ha : Apart u v) : Apart u v1 := ⟨by
  rcases h.at_ with h2 | ⟨b, hb, hle⟩
  · rw [h2]; exact ha.out
  · cases hk : u.ownBlock with
    | none => exact .inl rfl
    | some k =>
      have := own_lt (Kd.own_of_R hu) k hk
      exact .inr (.inr (by rw [hb]; intro he; injection he with he; omega))⟩
theorem Fr.size {W w1 : World} {v v1 : Value} (h : Fr W w1 v v1) : W.heap.size ≤ w1.heap.size := h.grown.size
/-- A row that was made behind another one lies apart from it. -/
theorem apart_new {W : World} {u v : Value} {e : TypeId} {B : Nat} {xs : List α} (hu : OwnE enc h1 e W B u xs) (hv : ∀ k, v.ownBlock = some k → W.heap.size ≤ k) : Apart u v := ⟨by
  cases hk : u.ownBlock with
  | none => exact .inl rfl
  | some k =>
    have := own_lt (Kd.own_of_R hu) k hk
    refine .inr (.inr fun he => ?_)
    have := hv k he.symm
    omega⟩
theorem own_e_nil (e : TypeId) (w : World) (B : Nat) : OwnE enc h1 e w B (.slice none 0 0) [] := Kd.R_nil _ _ _ _ _
theorem own_e_lit (e : TypeId) (w : World) (B : Nat) (xs : List α) (n : Nat) (hn : xs.length = n) (hB : B ≤ w.heap.size) (hm : xs.length ≤ 9223372036854775807) :
    OwnE enc h1 e (w.alloc (.cells (encs enc xs).toArray e)) B (.slice (some ⟨w.heap.size, 0, none⟩) n n) xs := by
  subst hn
  exact Kd.R_of_own (own_lit_of w B e xs hB hm) (fun _ _ => trivial)
theorem own_lower {e : TypeId} {w : World} {B B' : Nat} {v : Value} {xs : List α} (h : OwnE enc h1 e w B v xs) (hb : B' ≤ B) : OwnE enc h1 e w B' v xs := Kd.R_lower h hb
theorem own_below {e : TypeId} {w w' : World} {B : Nat} {v : Value} {xs : List α} (h : OwnE enc h1 e w B v xs) (hb : Below w.heap.size w w') : OwnE enc h1 e w' B v xs := Kd.R_below h hb
/-- What is owned, as a slice that is read. -/
theorem own_open {e : TypeId} {w : World} {B : Nat} {v : Value} {xs : List α} (h : OwnE enc h1 e w B v xs) :
    ∃ A n c, v = .slice A n c ∧ n ≤ c ∧ Hid (xs.length = n) ∧ n ≤ 9223372036854775807 ∧ RdsE enc h1 w A n xs := by
  obtain ⟨A, c, e1, h1, h2⟩ := Kd.R_reads h
  exact ⟨A, xs.length, c, e1, h1, Lib.hid rfl, Kd.C_max h2, h2⟩
/-- A row that isn't empty lies in a block of its own. -/
theorem own_form {e : TypeId} {w : World} {B : Nat} {v : Value} {xs : List α} (h : OwnE enc h1 e w B v xs) (hp : 0 < xs.length) :
    ∃ g n cap, v = .slice (some ⟨g, 0, none⟩) n cap ∧ Hid (xs.length = n) ∧ 0 < n ∧ n ≤ 9223372036854775807 ∧ n ≤ cap ∧ B ≤ g ∧ g < w.heap.size := by
  obtain ⟨g, cap, rfl, h2, h3, _⟩ := Kd.R_form h hp
  obtain ⟨_, h4, h5⟩ := Kd.R_reads' h
  exact ⟨g, xs.length, cap, rfl, Lib.hid rfl, hp, Kd.C_max h5, h4, h2, h3⟩
theorem own_cell (d : α) {e : TypeId} {w : World} {B g n cap : Nat} {xs : List α} (h : OwnE enc h1 e w B (.slice (some ⟨g, 0, none⟩) n cap) xs) (k : Nat) (hk : k < n) :
    w.cell? ⟨g, k, none⟩ = some (enc (xs.getD k d)) ∧ w.frozen? ⟨g, k, none⟩ = false := by
  have := Kd.R_celln d h (k : Int) (by omega) (by omega)
  rwa [Int.toNat_natCast] at this
theorem own_set {e : TypeId} {w : World} {B g n cap : Nat} {xs : List α} (h : OwnE enc h1 e w B (.slice (some ⟨g, 0, none⟩) n cap) xs) (k : Nat) (x : α) :
    OwnE enc h1 e (w.setCell ⟨g, k, none⟩ (enc x)) B (.slice (some ⟨g, 0, none⟩) n cap) (xs.set k x) := by
  have := Kd.R_putn h (k : Int) x
  rwa [Int.toNat_natCast] at this
/-- Another row lives on where a cell of this one is written. -/
theorem set_keep {e : TypeId} {w : World} {B g n cap k : Nat} {x : Value} {u : Value} {xs : List α} (h : OwnE enc h1 e w B u xs) (ha : Apart u (.slice (some ⟨g, 0, none⟩) n cap)) :
    OwnE enc h1 e (w.setCell ⟨g, k, none⟩ x) B u xs := by
  have hne : ∀ j, u.ownBlock = some j → j ≠ g := by
    intro j hj
    rcases ha.out with h2 | h2 | h2
    · rw [h2] at hj; cases hj
    · cases h2
    · rintro rfl; exact h2 hj
  exact Kd.R_of_own (own_move (Kd.own_of_R h) (fun j hj => Below.heap_setCell w ⟨g, k, none⟩ x j (hne j hj))) (fun _ _ => trivial)
theorem rds_nil (w : World) (A : Option Addr) : RdsE enc h1 w A 0 [] := ⟨rfl, by omega, fun h => absurd h (by omega)⟩
theorem rds_below {w w' : World} {A : Option Addr} {n : Nat} {xs : List α} (h : RdsE enc h1 w A n xs) (hb : Below w.heap.size w w') : RdsE enc h1 w' A n xs := Kd.C_below h hb
theorem rds_drewN {w : World} {A : Option Addr} {n : Nat} {xs : List α} (h : RdsE enc h1 w A n xs) (N : Nat) : RdsE enc h1 (w.drewN N) A n xs := Kd.C_drewN h N
theorem rds_take (d : α) {w : World} {A : Option Addr} {n : Nat} {xs : List α} (h : RdsE enc h1 w A n xs) (i : Nat) (hi : i ≤ n) : RdsE enc h1 w A i (xs.take i) := Kd.C_of_reads (d := d) ((Kd.reads_of_C h).take_ i hi)
theorem rds_drop (d : α) {w : World} {A : Option Addr} {n c : Nat} {xs : List α} (h : RdsE enc h1 w A n xs) (i : Nat) (hi : i ≤ n) (hc : n ≤ c) : RdsE enc h1 w (if c = i then A else A.map (·.add i)) (n - i) (xs.drop i) :=
  Kd.C_of_reads (d := d) ((Kd.reads_of_C h).drop_ i hi hc)
theorem rds_len {w : World} {A : Option Addr} {n : Nat} {xs : List α} (h : RdsE enc h1 w A n xs) : xs.length = n := h.1
theorem rds_max {w : World} {A : Option Addr} {n : Nat} {xs : List α} (h : RdsE enc h1 w A n xs) : n ≤ 9223372036854775807 := h.2.1
/-- One element that is read. -/
theorem rds_at (d : α) {w : World} {A : Option Addr} {n : Nat} {xs : List α} (h : RdsE enc h1 w A n xs) (k : Nat) (hk : k < n) : ∃ ad, A = some ad ∧ w.cell? (ad.add k) = some (enc (xs.getD k d)) := by
  obtain ⟨ad, e1, hc⟩ := (Kd.reads_of_C (d := d) h).2.2 (by omega)
  exact ⟨ad, e1, hc k hk⟩
/-- A slice of a block that the call has just laid. -/
theorem rds_lit (w : World) (t : TypeId) (fr : Nat × Nat) (d : α) (l : List α) (hn : l.length ≤ 9223372036854775807) (n : Nat) (hl : l.length = n) :
    RdsE enc h1 (w.alloc (.cells (encs enc l).toArray t fr)) (some ⟨w.heap.size, 0, none⟩) n l := by
  subst hl
  refine Kd.C_of_reads (d := d) ⟨rfl, hn, fun _ => ⟨_, rfl, fun j hj => ?_⟩⟩
  rw [add_plain, cell_of_row _ _ j (encs enc l).toArray t fr (heap_alloc_new w _)]
  simp [encs, List.getElem?_eq_getElem hj, List.getD_eq_getElem?_getD]
end

section
variable {P : Program} {ops : Array Oper} {rest : List Oper} {o : Oper} {a : Act} {Q : Exit → Act → World → Prop} {Kc : Act → World → Prop} {α : Type} {enc : α → Value} {h1 : ∀ x, (enc x).oneCell' = true} {z : Value} {t e : TypeId} {bytes : Nat}
/-- append(v, x...), behind at_builtin. -/
theorem app_row (d : α) (T : SlTy P t e z bytes) (hgd : o.guard = none) (s x : Operand) (ho : o.op = .call { callee := .builtin .append, args := #[s, x], argTypes := #[t, t] })
    {w0 W : World} {B : Nat} {v : Value} {xs : List α} {A : Option Addr} {m c : Nat} {ys : List α} (hs : a.eval s = v) (hx : a.eval x = .slice A m c)
    (HO : OwnE enc h1 e W B v xs) (HR : RdsE enc h1 W A m ys) (HB : Below B w0 W) (hbase : B ≤ W.heap.size) (hl : (xs.length + m) * bytes ≤ 140737488355328)
    (h : ∀ v1 w1, OwnE enc h1 e w1 B v1 (xs ++ ys) → Below B w0 w1 → B ≤ w1.heap.size → Fr W w1 v v1 → wpList P ops Q rest (a.put o.dst v1) w1) :
    wpList P ops Q (o :: rest) a W := by
  refine Kd.R_append_row (d := d) enc B hgd s x t e z bytes ho T.und T.info T.one T.pos v xs ys A m c (fun _ => True) hs hx (fun _ _ => trivial) HO HR HB hbase hl ?_
  intro v1 w1 h1 h2 h3 h4
  exact h v1 w1 h1 h2 (Nat.le_trans hbase h3.size) ⟨h3, h4⟩
/-- append(v, x) of one element: the box of the variadic has just been laid. -/
theorem app_one (T : SlTy P t e z bytes) (hgd : o.guard = none) (s x : Operand) (ho : o.op = .call { callee := .builtin .append, args := #[s, x], argTypes := #[t, t] })
    {w0 W : World} {B : Nat} {v : Value} {xs : List α} {p : α} (hs : a.eval s = v) (hx : a.eval x = .slice (some ⟨W.heap.size, 0, none⟩) 1 1)
    (HO : OwnE enc h1 e W B v xs) (HB : Below B w0 W) (hbase : B ≤ W.heap.size) (hl : (xs.length + 1) * bytes ≤ 140737488355328)
    (h : ∀ v1 w1, OwnE enc h1 e w1 B v1 (xs ++ [p]) → Below B w0 w1 → B ≤ w1.heap.size → Fr W w1 v v1 → wpList P ops Q rest (a.put o.dst v1) w1) :
    wpList P ops Q (o :: rest) a (W.alloc (.cells #[enc p] e)) := by
  refine Kd.R_append (Kd.scalar enc h1) (w0 := w0) B hgd s x t e z bytes ho T.und T.info T.one (show 0 < 1 by decide) T.pos v xs p [enc p] (fun _ => True) (fun _ => False) hs hx rfl (fun _ hk => hk.elim) (fun _ _ => trivial) HO HB hbase hl ?_
  intro v1 w1 h1 h2 h3 h4
  exact h v1 w1 h1 h2 (Nat.le_trans hbase h3.size) ⟨h3, h4⟩
/-- The same in a region that draws. -/
theorem app_one_step (T : SlTy P t e z bytes) (hw : Region.wanted o (yielded ops a.tmps) = true) (s x : Operand) (ho : o.op = .call { callee := .builtin .append, args := #[s, x], argTypes := #[t, t] })
    {w0 W : World} {B : Nat} {v : Value} {xs : List α} {p : α} (hs : a.eval s = v) (hx : a.eval x = .slice (some ⟨W.heap.size, 0, none⟩) 1 1)
    (HO : OwnE enc h1 e W B v xs) (HB : Below B w0 W) (hbase : B ≤ W.heap.size) (hl : (xs.length + 1) * bytes ≤ 140737488355328)
    (h : ∀ v1 w1, OwnE enc h1 e w1 B v1 (xs ++ [p]) → Below B w0 w1 → B ≤ w1.heap.size → Fr W w1 v v1 → Kc (a.put o.dst v1) w1) :
    if Region.wanted o (yielded ops a.tmps) = true then Oper.wp P o a (W.alloc (.cells #[enc p] e)) Kc Q else Kc (a.put o.dst undef) (W.alloc (.cells #[enc p] e)) := by
  refine Kd.R_append_step (Kd.scalar enc h1) (w0 := w0) B hw s x t e z bytes ho T.und T.info T.one (show 0 < 1 by decide) T.pos v xs p [enc p] (fun _ => True) (fun _ => False) hs hx rfl (fun _ hk => hk.elim) (fun _ _ => trivial) HO HB hbase hl ?_
  intro v1 w1 h1 h2 h3 h4
  exact h v1 w1 h1 h2 (Nat.le_trans hbase h3.size) ⟨h3, h4⟩
theorem app_row_step (d : α) (T : SlTy P t e z bytes) (hw : Region.wanted o (yielded ops a.tmps) = true) (s x : Operand) (ho : o.op = .call { callee := .builtin .append, args := #[s, x], argTypes := #[t, t] })
    {w0 W : World} {B : Nat} {v : Value} {xs : List α} {A : Option Addr} {m c : Nat} {ys : List α} (hs : a.eval s = v) (hx : a.eval x = .slice A m c)
    (HO : OwnE enc h1 e W B v xs) (HR : RdsE enc h1 W A m ys) (HB : Below B w0 W) (hbase : B ≤ W.heap.size) (hl : (xs.length + m) * bytes ≤ 140737488355328)
    (h : ∀ v1 w1, OwnE enc h1 e w1 B v1 (xs ++ ys) → Below B w0 w1 → B ≤ w1.heap.size → Fr W w1 v v1 → Kc (a.put o.dst v1) w1) :
    if Region.wanted o (yielded ops a.tmps) = true then Oper.wp P o a W Kc Q else Kc (a.put o.dst undef) W := by
  refine Kd.R_append_rows_step (Kd.scalar enc h1) (Rr := fun x cs => cs = [enc x]) (w0 := w0) B hw s x t e z bytes ho T.und T.info T.one (show 0 < 1 by decide) T.pos v xs ys A m c (fun _ => True) (fun _ => False) hs hx HO HR (fun _ _ hq => hq) (fun _ hk => hk.elim) (fun _ _ => trivial) HB hbase hl ?_
  intro v1 w1 h1 h2 h3 h4
  exact h v1 w1 h1 h2 (Nat.le_trans hbase h3.size) ⟨h3, h4⟩
/-- s[lo:], s[:hi], s[lo:hi]: an equation for every world, and what the cut reads. -/
theorem cut_from (d : α) (T : SlTy P t e z bytes) (A : Option Addr) (n c lo m : Nat) (hm : m + lo = n) (hc : n ≤ c) (j : Int) (hj : j = (lo : Int)) :
    ∃ A' : Option Addr, (∀ W : World, (Instr.slice t (.slice A n c) (some (.int .i64 j)) none none).run P W = .ok (.slice A' m (c - lo)) W) ∧ ∀ (w : World) (xs : List α), RdsE enc h1 w A n xs → RdsE enc h1 w A' m (xs.drop lo) := by
  obtain ⟨i0, hi, hzz⟩ := Option.map_eq_some_iff.1 T.info
  simp only [Prod.mk.injEq] at hzz
  obtain ⟨A', h1', h2'⟩ := print_cut_of (P := P) enc d t e .i64 T.und hi hzz.2.1 A n c lo (by omega)
  obtain rfl : m = n - lo := by omega
  exact ⟨A', fun W => by rw [hj]; exact h1' W, fun w xs h => Kd.C_of_reads (d := d) (h2' w xs hc (Kd.reads_of_C h))⟩
theorem cut_to (d : α) (T : SlTy P t e z bytes) (A : Option Addr) (n c hi : Nat) (hh : hi ≤ n) (hc : n ≤ c) (j : Int) (hj : j = (hi : Int)) :
    (∀ W : World, (Instr.slice t (.slice A n c) none (some (.int .i64 j)) none).run P W = .ok (.slice A hi c) W) ∧ ∀ (w : World) (xs : List α), RdsE enc h1 w A n xs → RdsE enc h1 w A hi (xs.take hi) := by
  obtain ⟨i0, hi0, hzz⟩ := Option.map_eq_some_iff.1 T.info
  simp only [Prod.mk.injEq] at hzz
  have hel : P.elem t = e := by simp [Program.elem, T.und]
  have hu : P.underlying t = some (.slice (P.elem t)) := by rw [hel]; exact T.und
  have ha : (A.map fun x => x.add 0) = A := by cases A <;> simp [Addr.add]
  refine ⟨fun W => ?_, fun w xs h => rds_take d h hi hh⟩
  rw [hj, run_slice_h W t A n c hu .i64 hi (by omega) (by omega), hel]
  simp [sizeOf, typeInfo, hi0, hzz.2.1, sliced, Result.andThen, ha]
theorem cut_mid (d : α) (T : SlTy P t e z bytes) (A : Option Addr) (n c lo hi m : Nat) (hm : m + lo = hi) (hh : hi ≤ n) (hc : n ≤ c) (j1 j2 : Int) (hj1 : j1 = (lo : Int)) (hj2 : j2 = (hi : Int)) :
    ∃ A' : Option Addr, (∀ W : World, (Instr.slice t (.slice A n c) (some (.int .i64 j1)) (some (.int .i64 j2)) none).run P W = .ok (.slice A' m (c - lo)) W) ∧ ∀ (w : World) (xs : List α), RdsE enc h1 w A n xs → RdsE enc h1 w A' m ((xs.take hi).drop lo) := by
  obtain ⟨i0, hi0, hzz⟩ := Option.map_eq_some_iff.1 T.info
  simp only [Prod.mk.injEq] at hzz
  have hel : P.elem t = e := by simp [Program.elem, T.und]
  have hu : P.underlying t = some (.slice (P.elem t)) := by rw [hel]; exact T.und
  obtain rfl : m = hi - lo := by omega
  refine ⟨if c = lo then A else A.map (·.add lo), fun W => ?_, fun w xs h => rds_drop d (c := c) (rds_take d h hi hh) lo (by omega) (by omega)⟩
  rw [hj1, hj2, run_slice_lh W t A n c hu .i64 .i64 lo hi (by omega) (by omega) (by omega), hel]
  simp [sizeOf, typeInfo, hi0, hzz.2.1, sliced, Result.andThen]
end
/-- make([]T, m): an equation for every world, and the row that it leaves. -/
theorem make_run {P : Program} {t e : TypeId} {z : Value} {bytes : Nat} (T : SlTy P t e z bytes) (hz : z.cells = #[z]) (m : Nat) (hm : m * bytes ≤ 281474976710656) :
    ∀ W : World, (Instr.makeSlice t (.int .i64 (m : Int)) (.int .i64 (m : Int))).run P W = .ok (.slice (some ⟨W.heap.size, 0, none⟩) m m) (W.alloc (.cells (madeCells #[z] m) e)) := print_make_of t e z bytes T.und T.info hz T.pos m hm
theorem own_of_make (k : IntKind) (e : TypeId) (W : World) (B m : Nat) (hb : B ≤ W.heap.size) (hm : m ≤ 9223372036854775807) :
    Own k e (W.alloc (.cells (madeCells #[.int k 0] m) e)) B (.slice (some ⟨W.heap.size, 0, none⟩) m m) (List.replicate m 0) :=
  Kd.R_of_own (own_made_of' (enc := Value.int k) (d := (0 : Int)) W B e m hb hm) (fun _ _ => trivial)
/-- x & (2^j - 1) of an int, whatever its sign. -/
theorem i64_mask (x : Int) (m : Nat) (hm : m < 9223372036854775808) : ∃ r : Nat, Go.bits .and .i64 x (m : Int) = (r : Int) ∧ r ≤ m := by
  have h1 : (BitVec.ofInt 64 (m : Int)).toNat = m := by rw [BitVec.ofInt_natCast, BitVec.toNat_ofNat]; exact Nat.mod_eq_of_lt (by omega)
  have h2 : (BitVec.ofInt 64 x &&& BitVec.ofInt 64 (m : Int)).toNat ≤ m := by
    rw [BitVec.toNat_and, h1]
    exact Nat.and_le_right
  refine ⟨(BitVec.ofInt 64 x &&& BitVec.ofInt 64 (m : Int)).toNat, ?_, h2⟩
  show IntKind.i64.wrap ((BitVec.ofInt 64 x &&& BitVec.ofInt 64 (m : Int)).toNat : Int) = _
  rw [IntKind.wrap_i64]
  omega
theorem mn_nat (a b : Nat) : mn (a : Int) (b : Int) = ((min a b : Nat) : Int) := by unfold mn; split <;> omega
theorem mx_nat (a b : Nat) : mx (a : Int) (b : Int) = ((max a b : Nat) : Int) := by unfold mx; split <;> omega
/-- min of two and of three, as an equation for every world: m is their least. -/
theorem run_min2 {P : Program} {ats : Array TypeId} {ty : TypeId} (a b : Int) (w : World) : (Builtin.min_ ats ty #[.int .i64 a, .int .i64 b]).run P w = .ok (.int .i64 (mn a b)) w := by
  rw [min_two, min2_int]; simp [mn]
theorem run_max2 {P : Program} {ats : Array TypeId} {ty : TypeId} (a b : Int) (w : World) : (Builtin.max_ ats ty #[.int .i64 a, .int .i64 b]).run P w = .ok (.int .i64 (mx a b)) w := by
  rw [max_two, max2_int]; simp [mx]
theorem run_min3 {P : Program} {ats : Array TypeId} {ty : TypeId} (a b c : Int) (w : World) : (Builtin.min_ ats ty #[.int .i64 a, .int .i64 b, .int .i64 c]).run P w = .ok (.int .i64 (mn (mn a b) c)) w := by
  rw [min_three, min2_int, pure_bind, min2_int]; rfl
/-- Contracts of quiet calls, as go_quiet asks for them. -/
theorem quiet_left {P : Program} {f : FuncId} {args : Array Value} {w : World} {n : Nat} {v : Value}
    (h : Calls P f args (w.drewN n) fun e w' => e = .returned v ∧ w.drewN n = w') : Calls P f args (w.drewN n) fun e w'' => e = .returned v ∧ ∃ m, w'' = w.drewN m :=
  h.mono fun _ _ ⟨he, hm⟩ => ⟨he, n, hm.symm⟩
theorem quiet_add_left {P : Program} {f : FuncId} {args : Array Value} {w : World} {a n : Nat} {v : Value}
    (h : Calls P f args (w.drewN (a + n)) fun e w' => e = .returned v ∧ w.drewN (a + n) = w') :
    Calls P f args (w.drewN (a + n)) fun e w'' => e = .returned v ∧ ∃ m, w'' = w.drewN (a + m) :=
  h.mono fun _ _ ⟨he, hm⟩ => ⟨he, n, hm.symm⟩
theorem below_drewN_ {B : Nat} {w W : World} (h : Below B w W) (n : Nat) : Below B w (W.drewN n) := pw_below_drewN h n
theorem own_lit_ (k : IntKind) (e : TypeId) (w : World) (B : Nat) (xs : List Int) (n : Nat) (hn : xs.length = n) (hB : B ≤ w.heap.size) (hm : xs.length ≤ 9223372036854775807) :
    Own k e (w.alloc (.cells (nums k xs).toArray e)) B (.slice (some ⟨w.heap.size, 0, none⟩) n n) xs := own_e_lit e w B xs n hn hB hm
/-- .. the block's number given. -/
theorem own_lit_at (k : IntKind) (e : TypeId) (w : World) (B : Nat) (xs : List Int) (n g : Nat) (hg : w.heap.size = g) (hn : xs.length = n) (hB : B ≤ w.heap.size) (hm : xs.length ≤ 9223372036854775807) :
    Own k e (w.alloc (.cells (nums k xs).toArray e)) B (.slice (some ⟨g, 0, none⟩) n n) xs := by subst hg; exact own_e_lit e w B xs n hn hB hm
theorem C_lit (w : World) (k : IntKind) (t : TypeId) (fr : Nat × Nat) (l : List Int) (hn : l.length ≤ 9223372036854775807) (n : Nat) (hl : l.length = n) :
    Rds k (w.alloc (.cells (nums k l).toArray t fr)) (some ⟨w.heap.size, 0, none⟩) n l := rds_lit w t fr 0 l hn n hl
end Go.Proofs.Ytnkeijdpjcclcaa.Kit
-- Gr
/- Rows that may be appended to: rows of the call's own, and rows that are full (a constant's bytes, which bear a mark). -/
namespace Go.Proofs.Ytnkeijdpjcclcaa.Kit
set_option linter.unusedVariables false
open Go.RowKit Go.Proofs.YtnkeijdpjcclcaaW.PrintWords Go.Proofs.YtnkeijdpjcclcaaW.PrintLast Go.Proofs.YtnkeijdpjcclcaaW.PrintMore

section
variable {P : Program} {ops : Array Oper} {rest : List Oper} {o : Oper} {a : Act} {Q : Exit → Act → World → Prop} {Kc : Act → World → Prop} {α : Type} {enc : α → Value} {h1 : ∀ x, (enc x).oneCell' = true} {z : Value} {t e : TypeId} {bytes : Nat}
/-- A row that bears a mark behind its end (a conversion's), or none: it may be appended to. -/
def MkE {α : Type} (enc : α → Value) (e : TypeId) (w : World) (B : Nat) (v : Value) (xs : List α) : Prop :=
  ∃ g cap cur fr, v = .slice (some ⟨g, 0, none⟩) xs.length cap ∧ B ≤ g ∧ w.heap[g]? = some (.cells cur e fr) ∧ cur.size ≤ fr.1 ∧ xs.length ≤ cap ∧ cap ≤ 9223372036854775807 ∧ cur.size = cap ∧ cur.toList.take xs.length = encs enc xs
/-- A row of the call's own, or a marked one. -/
def GrE {α : Type} (enc : α → Value) (h1 : ∀ x, (enc x).oneCell' = true) (e : TypeId) (w : World) (B : Nat) (v : Value) (xs : List α) : Prop :=
  OwnE enc h1 e w B v xs ∨ MkE enc e w B v xs
abbrev Gr (k : IntKind) (e : TypeId) (w : World) (B : Nat) (v : Value) (xs : List Int) : Prop := GrE (Value.int k) (int_one k) e w B v xs
theorem gr_own {w : World} {B : Nat} {v : Value} {xs : List α} (h : OwnE enc h1 e w B v xs) : GrE enc h1 e w B v xs := .inl h
theorem gr_nil (e : TypeId) (w : World) (B : Nat) : GrE enc h1 e w B (.slice none 0 0) [] := .inl (own_e_nil e w B)
theorem gr_lower {w : World} {B B' : Nat} {v : Value} {xs : List α} (h : GrE enc h1 e w B v xs) (hb : B' ≤ B) : GrE enc h1 e w B' v xs := by
  rcases h with h | ⟨g, cap, cur, fr, hv, h1, h2⟩
  · exact .inl (own_lower h hb)
  · exact .inr ⟨g, cap, cur, fr, hv, by omega, h2⟩
theorem mk_lt {w : World} {g : Nat} {o : Obj} (h : w.heap[g]? = some o) : g < w.heap.size := (Array.getElem?_eq_some_iff.1 h).1
/-- The row's block is as it was. -/
theorem mk_move {w w' : World} {B : Nat} {v : Value} {xs : List α} (h : MkE enc e w B v xs) (hb : ∀ k, v.ownBlock = some k → w'.heap[k]? = w.heap[k]?) : MkE enc e w' B v xs := by
  obtain ⟨g, cap, cur, fr, rfl, k1, k2, k3⟩ := h
  exact ⟨g, cap, cur, fr, rfl, k1, (hb g rfl).trans k2, k3⟩
theorem gr_move {w w' : World} {B : Nat} {v : Value} {xs : List α} (h : GrE enc h1 e w B v xs) (hb : ∀ k, v.ownBlock = some k → w'.heap[k]? = w.heap[k]?) : GrE enc h1 e w' B v xs := by
  rcases h with h | h
  · exact .inl (Kd.R_of_own (own_move (Kd.own_of_R h) hb) (fun _ _ => trivial))
  · exact .inr (mk_move h hb)
theorem gr_lt {w : World} {B : Nat} {v : Value} {xs : List α} (h : GrE enc h1 e w B v xs) : ∀ j, v.ownBlock = some j → j < w.heap.size := by
  rcases h with h | ⟨g, cap, cur, fr, rfl, k1, k2, k3⟩
  · exact fun j hj => own_lt (Kd.own_of_R h) j hj
  · intro j hj
    simp only [Value.ownBlock, Option.some.injEq] at hj
    subst hj
    exact mk_lt k2
theorem gr_base {w : World} {B : Nat} {v : Value} {xs : List α} (h : GrE enc h1 e w B v xs) : ∀ j, v.ownBlock = some j → B ≤ j := by
  rcases h with h | ⟨g, cap, cur, fr, rfl, k1, k2, k3⟩
  · exact fun j hj => own_base (Kd.own_of_R h) j hj
  · intro j hj
    simp only [Value.ownBlock, Option.some.injEq] at hj
    omega
theorem gr_below {w w' : World} {B : Nat} {v : Value} {xs : List α} (h : GrE enc h1 e w B v xs) (hb : Below w.heap.size w w') : GrE enc h1 e w' B v xs :=
  gr_move h fun k hk => hb.block k (gr_lt h k hk)
theorem mk_cells {w : World} {g cap : Nat} {cur : Array Value} {fr : Nat × Nat} {xs : List α} (h : w.heap[g]? = some (.cells cur e fr)) (ht : cur.toList.take xs.length = encs enc xs) :
    ∀ j u, (encs enc xs)[j]? = some u → w.cell? ((⟨g, 0, none⟩ : Addr).add j) = some u := by
  intro j u hu
  rw [add_plain]
  rw [← ht, List.getElem?_take] at hu
  split at hu
  · simp only [World.cell?, h]
    simpa using hu
  · cases hu
theorem mk_rds (d : α) {w : World} {g cap : Nat} {cur : Array Value} {fr : Nat × Nat} {xs : List α} (h : w.heap[g]? = some (.cells cur e fr)) (hc : xs.length ≤ cap) (hm : cap ≤ 9223372036854775807) (ht : cur.toList.take xs.length = encs enc xs) :
    RdsE enc h1 w (some ⟨g, 0, none⟩) xs.length xs :=
  Kd.C_of_reads (d := d) ⟨rfl, by omega, fun hp => ⟨_, rfl, fun j hj => mk_cells (cap := cap) h ht j _ (by simp [encs, List.getElem?_eq_getElem hj, List.getD_eq_getElem?_getD])⟩⟩
theorem gr_open [Inhabited α] {w : World} {B : Nat} {v : Value} {xs : List α} (h : GrE enc h1 e w B v xs) :
    ∃ A n c, v = .slice A n c ∧ n ≤ c ∧ Hid (xs.length = n) ∧ n ≤ 9223372036854775807 ∧ RdsE enc h1 w A n xs := by
  rcases h with h | ⟨g, cap, cur, fr, hv, k1, k2, k3, k4, k5, k6, k7⟩
  · exact own_open h
  · exact ⟨_, _, cap, hv, k4, Lib.hid rfl, by omega, mk_rds default k2 k4 k5 k7⟩
/-- A constant's bytes, as they are laid: a marked row. -/
theorem gr_marked {e : TypeId} (w : World) (B : Nat) (fr : Nat × Nat) (xs : List α) (n : Nat) (hfr : n ≤ fr.1) (hn : xs.length = n) (hB : B ≤ w.heap.size) (hm : xs.length ≤ 9223372036854775807) :
    GrE enc h1 e (w.alloc (.cells (encs enc xs).toArray e fr)) B (.slice (some ⟨w.heap.size, 0, none⟩) n n) xs := by
  subst hn
  exact .inr ⟨w.heap.size, xs.length, _, fr, rfl, hB, heap_alloc_new w _, by simpa [encs] using hfr, Nat.le_refl _, hm, by simp [encs], by rw [List.take_of_length_le (by simp [encs])]⟩
theorem info_of (T : SlTy P t e z bytes) : ∃ i, P.info? e = some i ∧ i.zero = some z ∧ i.size = 1 ∧ i.bytes = bytes := by
  have h := T.info
  cases hi : P.info? e with
  | none => rw [hi] at h; simp at h
  | some i =>
    rw [hi] at h
    simp only [Option.map_some, Option.some.injEq, Prod.mk.injEq] at h
    exact ⟨i, rfl, h.1, h.2.1, h.2.2⟩
/-- What an append leaves: the row, longer; nothing but its block turned, or a new one. -/
structure Apd {α : Type} (enc : α → Value) (h1 : ∀ x, (enc x).oneCell' = true) (e : TypeId) (W w1 : World) (B : Nat) (v v1 : Value) (xs : List α) : Prop where
  own : GrE enc h1 e w1 B v1 xs
  fr : Fr W w1 v v1
/-- The run of an append onto such a row, its source read. -/
theorem gr_run [Inhabited α] (T : SlTy P t e z bytes) (ty : TypeId) {W : World} {B : Nat} {v : Value} {xs ys : List α} {A : Option Addr} {m c : Nat} (HO : GrE enc h1 e W B v xs) (HR : RdsE enc h1 W A m ys) (hbase : B ≤ W.heap.size) (hl : (xs.length + m) * bytes ≤ 140737488355328) :
    ∃ v1 w1, (Builtin.append_ #[t, t] ty #[v, .slice A m c]).run P W = .ok v1 w1 ∧ Apd enc h1 e W w1 B v v1 (xs ++ ys) := by
  obtain ⟨i, hi, hz, hsize, hby⟩ := info_of T
  have hp := T.pos
  have hm : ys.length = m := rds_len HR
  have hn1 : xs.length + m ≤ 140737488355328 := Nat.le_trans (Nat.le_mul_of_pos_right _ hp) hl
  rcases A with _ | ad
  · have h0 : m = 0 := by
      rcases Nat.eq_zero_or_pos m with h0 | h0
      · exact h0
      · obtain ⟨ad, h, _⟩ := rds_at default HR 0 h0
        cases h
    subst h0
    obtain rfl : ys = [] := List.eq_nil_of_length_eq_zero hm
    rw [List.append_nil]
    refine ⟨v, W, ?_, HO, ⟨World.grownBy.refl W _, .inl rfl⟩⟩
    rcases HO with HO | ⟨g, cap, cur, fr, rfl, k1, k2, k3, k4, k5, k6, k7⟩
    · rcases (Kd.own_of_R HO).2 with ⟨rfl, hn⟩ | ⟨g, cap, cur, rfl, _, _, hnc, _⟩
      · simp [Builtin.append_, run_underlying T.und, sizeOf, typeInfo, hi, Builtin.lenOf, Builtin.firstCells]
      · simp [Builtin.append_, run_underlying T.und, sizeOf, typeInfo, hi, Builtin.lenOf, Builtin.firstCells, hnc, storeCells]
    · simp [Builtin.append_, run_underlying T.und, sizeOf, typeInfo, hi, Builtin.lenOf, Builtin.firstCells, k4, storeCells]
  · have hnews : ∀ j u, (encs enc ys)[j]? = some u → W.cell? (ad.add j) = some u := by
      intro j u hu
      have hj : j < ys.length := by
        rcases Nat.lt_or_ge j (encs enc ys).length with h | h
        · simpa [encs] using h
        · rw [List.getElem?_eq_none h] at hu; cases hu
      obtain ⟨ad', e1, hc⟩ := rds_at default HR j (by omega)
      injection e1 with e1
      subst e1
      rw [hc, ← hu]
      simp [encs, List.getElem?_eq_getElem hj, List.getD_eq_getElem?_getD]
    have hone : ∀ u ∈ encs enc ys, u.oneCell' = true := by
      intro u hu
      obtain ⟨x, _, rfl⟩ := List.mem_map.1 hu
      exact h1 x
    have hyl : (encs enc ys).length = m := by rw [encs, List.length_map, hm]
    rcases HO with HO | ⟨g, cap, cur, fr, rfl, k1, k2, k3, k4, k5, k6, k7⟩
    · obtain ⟨v1, w1, hrun, h2, hg, _, hat⟩ := run_append_own_at (P := P) W B t ty e i z 1 bytes T.und hi hz hsize hby T.one (by omega) v xs.length (encs enc xs) (Kd.own_of_R HO) ad m c (encs enc ys) (by rw [hyl, Nat.mul_one]) hnews hone (by simp only [maxLen]; omega) hl hbase
      refine ⟨v1, w1, hrun, .inl (Kd.R_of_own ?_ (fun _ _ => trivial)), ⟨hg, ?_⟩⟩
      · rw [List.length_append, hm, show encs enc (xs ++ ys) = encs enc xs ++ encs enc ys by simp [encs]]
        exact h2
      · rcases hat with hat | hat
        · exact .inl hat
        · exact .inr ⟨_, hat, Nat.le_refl _⟩
    · have hf := run_firstCells_some (P := P) (w := W) i.size m ad m c (encs enc ys) (by rw [hyl, hsize, Nat.mul_one]) hnews
      by_cases hroom : xs.length + m ≤ cap
      · have hst : (storeCells ⟨g, xs.length, none⟩ (encs enc ys) 0).run P W = .ok () (W.setRow g (cur.toList.take (xs.length + 0) ++ encs enc ys ++ cur.toList.drop (xs.length + 0 + (encs enc ys).length)).toArray) := by
          have key : ∀ (vs : List Value) (i : Nat) (cur : Array Value) (w : World), w.heap[g]? = some (.cells cur e fr) → cur.size ≤ fr.1 → xs.length + i + vs.length ≤ cur.size → (∀ v ∈ vs, v.oneCell' = true) →
              (storeCells ⟨g, xs.length, none⟩ vs i).run P w = .ok () (w.setRow g (cur.toList.take (xs.length + i) ++ vs ++ cur.toList.drop (xs.length + i + vs.length)).toArray) := by
            intro vs
            induction vs with
            | nil =>
              intro i cur w hg _ _ _
              simp only [storeCells, List.append_nil, List.length_nil, Nat.add_zero, List.take_append_drop, Array.toArray_toList]
              rw [setRow_self w g cur e fr hg]
              rfl
            | cons v rest ih =>
              intro i cur w hg hfr hl h1
              have hi : xs.length + i < cur.size := by simp at hl; omega
              have hadd : (⟨g, xs.length, none⟩ : Addr).add i = ⟨g, xs.length + i, none⟩ := by unfold Addr.add; split <;> simp_all
              have hcell : w.cell? ⟨g, xs.length + i, none⟩ = some cur[xs.length + i] := by simp [World.cell?, hg, hi]
              have hfro : w.frozen? ⟨g, xs.length + i, none⟩ = false := by
                obtain ⟨lo, hi'⟩ := fr
                simp only [World.frozen?, hg, Bool.and_eq_false_iff, decide_eq_false_iff_not]
                left
                simp only at hfr
                omega
              have hst : (store ((⟨g, xs.length, none⟩ : Addr).add i) v).run P w = .ok () (w.setRow g (cur.setIfInBounds (xs.length + i) v)) := by
                rw [hadd, run_store P w _ v _ (h1 v (by simp)), hcell]
                simp [hfro, setCell_eq_setRow w g (xs.length + i) cur e fr v hg]
              have ih := ih (i + 1) (cur.setIfInBounds (xs.length + i) v) (w.setRow g (cur.setIfInBounds (xs.length + i) v)) (setRow_heap w g cur _ e _ hg) (by simpa using hfr) (by simp at hl ⊢; omega) (fun x hx => h1 x (by simp [hx]))
              simp only [storeCells, Sem.run_bind, hst, Result.andThen_ok, ih, setRow_setRow]
              congr 3
              have e := list_seg_step cur.toList (xs.length + i) v rest (by simp at hl ⊢; omega)
              simpa [Array.toList_setIfInBounds, Nat.add_assoc] using e
          exact key (encs enc ys) 0 cur W k2 k3 (by rw [hyl]; omega) hone
        simp only [Nat.add_zero] at hst
        have hrun : (Builtin.append_ #[t, t] ty #[.slice (some ⟨g, 0, none⟩) xs.length cap, .slice (some ad) m c]).run P W = .ok (.slice (some ⟨g, 0, none⟩) (xs.length + m) cap) (W.setRow g (cur.toList.take xs.length ++ encs enc ys ++ cur.toList.drop (xs.length + (encs enc ys).length)).toArray) := by
          rw [hsize] at hf
          simp [Builtin.append_, run_underlying T.und, sizeOf, typeInfo, hi, Builtin.lenOf, hroom, hf, Addr.add_lit, hsize, hst]
        refine ⟨_, _, hrun, .inr ⟨g, cap, _, fr, by rw [List.length_append, hm], k1, setRow_heap W g cur _ e _ k2, ?_, by rw [List.length_append, hm]; exact hroom, k5, ?_, ?_⟩, ⟨⟨rfl, rfl, rfl, by simp, fun k _ hk => setRow_other W g k _ (fun e => hk (by simp [Value.ownBlock, e]))⟩, .inl rfl⟩⟩
        · simp only [List.size_toArray, List.length_append, List.length_take, List.length_drop, Array.length_toList, hyl]
          omega
        · simp only [List.size_toArray, List.length_append, List.length_take, List.length_drop, Array.length_toList, hyl]
          omega
        · have hlx : (encs enc xs).length = xs.length := by simp [encs]
          rw [k7, List.length_append, hm, show encs enc (xs ++ ys) = encs enc xs ++ encs enc ys by simp [encs], List.append_assoc]
          rw [← List.append_assoc, List.take_left' (by rw [List.length_append, hlx, hyl])]
      · have hrun := run_append_grow (P := P) W t ty e i z T.und hi hz ⟨g, 0, none⟩ xs.length cap (encs enc xs) (by rw [hsize, encs, List.length_map]; omega) (mk_cells (cap := cap) k2 k7) ad m c (encs enc ys) (by rw [hyl, hsize, Nat.mul_one]) hnews (by omega) (by omega)
          (by rw [hby]; exact growslice_fits (by omega) hl)
        refine ⟨_, _, hrun, .inl (Kd.R_of_own ?_ (fun _ _ => trivial)), ⟨⟨rfl, rfl, rfl, by simp, fun k hk _ => heap_alloc_old W.drew _ hk⟩, .inr ⟨_, rfl, Nat.le_refl _⟩⟩⟩
        have hcm : grownCap W (xs.length + m) cap e ≤ maxLen := grownCap_le_maxLen _ _ _ _ (by simp only [maxLen]; omega)
        have hge := grownCap_ge W (xs.length + m) cap e
        refine ⟨by simp [encs, hm], .inr ⟨_, _, _, by rw [List.length_append, hm], hbase, heap_alloc_new W.drew _, by rw [List.length_append, hm]; exact hge, hcm, ?_, ?_⟩⟩
        · simp only [Array.size_append, List.size_toArray, size_zeroCells, encs, List.length_map, hm, T.one]
          omega
        · simp only [Array.toList_append, encs, List.map_append, List.append_assoc]
          rw [← List.append_assoc, List.take_left' (by simp [hm])]
/-- append(v, x...), behind at_builtin. -/
theorem gapp_row [Inhabited α] (T : SlTy P t e z bytes) (hgd : o.guard = none) (s x : Operand) (ho : o.op = .call { callee := .builtin .append, args := #[s, x], argTypes := #[t, t] })
    {w0 W : World} {B : Nat} {v : Value} {xs : List α} {A : Option Addr} {m c : Nat} {ys : List α} (hs : a.eval s = v) (hx : a.eval x = .slice A m c)
    (HO : GrE enc h1 e W B v xs) (HR : RdsE enc h1 W A m ys) (HB : Below B w0 W) (hbase : B ≤ W.heap.size) (hl : (xs.length + m) * bytes ≤ 140737488355328)
    (h : ∀ v1 w1, GrE enc h1 e w1 B v1 (xs ++ ys) → Below B w0 w1 → B ≤ w1.heap.size → Fr W w1 v v1 → wpList P ops Q rest (a.put o.dst v1) w1) :
    wpList P ops Q (o :: rest) a W := by
  obtain ⟨v1, w1, hrun, hA⟩ := gr_run (c := c) T o.type HO HR hbase hl
  refine wpList_plain hgd fun K hK => ?_
  unfold Oper.wp execOp
  simp only [ho, resolve, invoke, builtin, Sem.run_bind, Sem.run_pure, Result.andThen_ok, List.map_toArray, List.map_cons, List.map_nil, hs, hx, hrun]
  exact hK _ _ (h v1 w1 hA.own (HB.grown hA.fr.grown hbase (gr_base HO)) (Nat.le_trans hbase hA.fr.size) hA.fr)
/-- append(v, x) of one element. -/
theorem gapp_one [Inhabited α] (T : SlTy P t e z bytes) (hgd : o.guard = none) (s x : Operand) (ho : o.op = .call { callee := .builtin .append, args := #[s, x], argTypes := #[t, t] })
    {w0 W : World} {B : Nat} {v : Value} {xs : List α} {p : α} (hs : a.eval s = v) (hx : a.eval x = .slice (some ⟨W.heap.size, 0, none⟩) 1 1)
    (HO : GrE enc h1 e W B v xs) (HB : Below B w0 W) (hbase : B ≤ W.heap.size) (hl : (xs.length + 1) * bytes ≤ 140737488355328)
    (h : ∀ v1 w1, GrE enc h1 e w1 B v1 (xs ++ [p]) → Below B w0 w1 → B ≤ w1.heap.size → Fr W w1 v v1 → wpList P ops Q rest (a.put o.dst v1) w1) :
    wpList P ops Q (o :: rest) a (W.alloc (.cells #[enc p] e)) := by
  have hb1 : Below W.heap.size W (W.alloc (.cells #[enc p] e)) := below_alloc (Below.refl _ _) _
  refine gapp_row T hgd s x ho hs hx (gr_below HO hb1) (rds_lit W e (0, 0) default [p] (by simp) 1 rfl) (below_then HB hbase hb1) (Nat.le_trans hbase hb1.size) hl fun v1 w1 k1 k2 k3 k4 => h v1 w1 k1 k2 k3 ⟨?_, ?_⟩
  · refine ⟨k4.grown.os, k4.grown.tape, k4.grown.output, Nat.le_trans hb1.size k4.grown.size, fun k hk hne => ?_⟩
    rw [k4.grown.block k (Nat.lt_of_lt_of_le hk hb1.size) hne]
    exact hb1.block k hk
  · rcases k4.at_ with q | ⟨b, q1, q2⟩
    · exact .inl q
    · exact .inr ⟨b, q1, Nat.le_trans hb1.size q2⟩
/-- Bytes of a text. -/
def numsOf (s : ByteArray) : List Int := s.toList.map fun b => (b.toNat : Int)
theorem numsOf_length (s : ByteArray) : (numsOf s).length = s.size := by rw [numsOf, List.length_map, ByteArray.toList_eq]; rfl
theorem numsOf_byte (s : ByteArray) : ∀ x ∈ numsOf s, 0 ≤ x ∧ x < 256 := by
  intro x hx
  obtain ⟨b, _, rfl⟩ := List.mem_map.1 hx
  have := b.toNat_lt
  omega
theorem strOfNums_numsOf (s : ByteArray) : strOfNums (numsOf s) = s := by
  apply ByteArray.ext
  apply Array.toList_inj.1
  rw [strOfNums_data, numsOf, List.map_map, ByteArray.toList_eq]
  conv => rhs; rw [← List.map_id s.data.toList]
  exact List.map_congr_left fun b _ => by simp
theorem numsOf_strOfNums (xs : List Int) (h : ∀ x ∈ xs, 0 ≤ x ∧ x < 256) : numsOf (strOfNums xs) = xs := by
  rw [numsOf, ByteArray.toList_eq, strOfNums_data, List.map_map]
  conv => rhs; rw [← List.map_id xs]
  refine List.map_congr_left fun x hx => ?_
  have := h x hx
  simp
  omega
/-- []byte(s) of a text that is no constant. -/
theorem conv_bytes {P : Program} {t src e : TypeId} {u : TypeDesc} (hs : P.underlying src = some u) (hd : P.underlying t = some (.slice e)) (he : P.underlying e = some (.int .u8)) (w : World) (s : ByteArray) (hm : s.size ≤ maxLen) {B : Nat} (hB : B ≤ w.heap.size) :
    ∃ v w', (convert src t (.string s)).run P w = .ok v w' ∧ Below w.heap.size w w' ∧ Gr .u8 e w' B v (numsOf s) ∧ v.ownBlock = some w.heap.size := by
  have hcm : grownCap w s.size 0 e ≤ maxLen := grownCap_le_maxLen _ _ _ _ hm
  have hge := grownCap_ge w s.size 0 e
  have hsz : (Lib.bytesCells w e s).size = grownCap w s.size 0 e := by
    simp only [Lib.bytesCells, Array.size_append, Array.size_map, Array.size_replicate]
    show s.size + _ = _
    omega
  refine ⟨_, _, Lib.run_convert_string_bytes w src t e s hs hd he, ⟨rfl, rfl, rfl, by rw [Lib.bytesWorld_size]; omega, fun i hi => Lib.bytesWorld_at_old w e s i hi⟩, .inr ⟨w.heap.size, grownCap w s.size 0 e, _, _, ?_, hB, Lib.bytesWorld_at_new w e s, Nat.le_refl _, ?_, by simpa only [maxLen] using hcm, hsz, ?_⟩, rfl⟩
  · rw [numsOf_length]
  · rw [numsOf_length]; exact hge
  · rw [numsOf_length, Lib.bytesCells, Array.toList_append, List.take_left' (by simp)]
    simp [encs, numsOf, ByteArray.toList_eq]
theorem conv_gr {P : Program} {t e dst : TypeId} {bytes : Nat} {z : Value} (T : SlTy P t e z bytes) (he : P.underlying e = some (.int .u8)) (hd : P.underlying dst = some .string) {w : World} {B : Nat} {v : Value} {xs : List Int} (h : Gr .u8 e w B v xs) :
    (convert t dst v).run P w = .ok (.string (strOfNums xs)) w := by
  obtain ⟨A, n, c, rfl, _, hl, _, hr⟩ := gr_open h
  have hl := hl.out
  subst hl
  exact Kd.C_string T.und he hd hr
end
theorem Fr.keep_gr {k : IntKind} {W w1 : World} {v v1 u : Value} {e : TypeId} {B : Nat} {xs : List Int} (h : Fr W w1 v v1) (hu : Gr k e W B u xs) (ha : Apart u v) : Gr k e w1 B u xs :=
  gr_move hu fun j hj => h.grown.block j (gr_lt hu j hj) (by
    rcases ha.ne with h | h
    · rw [h] at hj; cases hj
    · rw [← hj]; exact h)
theorem Fr.apart_gr {k : IntKind} {W w1 : World} {v v1 u : Value} {e : TypeId} {B : Nat} {xs : List Int} (h : Fr W w1 v v1) (hu : Gr k e W B u xs) (ha : Apart u v) : Apart u v1 := ⟨by
  rcases h.at_ with h2 | ⟨b, hb, hle⟩
  · rw [h2]; exact ha.out
  · cases hk : u.ownBlock with
    | none => exact .inl rfl
    | some k =>
      have := gr_lt hu k hk
      exact .inr (.inr (by rw [hb]; intro he; injection he with he; omega))⟩
theorem apart_new_gr {k : IntKind} {W : World} {u v : Value} {e : TypeId} {B : Nat} {xs : List Int} (hu : Gr k e W B u xs) (hv : ∀ k, v.ownBlock = some k → W.heap.size ≤ k) : Apart u v := ⟨by
  cases hk : u.ownBlock with
  | none => exact .inl rfl
  | some k =>
    have := gr_lt hu k hk
    refine .inr (.inr fun he => ?_)
    have := hv k he.symm
    omega⟩
end Go.Proofs.Ytnkeijdpjcclcaa.Kit
-- Kit2
/- More words of this seat's own walks. -/
namespace Go.Proofs.Ytnkeijdpjcclcaa.Kit
set_option linter.unusedVariables false
open Go.RowKit Go.Proofs.YtnkeijdpjcclcaaW.PrintWords Go.Proofs.YtnkeijdpjcclcaaW.PrintLast Go.Proofs.YtnkeijdpjcclcaaW.PrintMore

section
variable {P : Program} {ops : Array Oper} {rest : List Oper} {o : Oper} {a : Act} {Q : Exit → Act → World → Prop} {Kc : Act → World → Prop} {α : Type} {enc : α → Value} {h1 : ∀ x, (enc x).oneCell' = true} {z : Value} {t e : TypeId} {bytes : Nat}
/-- append(v, x) of one element: the block's number given. -/
theorem app_one_at (T : SlTy P t e z bytes) (hgd : o.guard = none) (s x : Operand) (ho : o.op = .call { callee := .builtin .append, args := #[s, x], argTypes := #[t, t] })
    {w0 W : World} {B g : Nat} {v : Value} {xs : List α} {p : α} (hs : a.eval s = v) (hx : a.eval x = .slice (some ⟨g, 0, none⟩) 1 1) (hg : W.heap.size = g)
    (HO : OwnE enc h1 e W B v xs) (HB : Below B w0 W) (hbase : B ≤ W.heap.size) (hl : (xs.length + 1) * bytes ≤ 140737488355328)
    (h : ∀ v1 w1, OwnE enc h1 e w1 B v1 (xs ++ [p]) → Below B w0 w1 → B ≤ w1.heap.size → Fr W w1 v v1 → wpList P ops Q rest (a.put o.dst v1) w1) :
    wpList P ops Q (o :: rest) a (W.alloc (.cells #[enc p] e)) := by
  subst hg
  exact app_one T hgd s x ho hs hx HO HB hbase hl h
end
theorem rds_lit_at (k : IntKind) (w : World) (t : TypeId) (fr : Nat × Nat) (l : List Int) (n g : Nat) (hg : w.heap.size = g) (hn : l.length ≤ 9223372036854775807) (hl : l.length = n) :
    Rds k (w.alloc (.cells (nums k l).toArray t fr)) (some ⟨g, 0, none⟩) n l := by subst hg; exact C_lit w k t fr l hn n hl
theorem own_new {k : IntKind} {e : TypeId} {w : World} {B : Nat} {v : Value} {xs : List Int} (h : Own k e w B v xs) : ∀ j, v.ownBlock = some j → B ≤ j := fun j hj => own_base (Kd.own_of_R h) j hj
theorem own_le {k : IntKind} {e : TypeId} {w : World} {B n c : Nat} {A : Option Addr} {xs : List Int} (h : Own k e w B (.slice A n c) xs) : n ≤ c := (Kd.R_reads' h).2.1
theorem own_rds {k : IntKind} {e : TypeId} {w : World} {B n c : Nat} {A : Option Addr} {xs : List Int} (h : Own k e w B (.slice A n c) xs) : Rds k w A n xs := by
  obtain ⟨rfl, _, h2⟩ := Kd.R_reads' h
  exact h2
theorem own_at_base {k : IntKind} {e : TypeId} {w : World} {B n c g : Nat} {xs : List Int} (h : Own k e w B (.slice (some ⟨g, 0, none⟩) n c) xs) : B ≤ g := own_base (Kd.own_of_R h) g rfl
theorem Fr.refl (w : World) (v : Value) : Fr w w v v := ⟨World.grownBy.refl w _, .inl rfl⟩
theorem Fr.below {W w w' : World} {v v1 : Value} (h : Fr W w v v1) (hb : Below w.heap.size w w') : Fr W w' v v1 :=
  ⟨⟨hb.os.trans h.grown.os, hb.tape.trans h.grown.tape, hb.output.trans h.grown.output, Nat.le_trans h.grown.size hb.size, fun i hi hne => (hb.block i (Nat.lt_of_lt_of_le hi h.grown.size)).trans (h.grown.block i hi hne)⟩, h.at_⟩
theorem Fr.alloc {W w : World} {v v1 : Value} (h : Fr W w v v1) (o : Obj) : Fr W (w.alloc o) v v1 := h.below (below_alloc (Below.refl _ _) o)
theorem Fr.drew {W w : World} {v v1 : Value} (h : Fr W w v v1) : Fr W w.drew v v1 := h.below (below_drew (Below.refl _ _))
theorem Fr.trans {W w w' : World} {v v1 v2 : Value} (h : Fr W w v v1) (k : Fr w w' v1 v2) : Fr W w' v v2 := by
  refine ⟨⟨k.grown.os.trans h.grown.os, k.grown.tape.trans h.grown.tape, k.grown.output.trans h.grown.output, Nat.le_trans h.grown.size k.grown.size, fun i hi hne => ?_⟩, ?_⟩
  · refine (k.grown.block i (Nat.lt_of_lt_of_le hi h.grown.size) ?_).trans (h.grown.block i hi hne)
    rcases h.at_ with e | ⟨b, e, hb⟩
    · rw [e]; exact hne
    · rw [e]; intro he; injection he with he; omega
  · rcases k.at_ with e | ⟨b, e, hb⟩
    · rw [e]; exact h.at_
    · exact .inr ⟨b, e, Nat.le_trans h.grown.size hb⟩
/-- From an elder world: nothing of it but the row's block has turned. -/
theorem Fr.from {W0 W w : World} {v v1 : Value} (hb : Below W0.heap.size W0 W) (h : Fr W w v v1) : Fr W0 w v v1 := by
  refine ⟨⟨h.grown.os.trans hb.os, h.grown.tape.trans hb.tape, h.grown.output.trans hb.output, Nat.le_trans hb.size h.grown.size, fun i hi hne => (h.grown.block i (Nat.lt_of_lt_of_le hi hb.size) hne).trans (hb.block i hi)⟩, ?_⟩
  rcases h.at_ with e | ⟨b, e, hbb⟩
  · exact .inl e
  · exact .inr ⟨b, e, Nat.le_trans hb.size hbb⟩
/-- A row of the call's own that is being appended to, behind some steps: what it holds now, and that nothing else has turned. -/
structure App (k : IntKind) (E : TypeId) (w0 w wr : World) (v vr : Value) (xs : List Int) : Prop where
  own : Gr k E wr w0.heap.size vr xs
  bel : Below w0.heap.size w0 wr
  fr : Fr w wr v vr
/-- Bytes. -/
def isByte (l : List Int) : Prop := ∀ x ∈ l, 0 ≤ x ∧ x < 256
theorem wf_u8 {x : Int} (h : (Lit.int .u8 x).wf = true) : 0 ≤ x ∧ x < 256 := by
  simp [Lit.wf, IntKind.min, IntKind.max, IntKind.signed, IntKind.bits] at h
  omega
theorem wf_u32 {x : Int} (h : (Lit.int .u32 x).wf = true) : 0 ≤ x ∧ x < 4294967296 := by
  simp [Lit.wf, IntKind.min, IntKind.max, IntKind.signed, IntKind.bits] at h
  omega
theorem wf_u64 {x : Int} (h : (Lit.int .u64 x).wf = true) : 0 ≤ x ∧ x < 18446744073709551616 := by
  simp [Lit.wf, IntKind.min, IntKind.max, IntKind.signed, IntKind.bits] at h
  omega
theorem wf_i64 {x : Int} (h : (Lit.int .i64 x).wf = true) : -9223372036854775808 ≤ x ∧ x ≤ 9223372036854775807 := by
  simp [Lit.wf, IntKind.min, IntKind.max, IntKind.signed, IntKind.bits] at h
  omega
end Go.Proofs.Ytnkeijdpjcclcaa.Kit
-- Any
/- Regions that draw their order: one obligation an operation, whatever order is drawn. -/
namespace Go.Proofs.Ytnkeijdpjcclcaa.Kit
set_option linter.unusedVariables false
set_option linter.unusedSimpArgs false
open Go.RowKit Go.Proofs.YtnkeijdpjcclcaaW.PrintWords Go.Proofs.YtnkeijdpjcclcaaW.PrintLast Go.Proofs.YtnkeijdpjcclcaaW.PrintMore

section
variable {P : Program} {ops : Array Oper} {Q : Exit → Act → World → Prop}
/-- What an operation's result tells: a value and a world. -/
def Told (P : Program) (R : Value → World → Prop) : Result Next → Prop
  | .ok (.value v) w' => R v w'
  | .ok .skip w' => R undef w'
  | .ok (.enter f args) w' => Calls P f args w' fun e w'' => ∃ v, e = .returned v ∧ R v w''
  | _ => False
/-- The operation, in this state and world, leaves a value and a world of which R tells. -/
def Yl (P : Program) (ops : Array Oper) (o : Oper) (a : Act) (w : World) (R : Value → World → Prop) : Prop :=
  if Region.wanted o (yielded ops a.tmps) = true then Told P R ((execOp a.eval o).run P w) else R undef w
theorem Yl.wpOp {i : Nat} {o : Oper} {a : Act} {w : World} {R : Value → World → Prop} {K : Act → World → Prop} (hi : ops[i]? = some o) (h : Yl P ops o a w R)
    (hK : ∀ v w', R v w' → K (a.put o.dst v) w') : wpOp P ops Q i K a w := by
  unfold Yl at h
  unfold Go.wpOp
  simp only [hi]
  split
  · rename_i hw
    rw [if_pos hw] at h
    left
    unfold Oper.wp
    generalize (execOp a.eval o).run P w = r at h
    cases r with
    | ok n w' =>
      cases n <;> simp only [Told] at h <;> simp only [Oper.upon]
      case value v => exact hK _ _ h
      case skip => exact hK _ _ h
      case enter f args =>
        refine h.mono ?_
        rintro e w'' ⟨v, rfl, hr⟩
        exact hK _ _ hr
    | halt x w' => exact h.elim
  · rename_i hw
    rw [if_neg hw] at h
    exact hK _ _ h
/-- The frame behind the first n operations. -/
def putN (ops : Array Oper) (vs : Nat → Value) : Nat → Act → Act
  | 0, a => a
  | n + 1, a => (putN ops vs n a).put ((ops[n]?).bind (·.dst)) (vs n)
def dstOf (ops : Array Oper) (i : Nat) : Option Tmp := (ops[i]?).bind (·.dst)
/-- The table D (what must have come up before i) is right, destinations are distinct, and who reads or writes another's destination waits for it (or is waited for). -/
def okAny (ops : Array Oper) (D : List (List Nat)) : Bool :=
  (D.length == ops.size) && Region.noSelect ops &&
  (List.range ops.size).all fun i =>
    (match ops[i]? with | some o => o.after.all fun e => !Region.binds .any e || decide (e.on < i) | none => true) &&
    ((D.getD i []).all fun j => decide (j < i) && match ops[i]? with
      | some o => o.after.any fun e => Region.binds .any e && (e.on == j || (decide (e.on < ops.size) && (D.getD e.on []).contains j))
      | none => false) &&
    (List.range ops.size).all fun j => decide (i = j) ||
      (match dstOf ops j with
       | none => true
       | some d => (dstOf ops i != some d) && (match ops[i]? with
          | some o => !(o.looksAt ops).contains d || (D.getD i []).contains j || (D.getD j []).contains i
          | none => true))
theorem put_get (a : Act) (d : Option Tmp) (v : Value) (t : Nat) : (a.put d v).tmps[t]? = if d = some t ∧ t < a.tmps.size then some v else a.tmps[t]? := by
  cases d with
  | none => simp [Act.put]
  | some d =>
    simp only [Act.put, Array.getElem?_setIfInBounds, Option.some.injEq]
    by_cases h : d = t
    · subst h
      by_cases h2 : d < a.tmps.size
      · simp [h2]
      · simp [h2]
    · simp [h]
theorem put_size (a : Act) (d : Option Tmp) (v : Value) : (a.put d v).tmps.size = a.tmps.size := by cases d <;> simp [Act.put]
theorem put_defers (a : Act) (d : Option Tmp) (v : Value) : (a.put d v).defers = a.defers := by cases d <;> simp [Act.put]
theorem putN_size (vs : Nat → Value) (a : Act) : ∀ n, (putN ops vs n a).tmps.size = a.tmps.size
  | 0 => rfl
  | n + 1 => by simp only [putN]; rw [put_size, putN_size vs a n]
theorem putN_defers (vs : Nat → Value) (a : Act) : ∀ n, (putN ops vs n a).defers = a.defers
  | 0 => rfl
  | n + 1 => by simp only [putN]; rw [put_defers, putN_defers vs a n]
/-- No two operations have one destination. -/
def Dist (ops : Array Oper) : Prop := ∀ i j t, dstOf ops i = some t → dstOf ops j = some t → i = j
theorem putN_out (vs : Nat → Value) (a : Act) (t : Nat) : ∀ n, (∀ j, j < n → dstOf ops j ≠ some t) → (putN ops vs n a).tmps[t]? = a.tmps[t]?
  | 0, _ => rfl
  | n + 1, h => by
    simp only [putN]
    rw [put_get, if_neg (fun hh => h n (by omega) hh.1)]
    exact putN_out vs a t n (fun j hj => h j (by omega))
theorem putN_in (hd : Dist ops) (vs : Nat → Value) (a : Act) (t i : Nat) (hi : dstOf ops i = some t) (ht : t < a.tmps.size) : ∀ n, i < n → (putN ops vs n a).tmps[t]? = some (vs i)
  | 0, h => by omega
  | n + 1, h => by
    simp only [putN]
    rw [put_get]
    by_cases hn : dstOf ops n = some t
    · have := hd i n t hi hn
      subst this
      rw [if_pos ⟨hn, by rw [putN_size]; exact ht⟩]
    · rw [if_neg (fun hh => hn hh.1)]
      have hne : i ≠ n := fun e => hn (e ▸ hi)
      exact putN_in hd vs a t i hi ht n (by omega)
/-- The state in the midst of a drawn order. L: the operations that write in turn (each one's fact serves the next alone). -/
structure Mid (ops : Array Oper) (D : List (List Nat)) (L : List Nat) (Inv J : World → Prop) (F : Nat → Value → World → Prop) (fx : Nat → Bool) (a0 : Act) (vs : Nat → Value) (l : Array Bool) (a : Act) (w : World) : Prop where
  size : l.size = ops.size
  tsz : a.tmps.size = a0.tmps.size
  dfr : a.defers = a0.defers
  out : ∀ t, (∀ i, l.getD i false = true → dstOf ops i ≠ some t) → a.tmps[t]? = a0.tmps[t]?
  mem : ∀ i t, l.getD i false = true → dstOf ops i = some t → t < a0.tmps.size → a.tmps[t]? = some (vs i)
  shut : ∀ i, l.getD i false = true → ∀ j ∈ D.getD i [], l.getD j false = true
  inv : Inv w
  head : (∀ k ∈ L, l.getD k false = false) → J w
  facts : ∀ i, l.getD i false = true → (i ∈ L → ∀ k ∈ L, l.getD k false = true → k ≤ i) → (fx i = true ∨ i ∈ L ∨ ∀ q ∈ L, ¬ l.getD q false = true) → F i (vs i) w
/-- Operation j's fact may serve operation i. -/
def useB (L : List Nat) (j i : Nat) : Bool := !(L.contains j) || L.all fun k => decide (k ≤ j) || (L.contains i && decide (i ≤ k))
theorem useB_spec {L : List Nat} {j i : Nat} (h : useB L j i = true) (hj : j ∈ L) (k : Nat) (hk : k ∈ L) : k ≤ j ∨ (i ∈ L ∧ i ≤ k) := by
  simp only [useB, Bool.or_eq_true, Bool.not_eq_true', List.all_eq_true, decide_eq_true_eq, Bool.and_eq_true, List.contains_iff_mem] at h
  rcases h with h | h
  · have : L.contains j = true := by simpa using hj
    rw [this] at h; cases h
  · exact h k hk
/-- Operation i has its turn ahead of all that write in turn (or is the first of them). -/
def earlyB (D : List (List Nat)) (L : List Nat) (i : Nat) : Bool := L.all fun k => Nat.beq i k || (D.getD k []).contains i
theorem earlyB_spec {D : List (List Nat)} {L : List Nat} {i : Nat} (h : earlyB D L i = true) (k : Nat) (hk : k ∈ L) : i = k ∨ i ∈ D.getD k [] := by
  have := List.all_eq_true.1 h k hk
  simp only [Bool.or_eq_true, List.contains_iff_mem] at this
  exact this.imp Nat.eq_of_beq_eq_true id
/-- Operation j's fact (b: the world is nothing to it) may serve operation i. -/
def useE (D : List (List Nat)) (L : List Nat) (b : Bool) (j i : Nat) : Bool := useB L j i && (L.contains j || (earlyB D L i || b))
theorem useE_spec {D : List (List Nat)} {L : List Nat} {b : Bool} {j i : Nat} (h : useE D L b j i = true) : useB L j i = true ∧ (j ∈ L ∨ earlyB D L i = true ∨ b = true) := by
  simp only [useE, Bool.and_eq_true, Bool.or_eq_true, List.contains_iff_mem] at h
  exact h
theorem getD_false_lt {l : Array Bool} {i : Nat} (h : l.getD i false = true) : i < l.size := by
  rcases Nat.lt_or_ge i l.size with h' | h'
  · exact h'
  · simp [Array.getElem?_eq_none h'] at h
theorem getD_true_of_lt {l : Array Bool} {i : Nat} (hi : i < l.size) (h : ¬ l.getD i false = true) : l.getD i true = false := by
  simp [hi] at h ⊢; exact h
theorem dst_lt {i : Nat} {t : Tmp} (h : dstOf ops i = some t) : i < ops.size := by
  unfold dstOf at h
  rcases Nat.lt_or_ge i ops.size with h' | h'
  · exact h'
  · rw [Array.getElem?_eq_none h'] at h; cases h
/-- The operation looks at operands and its guard alone. -/
theorem told_congr {o : Oper} {a b : Act} {w : World} {R : Value → World → Prop} (hs : ∀ cs b, o.op ≠ .select cs b) (h : ∀ t ∈ o.looksAt ops, a.tmps[t]? = b.tmps[t]?) (hy : Yl P ops o b w R) : Yl P ops o a w R := by
  have e1 : execOp a.eval o = execOp b.eval o := execOp_congr o hs fun x hx => by
    cases x with
    | tmp t =>
      have ht := h t (List.mem_append_left _ (List.mem_filterMap.2 ⟨.tmp t, by simpa using hx, rfl⟩))
      simp [Act.eval, ht]
    | _ => rfl
  have e2 : Region.wanted o (yielded ops a.tmps) = Region.wanted o (yielded ops b.tmps) := by
    unfold Region.wanted
    cases hg : o.guard with
    | none => rfl
    | some gw =>
      obtain ⟨g, want⟩ := gw
      have hy : yielded ops a.tmps g = yielded ops b.tmps g := by
        unfold yielded
        cases ht : (ops[g]?).bind (·.dst) with
        | none => rfl
        | some t =>
          have := h t (by simp [Oper.looksAt, hg, ht])
          simp [this]
      simp only [hy]
  unfold Yl at *
  rw [e1, e2]
  exact hy
def upd (vs : Nat → Value) (i : Nat) (v : Value) : Nat → Value := fun j => if j = i then v else vs j
theorem upd_same (vs : Nat → Value) (i : Nat) (v : Value) : upd vs i v i = v := by simp [upd]
theorem upd_other (vs : Nat → Value) {i j : Nat} (v : Value) (h : j ≠ i) : upd vs i v j = vs j := by simp [upd, h]
/-- How many have not come up yet. -/
def cnt (l : Array Bool) : Nat → Nat
  | 0 => 0
  | n + 1 => cnt l n + if l.getD n false = true then 0 else 1
theorem cnt_zero {l : Array Bool} : ∀ n, cnt l n = 0 → ∀ i, i < n → l.getD i false = true
  | 0, _, _, h => by omega
  | n + 1, h, i, hi => by
    simp only [cnt] at h
    split at h
    · rename_i hl
      rcases Nat.lt_or_ge i n with h2 | h2
      · exact cnt_zero n (by omega) i h2
      · obtain rfl : i = n := by omega
        exact hl
    · omega
theorem getD_set_self {l : Array Bool} {i : Nat} (h : i < l.size) : (l.setIfInBounds i true).getD i false = true := by simp [h]
theorem cnt_above {l : Array Bool} {i : Nat} : ∀ n, n ≤ i → cnt (l.setIfInBounds i true) n = cnt l n
  | 0, _ => rfl
  | n + 1, h => by
    simp only [cnt]
    rw [cnt_above n (by omega), getD_set_ne false (show i ≠ n by omega)]
theorem cnt_set {l : Array Bool} {i : Nat} (hl : i < l.size) (hn : ¬ l.getD i false = true) : ∀ n, i < n → cnt (l.setIfInBounds i true) n + 1 = cnt l n
  | 0, h => by omega
  | n + 1, h => by
    simp only [cnt]
    by_cases hi : i = n
    · subst hi
      rw [cnt_above i (Nat.le_refl _), if_pos (getD_set_self hl), if_neg hn]
    · rw [getD_set_ne false hi]
      have := cnt_set hl hn n (by omega)
      omega
theorem cnt_all : ∀ (m n : Nat), n ≤ m → cnt (Array.replicate m false) n = n
  | _, 0, _ => rfl
  | m, n + 1, h => by
    simp only [cnt]
    rw [cnt_all m n (by omega), if_neg (by simp [show n < m by omega])]
structure Chk (ops : Array Oper) (D : List (List Nat)) : Prop where
  dist : Dist ops
  low : ∀ i o, ops[i]? = some o → ∀ e ∈ o.after, Region.binds .any e = true → e.on < i
  dep : ∀ i j, i < ops.size → j ∈ D.getD i [] → j < i ∧ ∃ o, ops[i]? = some o ∧ ∃ e ∈ o.after, Region.binds .any e = true ∧ (e.on = j ∨ (e.on < ops.size ∧ j ∈ D.getD e.on []))
  look : ∀ i j o d, ops[i]? = some o → dstOf ops j = some d → d ∈ o.looksAt ops → i ≠ j → j ∈ D.getD i [] ∨ i ∈ D.getD j []
  sel : ∀ (j : Nat) (o : Oper) (cs : Array SelectCase) (b : Bool), ops[j]? = some o → o.op ≠ .select cs b
theorem chk_of {D : List (List Nat)} (hchk : okAny ops D = true) : Chk ops D := by
  simp only [okAny, Bool.and_eq_true, beq_iff_eq, List.all_eq_true, List.mem_range, decide_eq_true_eq, Bool.or_eq_true] at hchk
  obtain ⟨⟨hDl, hns⟩, hall⟩ := hchk
  refine ⟨fun i j t hi hj => ?_, fun i o hi e he hb => ?_, fun i j hi hj => ?_, fun i j o d hi hj hd hne => ?_, Region.noSelect_spec hns⟩
  · rcases (hall i (dst_lt hi)).2 j (dst_lt hj) with h | h
    · exact h
    · rw [hj] at h
      simp only [Bool.and_eq_true, bne_iff_ne, ne_eq] at h
      exact absurd hi h.1
  · have hil : i < ops.size := (Array.getElem?_eq_some_iff.1 hi).1
    have h := (hall i hil).1.1
    rw [hi] at h
    have h2 := Array.all_eq_true_iff_forall_mem.1 h e he
    rw [hb] at h2
    simpa using h2
  · have h := (hall i hi).1.2 j hj
    refine ⟨h.1, ?_⟩
    have h2 := h.2
    rw [Array.getElem?_eq_getElem hi] at h2
    obtain ⟨e, he, hb⟩ := Array.any_eq_true'.1 h2
    simp only [Bool.and_eq_true, Bool.or_eq_true, beq_iff_eq, decide_eq_true_eq, List.contains_iff_mem] at hb
    exact ⟨_, Array.getElem?_eq_getElem hi, e, he, hb.1, hb.2⟩
  · have hil : i < ops.size := (Array.getElem?_eq_some_iff.1 hi).1
    rcases (hall i hil).2 j (dst_lt hj) with h | h
    · exact absurd h hne
    · rw [hj, hi] at h
      simp only [Bool.and_eq_true, Bool.or_eq_true, Bool.not_eq_true', List.contains_iff_mem] at h
      rcases h.2 with (h2 | h2) | h2
      · have : (o.looksAt ops).contains d = true := by simpa using hd
        rw [this] at h2; cases h2
      · exact .inl h2
      · exact .inr h2
theorem act_ext {a b : Act} (h1 : a.tmps.size = b.tmps.size) (h2 : ∀ t : Nat, a.tmps[t]? = b.tmps[t]?) (h3 : a.defers = b.defers) : a = b := by
  cases a; cases b
  simp only at h1 h2 h3
  congr
  exact Array.ext h1 (fun i hi hj => by have := h2 i; rw [Array.getElem?_eq_getElem hi, Array.getElem?_eq_getElem hj] at this; exact Option.some.inj this)
/-- The value that the t-th place of the frame has had from an operation. -/
def srcOf : List (Option Tmp) → Nat → Nat → Option Nat
  | [], _, _ => none
  | some d :: r, k, t => cond (Nat.beq d t) (some k) (srcOf r (k + 1) t)
  | none :: r, k, t => srcOf r (k + 1) t
def rho (dsts : List (Option Tmp)) (vs : Nat → Value) (a0 : Act) : Operand → Value
  | .tmp t => match srcOf dsts 0 t with
    | some j => vs j
    | none => a0.tmps.getD t undef
  | x => a0.eval x
/-- The operation's guard. -/
def Wants (o : Oper) (vs : Nat → Value) : Bool :=
  match o.guard with
  | none => true
  | some (g, want) => (match vs g with | .bool b => some b | _ => none) == some want
def Ob (P : Program) (dsts : List (Option Tmp)) (o : Oper) (vs : Nat → Value) (a0 : Act) (w : World) (R : Value → World → Prop) : Prop :=
  if Wants o vs = true then Told P R ((execOp (rho dsts vs a0) o).run P w) else R undef w
theorem srcOf_some {dsts : List (Option Tmp)} : ∀ {k t j : Nat}, srcOf dsts k t = some j → k ≤ j ∧ dsts[j - k]? = some (some t) := by
  induction dsts with
  | nil => intro k t j h; cases h
  | cons d r ih =>
    intro k t j h
    have hstep : srcOf r (k + 1) t = some j → k ≤ j ∧ (d :: r)[j - k]? = some (some t) := fun h => by
      obtain ⟨h1, h2⟩ := ih h
      refine ⟨by omega, ?_⟩
      rw [show j - k = (j - (k + 1)) + 1 by omega, List.getElem?_cons_succ]
      exact h2
    cases d with
    | none => exact hstep h
    | some d =>
      simp only [srcOf] at h
      cases hb : Nat.beq d t with
      | true =>
        rw [hb] at h
        simp only [cond_true, Option.some.injEq] at h
        subst h
        have : d = t := Nat.eq_of_beq_eq_true hb
        subst this
        exact ⟨Nat.le_refl _, by simp⟩
      | false =>
        rw [hb] at h
        exact hstep h
theorem srcOf_none {dsts : List (Option Tmp)} : ∀ {k t : Nat}, srcOf dsts k t = none → ∀ j : Nat, dsts[j]? ≠ some (some t) := by
  induction dsts with
  | nil => intro k t _ j; simp
  | cons d r ih =>
    intro k t h j
    cases d with
    | none =>
      cases j with
      | zero => simp
      | succ j => rw [List.getElem?_cons_succ]; exact ih (k := k + 1) h j
    | some d =>
      simp only [srcOf] at h
      cases hb : Nat.beq d t with
      | true => rw [hb] at h; cases h
      | false =>
        rw [hb] at h
        cases j with
        | zero =>
          simp only [List.getElem?_cons_zero, ne_eq, Option.some.injEq]
          rintro rfl
          rw [Nat.beq_refl] at hb
          cases hb
        | succ j => rw [List.getElem?_cons_succ]; exact ih (k := k + 1) h j
theorem dsts_at {dsts : List (Option Tmp)} (hd : ops.toList.map (·.dst) = dsts) (i j : Nat) (t : Nat) : (dsts.take i)[j]? = some (some t) ↔ j < i ∧ dstOf ops j = some t := by
  subst hd
  rw [List.getElem?_take]
  by_cases h : j < i
  · rw [if_pos h]
    unfold dstOf
    cases ho : ops[j]? with
    | none => simp [ho]
    | some o => simp [ho, h]
  · simp [h]
/-- In the midst of an order, an operation that may come up: its obligation in the text's order serves. -/
theorem mid_ob {D : List (List Nat)} {L : List Nat} {Inv J : World → Prop} {F : Nat → Value → World → Prop} {fx : Nat → Bool} {a0 a : Act} {vs : Nat → Value} {l : Array Bool} {w : World} {dsts : List (Option Tmp)} {R : Value → World → Prop} (hC : Chk ops D) (hd : ops.toList.map (·.dst) = dsts)
    (hsz : ∀ j t, dstOf ops j = some t → t < a0.tmps.size) (hM : Mid ops D L Inv J F fx a0 vs l a w) {i : Nat} {o : Oper} (ho : ops[i]? = some o) (hun : ¬ l.getD i false = true) (hds : ∀ j ∈ D.getD i [], l.getD j false = true)
    (hg : ∀ g want, o.guard = some (g, want) → g ∈ D.getD i [] ∧ (dstOf ops g).isSome = true)
    (h : Ob P (dsts.take i) o vs a0 w R) : Yl P ops o a w R := by
  have hil : i < ops.size := (Array.getElem?_eq_some_iff.1 ho).1
  have e1 : execOp a.eval o = execOp (rho (dsts.take i) vs a0) o := execOp_congr o (fun cs b => hC.sel i o cs b ho) fun x hx => by
    cases x with
    | tmp t =>
      have ht : t ∈ o.looksAt ops := List.mem_append_left _ (List.mem_filterMap.2 ⟨.tmp t, by simpa using hx, rfl⟩)
      show a.tmps.getD t undef = (match srcOf (dsts.take i) 0 t with | some j => vs j | none => a0.tmps.getD t undef)
      cases hs : srcOf (dsts.take i) 0 t with
      | some j =>
        obtain ⟨_, h2⟩ := srcOf_some hs
        rw [Nat.sub_zero] at h2
        obtain ⟨hji, hj⟩ := (dsts_at hd i j t).1 h2
        have hjl : l.getD j false = true := by
          rcases hC.look i j o t ho hj ht (by omega) with h | h
          · exact hds j h
          · have := (hC.dep j i (dst_lt hj) h).1
            omega
        have := hM.mem j t hjl hj (hsz j t hj)
        simp [this]
      | none =>
        have hout : ∀ j, l.getD j false = true → dstOf ops j ≠ some t := fun j hjl hj => by
          by_cases hij : i = j
          · subst hij; exact hun hjl
          · rcases hC.look i j o t ho hj ht hij with h | h
            · exact srcOf_none hs j ((dsts_at hd i j t).2 ⟨(hC.dep i j hil h).1, hj⟩)
            · exact hun (hM.shut j hjl i h)
        have := hM.out t hout
        simp [this]
    | _ => rfl
  have e2 : Region.wanted o (yielded ops a.tmps) = Wants o vs := by
    unfold Region.wanted Wants
    cases hgd : o.guard with
    | none => rfl
    | some gw =>
      obtain ⟨g, want⟩ := gw
      obtain ⟨h1, h2⟩ := hg g want hgd
      obtain ⟨d, hdd⟩ := Option.isSome_iff_exists.1 h2
      have hm := hM.mem g d (hds g h1) hdd (hsz g d hdd)
      have : yielded ops a.tmps g = (match vs g with | .bool b => some b | _ => none) := by
        unfold yielded
        have hdd' : (ops[g]?).bind (·.dst) = some d := hdd
        rw [hdd']
        simp only [Option.bind_some, hm]
        cases vs g <;> rfl
      simp only [this]
  unfold Ob at h
  unfold Yl
  rw [e1, e2]
  exact h
theorem mid_next {D : List (List Nat)} {L : List Nat} {Inv J : World → Prop} {F : Nat → Value → World → Prop} {fx : Nat → Bool} {a0 a : Act} {vs : Nat → Value} {l : Array Bool} {w : World} (hC : Chk ops D)
    (hchain : ∀ i ∈ L, ∀ k ∈ L, i < k → i ∈ D.getD k []) (hst : ∀ i v w w', F i v w → Below w.heap.size w w' → F i v w') (hfx : ∀ i v w w', i ∉ L → fx i = true → F i v w → F i v w') (hJs : ∀ w w', J w → Below w.heap.size w w' → J w')
    (hM : Mid ops D L Inv J F fx a0 vs l a w) {i : Nat} {o : Oper} (ho : ops[i]? = some o) (hun : ¬ l.getD i false = true) (hds : ∀ j ∈ D.getD i [], l.getD j false = true) {v : Value} {w' : World} (hI : Inv w') (hS : i ∉ L → Below w.heap.size w w') (hF : F i v w') :
    Mid ops D L Inv J F fx a0 (upd vs i v) (l.setIfInBounds i true) (a.put o.dst v) w' := by
  have hil : i < ops.size := (Array.getElem?_eq_some_iff.1 ho).1
  have his : i < l.size := by rw [hM.size]; exact hil
  have hdo : dstOf ops i = o.dst := by simp [dstOf, ho]
  have hset : ∀ k, (l.setIfInBounds i true).getD k false = true → k = i ∨ l.getD k false = true := fun k hk => by
    by_cases hki : k = i
    · exact .inl hki
    · rw [getD_set_ne false (Ne.symm hki)] at hk
      exact .inr hk
  refine ⟨by rw [Array.size_setIfInBounds]; exact hM.size, by rw [put_size]; exact hM.tsz, by rw [put_defers]; exact hM.dfr, fun t ht => ?_, fun k t hk hkd htl => ?_, fun k hk j hj => ?_, hI, fun hno => ?_, fun k hk hmax => ?_⟩
  · rw [put_get, if_neg (fun hh => ht i (getD_set_self his) (by rw [hdo]; exact hh.1))]
    exact hM.out t (fun k hk => ht k (getD_set_true hk))
  · by_cases hki : k = i
    · subst hki
      rw [put_get, if_pos ⟨by rw [← hdo]; exact hkd, by rw [hM.tsz]; exact htl⟩, upd_same]
    · rw [put_get, if_neg (fun hh => hki (hC.dist k i t hkd (by rw [hdo]; exact hh.1))), upd_other _ _ hki]
      exact hM.mem k t ((hset k hk).resolve_left hki) hkd htl
  · rcases hset k hk with rfl | h
    · exact getD_set_true (hds j hj)
    · exact getD_set_true (hM.shut k h j hj)
  · by_cases hiL : i ∈ L
    · have := hno i hiL
      rw [getD_set_self his] at this
      cases this
    · refine hJs w w' (hM.head fun k hk => ?_) (hS hiL)
      have := hno k hk
      rwa [getD_set_ne false (show i ≠ k from fun h => hiL (by rw [h]; exact hk))] at this
  · intro hcond
    by_cases hki : k = i
    · subst hki
      rw [upd_same]
      exact hF
    · rw [upd_other _ _ hki]
      have hkl := (hset k hk).resolve_left hki
      by_cases hiL : i ∈ L
      · have hkL : k ∉ L := fun hkL => by
          have h1 := hmax hkL i hiL (getD_set_self his)
          exact hun (hM.shut k hkl i (hchain i hiL k hkL (by omega)))
        have hfk : fx k = true := by
          rcases hcond with h | h | h
          · exact h
          · exact absurd h hkL
          · exact absurd (getD_set_self his) (h i hiL)
        exact hfx k _ w w' hkL hfk (hM.facts k hkl (fun h => absurd h hkL) (.inl hfk))
      · exact hst k _ w w' (hM.facts k hkl (fun h k' hk' hl' => hmax h k' hk' (getD_set_true hl')) (hcond.imp id (Or.imp id fun h q hq hl => h q hq (getD_set_true hl)))) (hS hiL)
theorem mid_end {D : List (List Nat)} {L : List Nat} {Inv J : World → Prop} {F : Nat → Value → World → Prop} {fx : Nat → Bool} {a0 a : Act} {vs : Nat → Value} {l : Array Bool} {w : World} (hC : Chk ops D)
    (hM : Mid ops D L Inv J F fx a0 vs l a w) (hfull : ∀ i, i < ops.size → l.getD i false = true) : a = putN ops vs ops.size a0 := by
  refine act_ext (by rw [hM.tsz, putN_size]) (fun t => ?_) (by rw [hM.dfr, putN_defers])
  by_cases hx : ∃ i, dstOf ops i = some t
  · obtain ⟨i, hi⟩ := hx
    by_cases ht : t < a0.tmps.size
    · rw [hM.mem i t (hfull i (dst_lt hi)) hi ht, putN_in hC.dist vs a0 t i hi ht _ (dst_lt hi)]
    · rw [Array.getElem?_eq_none (by rw [hM.tsz]; omega), Array.getElem?_eq_none (by rw [putN_size]; omega)]
  · rw [hM.out t (fun i _ hi => hx ⟨i, hi⟩), putN_out vs a0 t _ (fun j _ hj => hx ⟨j, hj⟩)]
/-- All that is asked of a region's operations, in the text's order, at any world of Inv. -/
structure All (P : Program) (ops : Array Oper) (Q : Exit → Act → World → Prop) (D : List (List Nat)) (L : List Nat) (Inv J : World → Prop) (F : Nat → Value → World → Prop) (fx : Nat → Bool) (a0 : Act) (dsts : List (Option Tmp)) : Prop where
  chk : Chk ops D
  dst : ops.toList.map (·.dst) = dsts
  room : ∀ j t, dstOf ops j = some t → t < a0.tmps.size
  grd : ∀ i o g want, ops[i]? = some o → o.guard = some (g, want) → g ∈ D.getD i [] ∧ (dstOf ops g).isSome = true
  chain : ∀ i ∈ L, ∀ k ∈ L, i < k → i ∈ D.getD k []
  stay : ∀ i v w w', F i v w → Below w.heap.size w w' → F i v w'
  fix : ∀ i v w w', i ∉ L → fx i = true → F i v w → F i v w'
  jst : ∀ w w', J w → Below w.heap.size w w' → J w'
  step : ∀ i o, ops[i]? = some o → ∀ (vs : Nat → Value) (w : World), Inv w → (i ∈ L → (∀ k ∈ L, i ≤ k) → J w) → (earlyB D L i = true → J w) → (∀ j ∈ (D.getD i []).filter (fun j => useE D L (fx j) j i), F j (vs j) w) → Ob P (dsts.take i) o vs a0 w (fun v w' => Inv w' ∧ (i ∉ L → Below w.heap.size w w') ∧ F i v w')
  last : ∀ (vs : Nat → Value) (w : World), Inv w → (∀ i, i < ops.size → useE D L (fx i) i ops.size = true → F i (vs i) w) → Q .normal (putN ops vs ops.size a0) w
theorem mid_go {D : List (List Nat)} {L : List Nat} {Inv J : World → Prop} {F : Nat → Value → World → Prop} {fx : Nat → Bool} {a0 a : Act} {dsts : List (Option Tmp)} {vs : Nat → Value} {l : Array Bool} {w : World} (H : All P ops Q D L Inv J F fx a0 dsts)
    (hM : Mid ops D L Inv J F fx a0 vs l a w) {i : Nat} {o : Oper} (ho : ops[i]? = some o) (hun : ¬ l.getD i false = true) (hds : ∀ j ∈ D.getD i [], l.getD j false = true) {K : Act → World → Prop}
    (hK : ∀ vs' a' w', Mid ops D L Inv J F fx a0 vs' (l.setIfInBounds i true) a' w' → K a' w') : wpOp P ops Q i K a w := by
  have hearly : earlyB D L i = true → ∀ q ∈ L, ¬ l.getD q false = true := fun he q hq hql => by
    rcases earlyB_spec he q hq with h | h
    · subst h; exact hun hql
    · exact hun (hM.shut q hql i h)
  exact (mid_ob H.chk H.dst H.room hM ho hun hds (fun g want hg => H.grd i o g want ho hg) (H.step i o ho vs w hM.inv (fun hiL hmin => hM.head fun k hk => by
    rw [← Bool.not_eq_true]
    intro hkl
    by_cases hik : k = i
    · exact hun (hik ▸ hkl)
    · exact hun (hM.shut k hkl i (H.chain i hiL k hk (by have := hmin k hk; omega)))) (fun he => hM.head fun k hk => by
    rw [← Bool.not_eq_true]
    exact hearly he k hk) (fun j hj => by
    obtain ⟨hj1, hj2⟩ := List.mem_filter.1 hj
    obtain ⟨hj2, hj3⟩ := useE_spec hj2
    refine hM.facts j (hds j hj1) (fun hjL k hkL hkl => ?_) (hj3.elim (fun h => .inr (.inl h)) fun h => h.elim (fun h => .inr (.inr (hearly h))) .inl)
    rcases useB_spec hj2 hjL k hkL with h | ⟨hiL, h⟩
    · exact h
    · exfalso
      rcases Nat.lt_or_ge i k with h2 | h2
      · exact hun (hM.shut k hkl i (H.chain i hiL k hkL h2))
      · obtain rfl : i = k := by omega
        exact hun hkl))).wpOp ho
    fun v w' ⟨hI, hS, hF⟩ => hK _ _ _ (mid_next H.chk H.chain H.stay H.fix H.jst hM ho hun hds hI hS hF)
/-- **Whatever order is drawn**: each operation's obligation is told once. -/
theorem any_go {D : List (List Nat)} {L : List Nat} {Inv J : World → Prop} {F : Nat → Value → World → Prop} {fx : Nat → Bool} {a0 : Act} {dsts : List (Option Tmp)} (H : All P ops Q D L Inv J F fx a0 dsts) :
    ∀ (fuel : Nat) (l : Array Bool) (vs : Nat → Value) (a : Act) (w : World), cnt l ops.size ≤ fuel → Mid ops D L Inv J F fx a0 vs l a w → wpAny P .any ops Q fuel l a w := by
  have hfin : ∀ (l : Array Bool) (vs : Nat → Value) (a : Act) (w : World), Mid ops D L Inv J F fx a0 vs l a w → (∀ i, i < ops.size → l.getD i false = true) → Q .normal a w := by
    intro l vs a w hM hfull
    rw [mid_end H.chk hM hfull]
    exact H.last vs w hM.inv (fun i hi hu => hM.facts i (hfull i hi) (fun hiL k hkL hkl => by
      rcases useB_spec (useE_spec hu).1 hiL k hkL with h | ⟨_, h⟩
      · exact h
      · have := getD_false_lt hkl
        rw [hM.size] at this
        omega) ((useE_spec hu).2.elim (fun h => .inr (.inl h)) fun h => h.elim (fun h => .inr (.inr fun q hq hql => by
          have hqs := getD_false_lt hql
          rw [hM.size] at hqs
          rcases earlyB_spec h q hq with h2 | h2
          · omega
          · have := (H.chk.dep q _ hqs h2).1
            omega)) .inl))
  have hdone : ∀ (l : Array Bool) (vs : Nat → Value) (a : Act) (w : World), Mid ops D L Inv J F fx a0 vs l a w → Region.ready .any ops l = [] → Q .normal a w := by
    intro l vs a w hM hr
    refine hfin l vs a w hM fun i => ?_
    induction i using Nat.strongRecOn with
    | _ i ih =>
      intro hi
      refine Classical.byContradiction fun hn => ?_
      have : i ∈ Region.ready .any ops l := mem_ready.2 ⟨getD_true_of_lt (by rw [hM.size]; exact hi) hn, _, Array.getElem?_eq_getElem hi, fun e he hb => by
        have h1 := H.chk.low i _ (Array.getElem?_eq_getElem hi) e he hb
        exact ih e.on h1 (by omega)⟩
      rw [hr] at this
      cases this
  intro fuel
  induction fuel with
  | zero =>
    intro l vs a w hf hM
    have hfull := cnt_zero (l := l) ops.size (by omega)
    refine ⟨?_, hfin l vs a w hM hfull⟩
    rw [List.eq_nil_iff_forall_not_mem]
    intro j hj
    obtain ⟨h0, o, ho, _⟩ := mem_ready.1 hj
    have hjl : j < ops.size := (Array.getElem?_eq_some_iff.1 ho).1
    have := hfull j hjl
    have hjs : j < l.size := by rw [hM.size]; exact hjl
    simp [hjs] at h0 this
    rw [this] at h0
    cases h0
  | succ fuel ih =>
    intro l vs a w hf hM
    refine ⟨hdone l vs a w hM, fun i hi => ?_⟩
    obtain ⟨h0, o, ho, hall⟩ := mem_ready.1 hi
    have hil : i < ops.size := (Array.getElem?_eq_some_iff.1 ho).1
    have his : i < l.size := by rw [hM.size]; exact hil
    have hun : ¬ l.getD i false = true := by
      simp [his] at h0 ⊢
      exact h0
    have hds : ∀ j ∈ D.getD i [], l.getD j false = true := fun j hj => by
      obtain ⟨hlt, o', ho', e, he, hb, hor⟩ := H.chk.dep i j hil hj
      rw [ho] at ho'
      injection ho' with ho'
      subst ho'
      have h1 := hall e he hb
      rcases hor with rfl | ⟨_, h2⟩
      · exact h1
      · exact hM.shut _ h1 j h2
    refine mid_go H hM ho hun hds fun vs' a' w' hM' => ih _ vs' a' w' ?_ hM'
    have := cnt_set his hun ops.size hil
    omega
theorem mid_start {D : List (List Nat)} {L : List Nat} {Inv J : World → Prop} {F : Nat → Value → World → Prop} {fx : Nat → Bool} {a0 : Act} {w : World} (hI : Inv w) (hJ : J w) : Mid ops D L Inv J F fx a0 (fun _ => undef) (Array.replicate ops.size false) a0 w :=
  ⟨by simp, rfl, rfl, fun _ _ => rfl, fun i _ h => by rcases Nat.lt_or_ge i ops.size with h' | h' <;> simp [h'] at h, fun i h => by rcases Nat.lt_or_ge i ops.size with h' | h' <;> simp [h'] at h, hI, fun _ => hJ, fun i h => by rcases Nat.lt_or_ge i ops.size with h' | h' <;> simp [h'] at h⟩
/-- A region that draws its order. -/
theorem any_region {id : Nat} {a0 : Act} {w0 : World} {D : List (List Nat)} {L : List Nat} {Inv J : World → Prop} {F : Nat → Value → World → Prop} {fx : Nat → Bool} {dsts : List (Option Tmp)} (hm : P.follows .mixedOrders = true) (hI : Inv w0.drew) (hJ : J w0.drew)
    (H : All P ops Q D L Inv J F fx a0 dsts) : (Code.region id ops true).wp P Q a0 w0 :=
  wp_region_any hm (any_go H ops.size _ (fun _ => undef) a0 w0.drew (by rw [cnt_all _ _ (Nat.le_refl _)]; exact Nat.le_refl _) (mid_start hI hJ))
/-- A region in the text's order. -/
theorem seq_go {D : List (List Nat)} {L : List Nat} {Inv J : World → Prop} {F : Nat → Value → World → Prop} {fx : Nat → Bool} {a0 : Act} {dsts : List (Option Tmp)} (H : All P ops Q D L Inv J F fx a0 dsts) :
    ∀ (m k : Nat) (l : Array Bool) (vs : Nat → Value) (a : Act) (w : World), k + m = ops.size → (∀ j, l.getD j false = true ↔ j < k) → Mid ops D L Inv J F fx a0 vs l a w → wpOps P ops Q (List.range' k m) a w := by
  intro m
  induction m with
  | zero =>
    intro k l vs a w hkm hl hM
    have hfull : ∀ i, i < ops.size → l.getD i false = true := fun i hi => (hl i).2 (by omega)
    show Q .normal a w
    rw [mid_end H.chk hM hfull]
    exact H.last vs w hM.inv (fun i hi hu => hM.facts i (hfull i hi) (fun hiL k hkL hkl => by
      rcases useB_spec (useE_spec hu).1 hiL k hkL with h | ⟨_, h⟩
      · exact h
      · have := getD_false_lt hkl
        rw [hM.size] at this
        omega) ((useE_spec hu).2.elim (fun h => .inr (.inl h)) fun h => h.elim (fun h => .inr (.inr fun q hq hql => by
          have hqs := getD_false_lt hql
          rw [hM.size] at hqs
          rcases earlyB_spec h q hq with h2 | h2
          · omega
          · have := (H.chk.dep q _ hqs h2).1
            omega)) .inl))
  | succ m ih =>
    intro k l vs a w hkm hl hM
    rw [List.range'_succ, wpOps_cons]
    have hk : k < ops.size := by omega
    refine mid_go H hM (Array.getElem?_eq_getElem hk) (fun h => by have := (hl k).1 h; omega) (fun j hj => (hl j).2 (H.chk.dep k j hk hj).1) fun vs' a' w' hM' => ih (k + 1) _ vs' a' w' (by omega) (fun j => ?_) hM'
    by_cases hjk : j = k
    · subst hjk
      rw [getD_set_self (by rw [hM.size]; exact hk)]
      exact ⟨fun _ => by omega, fun _ => rfl⟩
    · rw [getD_set_ne false (Ne.symm hjk), hl j]
      omega
theorem seq_region {id : Nat} {a0 : Act} {w0 : World} {D : List (List Nat)} {L : List Nat} {Inv J : World → Prop} {F : Nat → Value → World → Prop} {fx : Nat → Bool} {dsts : List (Option Tmp)} (hI : Inv w0) (hJ : J w0)
    (H : All P ops Q D L Inv J F fx a0 dsts) : (Code.region id ops false).wp P Q a0 w0 :=
  wp_region (by rw [List.range_eq_range']; exact seq_go H ops.size 0 _ (fun _ => undef) a0 w0 (by omega) (fun j => by rcases Nat.lt_or_ge j ops.size with h' | h' <;> simp [h']) (mid_start hI hJ))
end
end Go.Proofs.Ytnkeijdpjcclcaa.Kit
-- Walk
/- Regions walked operation by operation, whatever order they draw: the words. -/
namespace Go.Proofs.Ytnkeijdpjcclcaa.Kit
set_option linter.unusedVariables false
set_option linter.unusedSimpArgs false
open Go.RowKit Go.Proofs.YtnkeijdpjcclcaaW.PrintWords Go.Proofs.YtnkeijdpjcclcaaW.PrintLast Go.Proofs.YtnkeijdpjcclcaaW.PrintMore

/-- A fact on a value and a world that lives on where nothing that lay is turned; the value itself, where it is known; whether the world is nothing to it. -/
structure FW where
  p : Value → World → Prop
  st : ∀ v w w', p v w → Below w.heap.size w w' → p v w'
  det : Option Value
  ok : ∀ c, det = some c → ∀ v w, p v w → v = c
  fix : Bool
  fx : fix = true → ∀ v w w', p v w → p v w'
def FW.val (c : Value) : FW := ⟨fun v _ => v = c, fun _ _ _ h _ => h, some c, (fun _ h _ _ hv => by cases h; exact hv), true, fun _ _ _ _ h => h⟩
def FW.any : FW := ⟨fun _ _ => True, fun _ _ _ h _ => h, none, (fun _ h => by cases h), true, fun _ _ _ _ h => h⟩
def FW.of (p : Value → World → Prop) (st : ∀ v w w', p v w → Below w.heap.size w w' → p v w') : FW := ⟨p, st, none, (fun _ h => by cases h), false, (fun h => by cases h)⟩
/-- A row of whole numbers that is the call's own, or full. -/
def FW.gr (k : IntKind) (e : TypeId) (B : Nat) (xs : List Int) : FW := .of (fun v w => Gr k e w B v xs) fun _ _ _ h hb => gr_below h hb
/-- A row of whole numbers that is read. -/
def IsRow (k : IntKind) (xs : List Int) (v : Value) (w : World) : Prop := ∃ A n c, v = .slice A n c ∧ n ≤ c ∧ Hid (xs.length = n) ∧ n ≤ 9223372036854775807 ∧ Rds k w A n xs
theorem IsRow.below {k : IntKind} {xs : List Int} {v : Value} {w w' : World} (h : IsRow k xs v w) (hb : Below w.heap.size w w') : IsRow k xs v w' := by
  obtain ⟨A, n, c, e, h1, h2, h3, h4⟩ := h
  exact ⟨A, n, c, e, h1, h2, h3, rds_below h4 hb⟩
theorem isRow_gr {k : IntKind} {e : TypeId} {w : World} {B : Nat} {v : Value} {xs : List Int} (h : Gr k e w B v xs) : IsRow k xs v w := gr_open h
def FW.row (k : IntKind) (xs : List Int) : FW := .of (IsRow k xs) fun _ _ _ h hb => h.below hb
/-- A pointer to a block that lies whole. -/
def IsBox (B : Nat) (cs : List Value) (T : TypeId) (v : Value) (w : World) : Prop := ∃ g, v = .pointer (some ⟨g, 0, none⟩) ∧ B ≤ g ∧ g < w.heap.size ∧ w.heap[g]? = some (.cells cs.toArray T (0, 0))
theorem IsBox.below {B : Nat} {cs : List Value} {T : TypeId} {v : Value} {w w' : World} (h : IsBox B cs T v w) (hb : Below w.heap.size w w') : IsBox B cs T v w' := by
  obtain ⟨g, e, h1, h2, h3⟩ := h
  exact ⟨g, e, h1, Nat.lt_of_lt_of_le h2 hb.size, by rw [hb.block g h2]; exact h3⟩
def FW.box (B : Nat) (cs : List Value) (T : TypeId) : FW := .of (IsBox B cs T) fun _ _ _ h hb => h.below hb
theorem fv {c v : Value} {w : World} (h : (FW.val c).p v w) : v = c := h

/-- Values by places. -/
def lkT : List (Nat × Value) → Nat → Value
  | [], _ => undef
  | (d, v) :: r, t => if d = t then v else lkT r t
theorem lkT_cons {d t : Nat} {v : Value} {r : List (Nat × Value)} : lkT ((d, v) :: r) t = if d = t then v else lkT r t := rfl
def lk (l : List (Nat × Value)) : Operand → Value
  | .tmp t => lkT l t
  | .const v => v
  | .global g => .pointer (some ⟨g, 0, none⟩)
  | .func f => .func (.func f) #[] #[]
theorem lk_tmp {l : List (Nat × Value)} {t : Nat} : lk l (.tmp t) = lkT l t := rfl
theorem lk_const {l : List (Nat × Value)} {v : Value} : lk l (.const v) = v := rfl
theorem lk_func {l : List (Nat × Value)} {f : Nat} : lk l (.func f) = .func (.func f) #[] #[] := rfl
theorem lk_global {l : List (Nat × Value)} {g : Nat} : lk l (.global g) = .pointer (some ⟨g, 0, none⟩) := rfl
@[reducible] def Vs (ρ : Operand → Value) : List (Nat × Value) → Prop
  | [] => True
  | (d, v) :: r => ρ (.tmp d) = v ∧ Vs ρ r
def covers (o : Oper) (l : List Nat) : Bool :=
  (match o.op with | .select .. => false | _ => true) && o.op.operands.toList.all fun x => match x with | .tmp t => l.any (fun d => Nat.beq d t) | _ => true
section
variable {P : Program} {ops : Array Oper} {Q : Exit → Act → World → Prop}
theorem lk_of {ρ : Operand → Value} {a : Act} {l : List (Nat × Value)} {o : Oper} (hρ : ∀ x, (∀ t, x ≠ .tmp t) → ρ x = a.eval x) (hv : Vs ρ l) (hc : covers o (l.map (·.1)) = true) : execOp ρ o = execOp (lk l) o := by
  simp only [covers, Bool.and_eq_true, List.all_eq_true] at hc
  refine execOp_congr o (fun cs b h => by have := hc.1; simp [h] at this) fun x hx => ?_
  cases x with
  | tmp t =>
    have h := hc.2 (.tmp t) (by simpa using hx)
    simp only [List.any_eq_true, List.mem_map] at h
    obtain ⟨d, ⟨p, hp, rfl⟩, hd⟩ := h
    have hd := Nat.eq_of_beq_eq_true hd
    clear hc hx
    show ρ (.tmp t) = lkT l t
    induction l with
    | nil => cases hp
    | cons q r ih =>
      obtain ⟨d, v⟩ := q
      rw [lkT_cons]
      by_cases hb : d = t
      · subst hb
        rw [if_pos rfl]
        exact hv.1
      · rw [if_neg hb]
        rcases List.mem_cons.1 hp with rfl | hp
        · exact absurd hd hb
        · exact ih hv.2 hp
  | const v => rw [hρ _ (by simp)]; rfl
  | global g => rw [hρ _ (by simp)]; rfl
  | func f => rw [hρ _ (by simp)]; rfl
/-- The n-th of a list, by steps. -/
def nth {α : Type} : List α → Nat → Option α
  | [], _ => none
  | x :: _, 0 => some x
  | _ :: r, n + 1 => nth r n
theorem nth_eq {α : Type} : ∀ (l : List α) (n : Nat), nth l n = l[n]?
  | [], n => by simp [nth]
  | x :: r, 0 => rfl
  | x :: r, n + 1 => by simp only [nth, List.getElem?_cons_succ]; exact nth_eq r n
theorem rho_in {dsts : List (Option Tmp)} {vs : Nat → Value} {a0 : Act} {t j : Nat} {c : Value} (h : srcOf dsts 0 t = some j) (hv : vs j = c) : rho dsts vs a0 (.tmp t) = c := by
  simp only [rho, h]
  exact hv
theorem rho_out {dsts : List (Option Tmp)} {vs : Nat → Value} {a0 : Act} {t : Nat} {c : Value} (h : srcOf dsts 0 t = none) (hv : nth a0.tmps.toList t = some c) : rho dsts vs a0 (.tmp t) = c := by
  simp only [rho, h]
  rw [nth_eq] at hv
  have : a0.tmps[t]? = some c := by simpa using hv
  simp [this]
theorem rho_else {dsts : List (Option Tmp)} {vs : Nat → Value} {a0 : Act} (x : Operand) (h : ∀ t, x ≠ .tmp t) : rho dsts vs a0 x = a0.eval x := by
  cases x with
  | tmp t => exact absurd rfl (h t)
  | _ => rfl
theorem wants_none {o : Oper} {vs : Nat → Value} (h : o.guard = none) : Wants o vs = true := by simp [Wants, h]
theorem wants_g {o : Oper} {vs : Nat → Value} {g : Nat} {b : Bool} (h : o.guard = some (g, b)) (hv : vs g = .bool b) : Wants o vs = true := by simp [Wants, h, hv]
theorem wants_not {o : Oper} {vs : Nat → Value} {g : Nat} {b : Bool} (h : o.guard = some (g, b)) (hv : vs g = .bool (!b)) : Wants o vs = false := by cases b <;> simp [Wants, h, hv]
theorem ob_run {dsts : List (Option Tmp)} {vs : Nat → Value} {a0 : Act} {o : Oper} {w w' : World} {R : Value → World → Prop} {v : Value} (l : List (Nat × Value)) (hw : Wants o vs = true) (hv : Vs (rho dsts vs a0) l) (hc : covers o (l.map (·.1)) = true)
    (hrun : (execOp (lk l) o).run P w = .ok (.value v) w') (hR : R v w') : Ob P dsts o vs a0 w R := by
  unfold Ob
  rw [if_pos hw, lk_of (fun x hx => rho_else x hx) hv hc, hrun]
  exact hR
theorem ob_not {dsts : List (Option Tmp)} {vs : Nat → Value} {a0 : Act} {o : Oper} {w : World} {R : Value → World → Prop} (hw : Wants o vs = false) (hR : R undef w) : Ob P dsts o vs a0 w R := by
  unfold Ob
  rw [if_neg (by rw [hw]; simp)]
  exact hR
theorem ob_call {dsts : List (Option Tmp)} {vs : Nat → Value} {a0 : Act} {o : Oper} {w : World} {R : Value → World → Prop} {f : FuncId} {fn : Func} {ags : Array Operand} {ts : Array TypeId} (l : List (Nat × Value)) (args : Array Value) (hw : Wants o vs = true) (hv : Vs (rho dsts vs a0) l) (hc : covers o (l.map (·.1)) = true)
    (hop : o.op = .call { callee := .value (.func f), args := ags, argTypes := ts }) (hf : P.funcs[f]? = some fn) (hname : (fn.name == "runtime.NumGoroutine") = false) (hb : fn.body.isSome = true) (hargs : ags.map (lk l) = args)
    (h : Calls P f args w fun e w' => ∃ v, e = .returned v ∧ R v w') : Ob P dsts o vs a0 w R := by
  unfold Ob
  have he := enters_ hf hname hb args w
  have hrun : (execOp (lk l) o).run P w = .ok (.enter f args) w := by
    unfold execOp
    simp [hop, resolve, Deferred.ofValue, invoke, lk, hargs, he]
  rw [if_pos hw, lk_of (fun x hx => rho_else x hx) hv hc, hrun]
  exact h
theorem margs {ags : Array Operand} {l : List (Nat × Value)} {args : Array Value} (h : ags.toList.map (lk l) = args.toList) : ags.map (lk l) = args := by
  rw [← Array.toList_inj, Array.toList_map]
  exact h
/-- What is known of the operations so far (the last first), of their values and the world. -/
def Known (Fs : List FW) (k : Nat) (js : List Nat) (vs : Nat → Value) (w : World) : Prop := ∀ j ∈ js, (Fs.getD (k - 1 - j) FW.any).p (vs j) w
/-- Whose facts serve operation k. -/
def deps (D : List (List Nat)) (L : List Nat) (Fs : List FW) (k : Nat) : List Nat := (D.getD k []).filter fun j => useE D L (Fs.getD (k - 1 - j) FW.any).fix j k
theorem memE {D : List (List Nat)} {L : List Nat} {Fs : List FW} {k j : Nat} (h : (deps D L Fs k).elem j = true) : j ∈ deps D L Fs k := List.mem_of_elem_eq_true h
/-- A region's walk: for each operation a fact that it leaves, whatever world of I it meets; then the rest. L: the operations that write in turn. -/
def Walk (P : Program) (D : List (List Nat)) (L : List Nat) (dsts : List (Option Tmp)) (I J : World → Prop) (a0 : Act) (K : (Nat → Value) → World → Prop) : List Oper → Nat → List FW → Prop
  | [], k, Fs => ∀ vs w, I w → (∀ j, j < k → useE D L (Fs.getD (k - 1 - j) FW.any).fix j k = true → (Fs.getD (k - 1 - j) FW.any).p (vs j) w) → K vs w
  | o :: r, k, Fs => ∃ F : FW, (∀ vs w, I w → (k ∈ L → (∀ q ∈ L, k ≤ q) → J w) → (earlyB D L k = true → J w) → Known Fs k (deps D L Fs k) vs w → Ob P (dsts.take k) o vs a0 w (fun v w' => (k ∈ L → I w') ∧ (k ∉ L → Below w.heap.size w w') ∧ F.p v w')) ∧ Walk P D L dsts I J a0 K r (k + 1) (F :: Fs)
def putL : List (Option Tmp) → Nat → (Nat → Value) → Act → Act
  | [], _, _, a => a
  | d :: r, k, vs, a => putL r (k + 1) vs (a.put d (vs k))
theorem putL_append (vs : Nat → Value) : ∀ (l : List (Option Tmp)) (d : Option Tmp) (k : Nat) (a : Act), putL (l ++ [d]) k vs a = (putL l k vs a).put d (vs (k + l.length))
  | [], d, k, a => rfl
  | x :: l, d, k, a => by
    simp only [List.cons_append, putL]
    rw [putL_append vs l d (k + 1), List.length_cons, show k + 1 + l.length = k + (l.length + 1) by omega]
theorem putN_putL (vs : Nat → Value) (a : Act) (dsts : List (Option Tmp)) (hd : ops.toList.map (·.dst) = dsts) : ∀ n, n ≤ ops.size → putN ops vs n a = putL (dsts.take n) 0 vs a
  | 0, _ => rfl
  | n + 1, h => by
    have hlt : n < dsts.length := by subst hd; simp; omega
    have hn : (ops[n]?).bind (·.dst) = dsts[n] := by subst hd; simp [Array.getElem?_eq_getElem (show n < ops.size by omega)]
    rw [List.take_succ_eq_append_getElem hlt, putL_append, ← putN_putL vs a dsts hd n (by omega)]
    simp only [putN, hn, List.length_take]
    rw [Nat.min_eq_left (Nat.le_of_lt hlt), Nat.zero_add]
/-- The frame behind the region: known values written out. -/
def finL : List (Option Tmp) → List FW → Nat → (Nat → Value) → Act → Act
  | d :: r, F :: Fs, k, vs, a => finL r Fs (k + 1) vs (a.put d (match F.det with | some c => c | none => vs k))
  | _, _, _, _, a => a
theorem finL_eq (vs : Nat → Value) (w : World) : ∀ (dsts : List (Option Tmp)) (Fs : List FW) (k : Nat) (a : Act), dsts.length = Fs.length → (∀ j, j < Fs.length → (Fs.getD j FW.any).det = none ∨ (Fs.getD j FW.any).p (vs (k + j)) w) → putL dsts k vs a = finL dsts Fs k vs a
  | [], _, _, _, _, _ => rfl
  | d :: r, [], _, _, h, _ => by simp at h
  | d :: r, F :: Fs, k, a, h, hp => by
    simp only [putL, finL]
    have h0 : F.det = none ∨ F.p (vs k) w := by have := hp 0 (by simp); simpa using this
    have hv : (match F.det with | some c => c | none => vs k) = vs k := by
      cases hd : F.det with
      | none => rfl
      | some c =>
        rcases h0 with h0 | h0
        · rw [hd] at h0; cases h0
        · exact (F.ok c hd _ _ h0).symm
    rw [hv]
    refine finL_eq vs w r Fs (k + 1) _ (by simpa using h) fun j hj => ?_
    have := hp (j + 1) (by simp; omega)
    rw [List.getD_cons_succ, show k + (j + 1) = k + 1 + j by omega] at this
    exact this
theorem walk_facts {D : List (List Nat)} {L : List Nat} {dsts : List (Option Tmp)} {I J : World → Prop} {a0 : Act} {K : (Nat → Value) → World → Prop} : ∀ (r : List Oper) (k : Nat) (Fs : List FW), Fs.length = k → Walk P D L dsts I J a0 K r k Fs →
    ∃ Gs : List FW, Gs.length = k + r.length ∧ (∀ j, j < k → Gs.getD j FW.any = Fs.getD (k - 1 - j) FW.any) ∧
      (∀ i o, r[i]? = some o → ∀ vs w, I w → (k + i ∈ L → (∀ q ∈ L, k + i ≤ q) → J w) → (earlyB D L (k + i) = true → J w) → (∀ j ∈ D.getD (k + i) [], useE D L (Gs.getD j FW.any).fix j (k + i) = true → (Gs.getD j FW.any).p (vs j) w) → (∀ j ∈ D.getD (k + i) [], j < k + i) → Ob P (dsts.take (k + i)) o vs a0 w (fun v w' => (k + i ∈ L → I w') ∧ (k + i ∉ L → Below w.heap.size w w') ∧ (Gs.getD (k + i) FW.any).p v w')) ∧
      (∀ vs w, I w → (∀ j, j < k + r.length → useE D L (Gs.getD j FW.any).fix j (k + r.length) = true → (Gs.getD j FW.any).p (vs j) w) → K vs w) := by
  intro r
  induction r with
  | nil =>
    intro k Fs hk h
    have hget : ∀ j, j < k → Fs.reverse.getD j FW.any = Fs.getD (k - 1 - j) FW.any := fun j hj => by
      rw [List.getD_eq_getElem?_getD, List.getD_eq_getElem?_getD, List.getElem?_reverse (by omega), hk]
    refine ⟨Fs.reverse, by simp [hk], hget, fun i o hi => by simp at hi, fun vs w hb hf => h vs w hb fun j hj hu => ?_⟩
    rw [← hget j hj] at hu ⊢
    exact hf j (by simpa using hj) (by simpa using hu)
  | cons o r ih =>
    intro k Fs hk h
    obtain ⟨F, h1, h2⟩ := h
    obtain ⟨Gs, g1, g2, g3, g4⟩ := ih (k + 1) (F :: Fs) (by simp [hk]) h2
    have hFk : Gs.getD k FW.any = F := by
      rw [g2 k (by omega), show k + 1 - 1 - k = 0 by omega]
      rfl
    have hlow : ∀ j, j < k → Gs.getD j FW.any = Fs.getD (k - 1 - j) FW.any := fun j hj => by
      rw [g2 j (by omega), show k + 1 - 1 - j = (k - 1 - j) + 1 by omega, List.getD_cons_succ]
    refine ⟨Gs, by rw [g1, List.length_cons]; omega, hlow, fun i o' hi vs w hb hj0 hje hf hlt => ?_, fun vs w hb hf => g4 vs w hb fun j hj hu => hf j (by rw [List.length_cons]; omega) (by rw [List.length_cons, show k + (r.length + 1) = k + 1 + r.length by omega]; exact hu)⟩
    · cases i with
      | zero =>
        simp only [List.getElem?_cons_zero, Option.some.injEq] at hi
        subst hi
        rw [Nat.add_zero] at *
        rw [hFk]
        refine h1 vs w hb hj0 hje fun j hj => ?_
        obtain ⟨hj1, hj2⟩ := List.mem_filter.1 hj
        have hjk : j < k := hlt j hj1
        rw [← hlow j hjk] at hj2 ⊢
        exact hf j hj1 hj2
      | succ i =>
        rw [show k + (i + 1) = k + 1 + i by omega] at *
        exact g3 i o' (by simpa using hi) vs w hb hj0 hje hf hlt
def guardsB (ops : Array Oper) (D : List (List Nat)) : Bool :=
  (List.range ops.size).all fun i => match ops[i]? with
    | some o => (match o.guard with | some (g, _) => (D.getD i []).contains g && (dstOf ops g).isSome | none => true)
    | none => true
def roomB : List (Option Tmp) → Nat → Bool
  | [], _ => true
  | some d :: r, n => Nat.blt d n && roomB r n
  | none :: r, n => roomB r n
theorem roomB_spec : ∀ (l : List (Option Tmp)) (n : Nat), roomB l n = true → ∀ t, some t ∈ l → t < n
  | [], _, _, t, h => by cases h
  | some d :: r, n, h, t, ht => by
    simp only [roomB, Bool.and_eq_true] at h
    rcases List.mem_cons.1 ht with h2 | h2
    · injection h2 with h2
      subst h2
      exact cast Nat.blt_eq h.1
    · exact roomB_spec r n h.2 t h2
  | none :: r, n, h, t, ht => by
    rcases List.mem_cons.1 ht with h2 | h2
    · cases h2
    · exact roomB_spec r n h t h2
/-- What is asked of a region's text alone. -/
structure RegOk (ops : Array Oper) (D : List (List Nat)) (L : List Nat) (dsts : List (Option Tmp)) : Prop where
  chk : okAny ops D = true
  dst : ops.toList.map (·.dst) = dsts
  grd : guardsB ops D = true
  chain : ∀ i ∈ L, ∀ k ∈ L, i < k → i ∈ D.getD k []
def regB (ops : Array Oper) (D : List (List Nat)) (L : List Nat) (dsts : List (Option Tmp)) : Bool := okAny ops D && (ops.toList.map (·.dst) == dsts) && guardsB ops D && L.all fun i => L.all fun k => !decide (i < k) || (D.getD k []).contains i
theorem regOk {D : List (List Nat)} {L : List Nat} {dsts : List (Option Tmp)} (h : regB ops D L dsts = true) : RegOk ops D L dsts := by
  simp only [regB, Bool.and_eq_true, beq_iff_eq] at h
  refine ⟨h.1.1.1, h.1.1.2, h.1.2, fun i hi k hk hik => ?_⟩
  have h2 := List.all_eq_true.1 (List.all_eq_true.1 h.2 i hi) k hk
  simpa [hik] using h2
theorem all_of {D : List (List Nat)} {L : List Nat} {dsts : List (Option Tmp)} {I J : World → Prop} {a0 : Act} (hr : RegOk ops D L dsts) (hroom : roomB dsts a0.tmps.size = true) (hI : ∀ w w', I w → Below w.heap.size w w' → I w') (hJ : ∀ w w', J w → Below w.heap.size w w' → J w') {Q : Exit → Act → World → Prop}
    (h : Walk P D L dsts I J a0 (fun vs w => Q .normal (putL dsts 0 vs a0) w) ops.toList 0 []) :
    ∃ (F : Nat → Value → World → Prop) (fx : Nat → Bool), All P ops Q D L I J F fx a0 dsts := by
  obtain ⟨Gs, g1, g2, g3, g4⟩ := walk_facts ops.toList 0 [] rfl h
  have hC := chk_of hr.chk
  refine ⟨fun i => (Gs.getD i FW.any).p, fun i => (Gs.getD i FW.any).fix, hC, hr.dst, fun j t hj => ?_, fun i o g want hi hg => ?_, hr.chain, fun i v w w' hf hs => (Gs.getD i FW.any).st v w w' hf hs, fun i v w w' hi hfx hf => (Gs.getD i FW.any).fx hfx v w w' hf, hJ, fun i o hi vs w hb hj0 hje hf => ?_, fun vs w hb hf => ?_⟩
  · have hm : some t ∈ dsts := by
      rw [← hr.dst]
      unfold dstOf at hj
      cases ho : ops[j]? with
      | none => rw [ho] at hj; cases hj
      | some o =>
        rw [ho] at hj
        exact List.mem_map.2 ⟨o, by simpa using Array.mem_of_getElem? ho, hj⟩
    exact roomB_spec dsts _ hroom t hm
  · have h := hr.grd
    simp only [guardsB, List.all_eq_true, List.mem_range] at h
    have h2 := h i (Array.getElem?_eq_some_iff.1 hi).1
    rw [hi] at h2
    simp only [hg, Bool.and_eq_true, List.contains_iff_mem] at h2
    exact h2
  · have hi' : ops.toList[i]? = some o := by simpa using hi
    have h := g3 i o hi' vs w hb
    rw [Nat.zero_add] at h
    have h := h hj0 hje
    have hlt : ∀ j ∈ D.getD i [], j < i := fun j hj => (hC.dep i j (Array.getElem?_eq_some_iff.1 hi).1 hj).1
    have h2 := h (fun j hj hu => hf j (List.mem_filter.2 ⟨hj, hu⟩)) hlt
    have key : ∀ (v : Value) (w' : World), ((i ∈ L → I w') ∧ (i ∉ L → Below w.heap.size w w') ∧ (Gs.getD i FW.any).p v w') → (I w' ∧ (i ∉ L → Below w.heap.size w w') ∧ (Gs.getD i FW.any).p v w') := fun v w' ⟨q0, q1, q2⟩ => by
      refine ⟨?_, q1, q2⟩
      by_cases hiL : i ∈ L
      · exact q0 hiL
      · exact hI _ _ hb (q1 hiL)
    unfold Ob at h2 ⊢
    split
    · rename_i hw
      rw [if_pos hw] at h2
      generalize (execOp (rho (dsts.take i) vs a0) o).run P w = res at h2 ⊢
      cases res with
      | ok n w' =>
        cases n <;> simp only [Told] at h2 ⊢
        case value v => exact key _ _ h2
        case skip => exact key _ _ h2
        case enter f args =>
          refine h2.mono ?_
          rintro e w'' ⟨v, he, hq⟩
          exact ⟨v, he, key _ _ hq⟩
      | halt x w' => exact h2.elim
    · rename_i hw
      rw [if_neg hw] at h2
      exact key _ _ h2
  · rw [putN_putL vs a0 dsts hr.dst _ (Nat.le_refl _), List.take_of_length_le (by rw [← hr.dst]; simp)]
    refine g4 vs w hb fun j hj hu => hf j (by simpa using hj) ?_
    simpa using hu
/-- A region that draws its order. -/
theorem draws_ {id : Nat} {a0 : Act} {w0 : World} {D : List (List Nat)} {L : List Nat} {dsts : List (Option Tmp)} (I J : World → Prop) (hm : P.follows .mixedOrders = true) (hr : RegOk ops D L dsts) (hroom : roomB dsts a0.tmps.size = true)
    (hI : ∀ w w', I w → Below w.heap.size w w' → I w') (hJ : ∀ w w', J w → Below w.heap.size w w' → J w') (h0 : I w0.drew) (hJ0 : J w0.drew)
    (h : Walk P D L dsts I J a0 (fun vs w => Q .normal (putL dsts 0 vs a0) w) ops.toList 0 []) : (Code.region id ops true).wp P Q a0 w0 := by
  obtain ⟨F, fx, hA⟩ := all_of hr hroom hI hJ h
  exact any_region hm h0 hJ0 hA
/-- A region in the text's order. -/
theorem plain_ {id : Nat} {a0 : Act} {w0 : World} {D : List (List Nat)} {L : List Nat} {dsts : List (Option Tmp)} (I J : World → Prop) (hr : RegOk ops D L dsts) (hroom : roomB dsts a0.tmps.size = true)
    (hI : ∀ w w', I w → Below w.heap.size w w' → I w') (hJ : ∀ w w', J w → Below w.heap.size w w' → J w') (h0 : I w0) (hJ0 : J w0)
    (h : Walk P D L dsts I J a0 (fun vs w => Q .normal (putL dsts 0 vs a0) w) ops.toList 0 []) : (Code.region id ops false).wp P Q a0 w0 := by
  obtain ⟨F, fx, hA⟩ := all_of hr hroom hI hJ h
  exact seq_region h0 hJ0 hA
/-- The start's world, as an invariant. -/
theorem inv0 {w0 : World} : ∀ w w', Below w0.heap.size w0 w → Below w.heap.size w w' → Below w0.heap.size w0 w' := fun _ _ h k => below_then h h.size k
/-! ### The moves -/
variable {D : List (List Nat)} {L : List Nat} {dsts : List (Option Tmp)} {I J : World → Prop} {a0 : Act} {K : (Nat → Value) → World → Prop} {o : Oper} {r : List Oper} {k : Nat} {Fs : List FW}
/-- An operation that yields a known value and turns nothing. -/
theorem w_val (l : List (Nat × Value)) (c : Value) (hv : ∀ vs w, Known Fs k (deps D L Fs k) vs w → Wants o vs = true ∧ Vs (rho (dsts.take k) vs a0) l) (hc : covers o (l.map (·.1)) = true)
    (hrun : ∀ w, I w → (execOp (lk l) o).run P w = .ok (.value c) w) (t : Walk P D L dsts I J a0 K r (k + 1) (FW.val c :: Fs)) : Walk P D L dsts I J a0 K (o :: r) k Fs :=
  ⟨_, fun vs w hb _ _ hK => ob_run l (hv vs w hK).1 (hv vs w hK).2 hc (hrun w hb) ⟨fun _ => hb, fun _ => Below.refl _ _, rfl⟩, t⟩
/-- A copy. -/
theorem w_move {t : Nat} {c : Value} (ho : o.op = .move (.tmp t) ∨ o.op = .assign (.tmp t)) (hv : ∀ vs w, Known Fs k (deps D L Fs k) vs w → Wants o vs = true ∧ rho (dsts.take k) vs a0 (.tmp t) = c)
    (t : Walk P D L dsts I J a0 K r (k + 1) (FW.val c :: Fs)) : Walk P D L dsts I J a0 K (o :: r) k Fs :=
  ⟨_, fun vs w hb _ _ hK => by
    unfold Ob
    rw [if_pos (hv vs w hK).1]
    have : (execOp (rho (dsts.take k) vs a0) o).run P w = .ok (.value c) w := by
      rcases ho with ho | ho <;> simp [execOp, ho, (hv vs w hK).2]
    rw [this]
    exact ⟨fun _ => hb, fun _ => Below.refl _ _, rfl⟩, t⟩
theorem w_const {c : Value} (ho : o.op = .move (.const c) ∨ o.op = .assign (.const c)) (hv : ∀ vs w, Known Fs k (deps D L Fs k) vs w → Wants o vs = true)
    (t : Walk P D L dsts I J a0 K r (k + 1) (FW.val c :: Fs)) : Walk P D L dsts I J a0 K (o :: r) k Fs :=
  ⟨_, fun vs w hb _ _ hK => by
    unfold Ob
    rw [if_pos (hv vs w hK)]
    have : (execOp (rho (dsts.take k) vs a0) o).run P w = .ok (.value c) w := by
      rcases ho with ho | ho <;> simp [execOp, ho, rho, Act.eval]
    rw [this]
    exact ⟨fun _ => hb, fun _ => Below.refl _ _, rfl⟩, t⟩
/-- A choice, decided. -/
theorem w_pick {x y z : Operand} {b : Bool} {c : Value} (ho : o.op = .pick x y z) (hv : ∀ vs w, Known Fs k (deps D L Fs k) vs w → Wants o vs = true ∧ rho (dsts.take k) vs a0 x = .bool b ∧ rho (dsts.take k) vs a0 (if b then y else z) = c)
    (t : Walk P D L dsts I J a0 K r (k + 1) (FW.val c :: Fs)) : Walk P D L dsts I J a0 K (o :: r) k Fs :=
  ⟨_, fun vs w hb _ _ hK => by
    unfold Ob
    rw [if_pos (hv vs w hK).1]
    obtain ⟨_, h1, h2⟩ := hv vs w hK
    have : (execOp (rho (dsts.take k) vs a0) o).run P w = .ok (.value c) w := by
      cases b
      · simp only [Bool.false_eq_true, if_false] at h2
        simp [execOp, ho, h1, h2, asBool]
      · simp only [if_true] at h2
        simp [execOp, ho, h1, h2, asBool]
    rw [this]
    exact ⟨fun _ => hb, fun _ => Below.refl _ _, rfl⟩, t⟩
theorem rho_const {dsts : List (Option Tmp)} {vs : Nat → Value} {a0 : Act} {c : Value} : rho dsts vs a0 (.const c) = c := rfl
/-- One that is not run. -/
theorem w_not (hv : ∀ vs w, Known Fs k (deps D L Fs k) vs w → Wants o vs = false) (t : Walk P D L dsts I J a0 K r (k + 1) (FW.val undef :: Fs)) : Walk P D L dsts I J a0 K (o :: r) k Fs :=
  ⟨_, fun vs w hb _ _ hK => ob_not (hv vs w hK) ⟨fun _ => hb, fun _ => Below.refl _ _, rfl⟩, t⟩
/-- A call whose answer is known. -/
theorem w_call {f : FuncId} {fn : Func} {ags : Array Operand} {ts : Array TypeId} (l : List (Nat × Value)) (args : Array Value) (c : Value) (hL : k ∉ L) (hv : ∀ vs w, Known Fs k (deps D L Fs k) vs w → Wants o vs = true ∧ Vs (rho (dsts.take k) vs a0) l) (hc : covers o (l.map (·.1)) = true)
    (hop : o.op = .call { callee := .value (.func f), args := ags, argTypes := ts }) (hf : P.funcs[f]? = some fn) (hname : (fn.name == "runtime.NumGoroutine") = false) (hb : fn.body.isSome = true)
    (h : ∀ w, I w → Calls P f args w fun e w' => e = .returned c ∧ Below w.heap.size w w') (hargs : ags.map (lk l) = args) (t : Walk P D L dsts I J a0 K r (k + 1) (FW.val c :: Fs)) : Walk P D L dsts I J a0 K (o :: r) k Fs :=
  ⟨_, fun vs w hbl _ _ hK => ob_call l args (hv vs w hK).1 (hv vs w hK).2 hc hop hf hname hb hargs ((h w hbl).mono fun e w' ⟨he, hw⟩ => ⟨c, he, fun h => absurd h hL, fun _ => hw, rfl⟩), t⟩
/-- A call, its answer told by a fact. -/
theorem w_callF (F : FW) {f : FuncId} {fn : Func} {ags : Array Operand} {ts : Array TypeId} (l : List (Nat × Value)) (args : Array Value) (hL : k ∉ L) (hv : ∀ vs w, Known Fs k (deps D L Fs k) vs w → Wants o vs = true ∧ Vs (rho (dsts.take k) vs a0) l) (hc : covers o (l.map (·.1)) = true)
    (hop : o.op = .call { callee := .value (.func f), args := ags, argTypes := ts }) (hf : P.funcs[f]? = some fn) (hname : (fn.name == "runtime.NumGoroutine") = false) (hb : fn.body.isSome = true)
    (h : ∀ w, I w → Calls P f args w fun e w' => ∃ v, e = .returned v ∧ Below w.heap.size w w' ∧ F.p v w') (hargs : ags.map (lk l) = args) (t : Walk P D L dsts I J a0 K r (k + 1) (F :: Fs)) : Walk P D L dsts I J a0 K (o :: r) k Fs :=
  ⟨F, fun vs w hbl _ _ hK => ob_call l args (hv vs w hK).1 (hv vs w hK).2 hc hop hf hname hb hargs ((h w hbl).mono fun e w' ⟨v, he, hw, hF⟩ => ⟨v, he, (fun h => absurd h hL), fun _ => hw, hF⟩), t⟩
/-- Anything that turns nothing that lay: by hand. -/
theorem w_any (F : FW) (hkL : k ∉ L) (h : ∀ vs w, I w → Known Fs k (deps D L Fs k) vs w → Ob P (dsts.take k) o vs a0 w (fun v w' => Below w.heap.size w w' ∧ F.p v w')) (t : Walk P D L dsts I J a0 K r (k + 1) (F :: Fs)) : Walk P D L dsts I J a0 K (o :: r) k Fs := by
  refine ⟨F, fun vs w hb _ _ hK => ?_, t⟩
  have h2 := h vs w hb hK
  have key : ∀ (v : Value) (w' : World), (Below w.heap.size w w' ∧ F.p v w') → ((k ∈ L → I w') ∧ (k ∉ L → Below w.heap.size w w') ∧ F.p v w') := fun v w' ⟨q1, q2⟩ => ⟨fun h => absurd h hkL, fun _ => q1, q2⟩
  unfold Ob at h2 ⊢
  split
  · rename_i hw
    rw [if_pos hw] at h2
    generalize (execOp (rho (dsts.take k) vs a0) o).run P w = res at h2 ⊢
    cases res with
    | ok n w' =>
      cases n <;> simp only [Told] at h2 ⊢
      case value v => exact key _ _ h2
      case skip => exact key _ _ h2
      case enter f args =>
        refine h2.mono ?_
        rintro e w'' ⟨v, he, hq⟩
        exact ⟨v, he, key _ _ hq⟩
    | halt x w' => exact h2.elim
  · rename_i hw
    rw [if_neg hw] at h2
    exact key _ _ h2
/-- With the start fact: anything that turns nothing that lay: by hand. -/
theorem w_anyJ (F : FW) (hkL : k ∉ L) (h : ∀ vs w, I w → (earlyB D L k = true → J w) → Known Fs k (deps D L Fs k) vs w → Ob P (dsts.take k) o vs a0 w (fun v w' => Below w.heap.size w w' ∧ F.p v w')) (t : Walk P D L dsts I J a0 K r (k + 1) (F :: Fs)) : Walk P D L dsts I J a0 K (o :: r) k Fs := by
  refine ⟨F, fun vs w hb _ hj hK => ?_, t⟩
  have h2 := h vs w hb hj hK
  have key : ∀ (v : Value) (w' : World), (Below w.heap.size w w' ∧ F.p v w') → ((k ∈ L → I w') ∧ (k ∉ L → Below w.heap.size w w') ∧ F.p v w') := fun v w' ⟨q1, q2⟩ => ⟨fun h => absurd h hkL, fun _ => q1, q2⟩
  unfold Ob at h2 ⊢
  split
  · rename_i hw
    rw [if_pos hw] at h2
    generalize (execOp (rho (dsts.take k) vs a0) o).run P w = res at h2 ⊢
    cases res with
    | ok n w' =>
      cases n <;> simp only [Told] at h2 ⊢
      case value v => exact key _ _ h2
      case skip => exact key _ _ h2
      case enter f args =>
        refine h2.mono ?_
        rintro e w'' ⟨v, he, hq⟩
        exact ⟨v, he, key _ _ hq⟩
    | halt x w' => exact h2.elim
  · rename_i hw
    rw [if_neg hw] at h2
    exact key _ _ h2
/-- One of those that write in turn: by hand. -/
theorem w_lin (F : FW) (hL : k ∈ L) (h : ∀ vs w, I w → (k ∈ L → (∀ q ∈ L, k ≤ q) → J w) → Known Fs k (deps D L Fs k) vs w → Ob P (dsts.take k) o vs a0 w (fun v w' => I w' ∧ F.p v w')) (t : Walk P D L dsts I J a0 K r (k + 1) (F :: Fs)) : Walk P D L dsts I J a0 K (o :: r) k Fs :=
  ⟨F, fun vs w hb hj _ hK => by
    have h2 := h vs w hb hj hK
    have key : ∀ (v : Value) (w' : World), (I w' ∧ F.p v w') → ((k ∈ L → I w') ∧ (k ∉ L → Below w.heap.size w w') ∧ F.p v w') := fun v w' ⟨q1, q2⟩ => ⟨fun _ => q1, fun h => absurd hL h, q2⟩
    unfold Ob at h2 ⊢
    split
    · rename_i hw
      rw [if_pos hw] at h2
      generalize (execOp (rho (dsts.take k) vs a0) o).run P w = res at h2 ⊢
      cases res with
      | ok n w' =>
        cases n <;> simp only [Told] at h2 ⊢
        case value v => exact key _ _ h2
        case skip => exact key _ _ h2
        case enter f args =>
          refine h2.mono ?_
          rintro e w'' ⟨v, he, hq⟩
          exact ⟨v, he, key _ _ hq⟩
      | halt x w' => exact h2.elim
    · rename_i hw
      rw [if_neg hw] at h2
      exact key _ _ h2, t⟩
theorem finL_val {d : Option Tmp} {c : Value} {r : List (Option Tmp)} {Fs : List FW} {k : Nat} {vs : Nat → Value} {a : Act} : finL (d :: r) (FW.val c :: Fs) k vs a = finL r Fs (k + 1) vs (a.put d c) := rfl
theorem finL_of {d : Option Tmp} {p : Value → World → Prop} {st : ∀ v w w', p v w → Below w.heap.size w w' → p v w'} {r : List (Option Tmp)} {Fs : List FW} {k : Nat} {vs : Nat → Value} {a : Act} : finL (d :: r) (FW.of p st :: Fs) k vs a = finL r Fs (k + 1) vs (a.put d (vs k)) := rfl
theorem finL_any {d : Option Tmp} {r : List (Option Tmp)} {Fs : List FW} {k : Nat} {vs : Nat → Value} {a : Act} : finL (d :: r) (FW.any :: Fs) k vs a = finL r Fs (k + 1) vs (a.put d (vs k)) := rfl
theorem finL_nil {k : Nat} {vs : Nat → Value} {a : Act} : finL [] [] k vs a = a := rfl
def endB (D : List (List Nat)) (L : List Nat) (Fs : List FW) (k : Nat) : Bool := (List.range k).all fun j => (Fs.getD (k - 1 - j) FW.any).det.isNone || useE D L (Fs.getD (k - 1 - j) FW.any).fix j k
theorem endB_spec {D : List (List Nat)} {L : List Nat} {Fs : List FW} {k : Nat} (h : endB D L Fs k = true) : ∀ j, j < k → (Fs.getD (k - 1 - j) FW.any).det = none ∨ useE D L (Fs.getD (k - 1 - j) FW.any).fix j k = true := fun j hj => by
  have := List.all_eq_true.1 h j (List.mem_range.2 hj)
  simpa using this
/-- The end: the frame, known values written out. -/
theorem w_end {Q : Act → World → Prop} (hl : dsts.length = Fs.length) (hk : Fs.length = k) (hd0 : endB D L Fs k = true) (h : ∀ vs w, I w → (∀ j, j < k → useE D L (Fs.getD (k - 1 - j) FW.any).fix j k = true → (Fs.getD (k - 1 - j) FW.any).p (vs j) w) → Q (finL dsts Fs.reverse 0 vs a0) w) : Walk P D L dsts I J a0 (fun vs w => Q (putL dsts 0 vs a0) w) [] k Fs := fun vs w hb hf => by
  have hd := endB_spec hd0
  show Q (putL dsts 0 vs a0) w
  rw [finL_eq vs w dsts Fs.reverse 0 a0 (by simp [hl]) (fun j hj => by
    rw [Nat.zero_add]
    have hj' : j < Fs.length := by simpa using hj
    have h1 := hd j (by omega)
    have h2 := hf j (by omega)
    rw [List.getD_eq_getElem?_getD, List.getElem?_reverse hj']
    rw [List.getD_eq_getElem?_getD] at h1 h2
    rw [hk]
    exact h1.imp id h2)]
  exact h vs w hb hf
/-- A copy, its value told by whatever fact. -/
theorem ob_copy {dsts : List (Option Tmp)} {vs : Nat → Value} {a0 : Act} {o : Oper} {w : World} {R : Value → World → Prop} {t : Nat} {c : Value} (ho : o.op = .move (.tmp t) ∨ o.op = .assign (.tmp t)) (hw : Wants o vs = true) (hv : rho dsts vs a0 (.tmp t) = c) (hR : R c w) : Ob P dsts o vs a0 w R := by
  unfold Ob
  rw [if_pos hw]
  have : (execOp (rho dsts vs a0) o).run P w = .ok (.value c) w := by
    rcases ho with ho | ho <;> simp [execOp, ho, hv]
  rw [this]
  exact hR
theorem run_append_op {l : List (Nat × Value)} {s x : Operand} {ts : Array TypeId} {u v v1 : Value} {w w1 : World} (ho : o.op = .call { callee := .builtin .append, args := #[s, x], argTypes := ts }) (hs : lk l s = v) (hx : lk l x = u)
    (hrun : (Builtin.append_ ts o.type #[v, u]).run P w = .ok v1 w1) : (execOp (lk l) o).run P w = .ok (.value v1) w1 := by
  unfold execOp
  simp [ho, resolve, invoke, builtin, hs, hx, hrun]
end
/-- An appended row, as a fact. -/
def FW.app (k : IntKind) (E : TypeId) (w0 w : World) (v : Value) (xs : List Int) : FW := .of (fun v' w' => App k E w0 w w' v v' xs) fun _ _ _ h hb => ⟨gr_below h.own hb, below_then h.bel h.bel.size hb, h.fr.below hb⟩
section
variable {d : Option Tmp} {r : List (Option Tmp)} {Fs : List FW} {n : Nat} {vs : Nat → Value} {a : Act} {k : IntKind} {E : TypeId} {w0 w : World} {v : Value} {xs : List Int} {B : Nat} {cs : List Value} {T : TypeId}
theorem finL_app : finL (d :: r) (FW.app k E w0 w v xs :: Fs) n vs a = finL r Fs (n + 1) vs (a.put d (vs n)) := rfl
theorem finL_gr : finL (d :: r) (FW.gr k E B xs :: Fs) n vs a = finL r Fs (n + 1) vs (a.put d (vs n)) := rfl
theorem finL_row : finL (d :: r) (FW.row k xs :: Fs) n vs a = finL r Fs (n + 1) vs (a.put d (vs n)) := rfl
theorem finL_box : finL (d :: r) (FW.box B cs T :: Fs) n vs a = finL r Fs (n + 1) vs (a.put d (vs n)) := rfl
end
theorem app_start {k : IntKind} {E : TypeId} {w0 w : World} {v : Value} {xs : List Int} (HO : Gr k E w w0.heap.size v xs) (HB : Below w0.heap.size w0 w) {w' : World} (hb : Below w.heap.size w w') : App k E w0 w w' v v xs :=
  ⟨gr_below HO hb, below_then HB HB.size hb, (Fr.refl w v).below hb⟩
theorem app_st {k : IntKind} {E : TypeId} {w0 w : World} {v v' : Value} {xs : List Int} : ∀ w1 w2, App k E w0 w w1 v v' xs → Below w1.heap.size w1 w2 → App k E w0 w w2 v v' xs := fun _ _ h hb => ⟨gr_below h.own hb, below_then h.bel h.bel.size hb, h.fr.below hb⟩
/-- The next of a chain. -/
theorem app_next {k : IntKind} {E : TypeId} {w0 w w1 w2 : World} {v v1 v2 : Value} {xs ys : List Int} (h : App k E w0 w w1 v v1 xs) (a : App k E w0 w1 w2 v1 v2 ys) : App k E w0 w w2 v v2 ys := ⟨a.own, a.bel, h.fr.trans a.fr⟩
theorem app_of_run {k : IntKind} {E : TypeId} {w0 w w1 w2 : World} {v v1 v2 : Value} {xs ys : List Int} (h : App k E w0 w w1 v v1 xs) (a : Apd (Value.int k) (int_one k) E w1 w2 w0.heap.size v1 v2 ys) : App k E w0 w w2 v v2 ys :=
  ⟨a.own, h.bel.grown a.fr.grown h.bel.size (gr_base h.own), h.fr.trans a.fr⟩
/-- A row that was made since the world W; nothing that lay there is turned. -/
structure New (k : IntKind) (E : TypeId) (W : World) (xs : List Int) (v : Value) (w : World) : Prop where
  own : Gr k E w W.heap.size v xs
  bel : Below W.heap.size W w
theorem New.below {k : IntKind} {E : TypeId} {W : World} {xs : List Int} {v : Value} {w w' : World} (h : New k E W xs v w) (hb : Below w.heap.size w w') : New k E W xs v w' := ⟨gr_below h.own hb, below_then h.bel h.bel.size hb⟩
def FW.new (k : IntKind) (E : TypeId) (W : World) (xs : List Int) : FW := .of (New k E W xs) fun _ _ _ h hb => h.below hb
theorem finL_new {d : Option Tmp} {r : List (Option Tmp)} {Fs : List FW} {n : Nat} {vs : Nat → Value} {a : Act} {k : IntKind} {E : TypeId} {W : World} {xs : List Int} : finL (d :: r) (FW.new k E W xs :: Fs) n vs a = finL r Fs (n + 1) vs (a.put d (vs n)) := rfl
theorem new_app {k : IntKind} {E : TypeId} {W w w' : World} {v v' : Value} {xs : List Int} (h : App k E W w w' v v' xs) : New k E W xs v' w' := ⟨h.own, h.bel⟩
theorem new_run {k : IntKind} {E : TypeId} {W w w' : World} {v v' : Value} {xs ys : List Int} (h : New k E W xs v w) (a : Apd (Value.int k) (int_one k) E w w' W.heap.size v v' ys) : New k E W ys v' w' := ⟨a.own, h.bel.grown a.fr.grown h.bel.size (gr_base h.own)⟩
theorem new_nil (k : IntKind) (E : TypeId) {W w : World} (hb : Below W.heap.size W w) : New k E W [] (.slice none 0 0) w := ⟨gr_nil _ _ _, hb⟩
theorem run_conv_op {P : Program} {o : Oper} {l : List (Nat × Value)} {s : Operand} {src dst : TypeId} {v c : Value} {w w' : World} (ho : o.op = .convert src dst s) (hs : lk l s = v) (hrun : (convert src dst v).run P w = .ok c w') : (execOp (lk l) o).run P w = .ok (.value c) w' := by
  unfold execOp
  simp [ho, hs, hrun]
theorem run_load_op {P : Program} {o : Oper} {l : List (Nat × Value)} {x : Operand} {t : TypeId} {p v : Value} {w : World} (ho : o.op = .load t x) (hx : lk l x = p) (hrun : (Instr.loadAt t p).run P w = .ok v w) : (execOp (lk l) o).run P w = .ok (.value v) w := by
  unfold execOp
  simp [ho, hx, hrun]
theorem run_cat_op {P : Program} {o : Oper} {l : List (Nat × Value)} {x y : Operand} {t : TypeId} {m : Nat} {a b : ByteArray} {w : World} (ho : o.op = .binOp .add t x y m) (hx : lk l x = .string a) (hy : lk l y = .string b) (hs : a.size + b.size ≤ 9223372036854775807) : (execOp (lk l) o).run P w = .ok (.value (.string (a ++ b))) w := by
  unfold execOp
  simp [ho, hx, hy, eqGuard, binOp, run_string_add_sum w a b hs, Result.andThen]
theorem run_eql_same {P : Program} {o : Oper} {l : List (Nat × Value)} {x y : Operand} {t : TypeId} {m : Nat} {a b : ByteArray} {w : World} (ho : o.op = .binOp .eql t x y m) (hx : lk l x = .string a) (hy : lk l y = .string b) (hs : a = b) : (execOp (lk l) o).run P w = .ok (.value (.bool true)) w := by
  subst hs
  unfold execOp
  simp [ho, hx, hy, eqGuard, binOp, Op.stringOp]
theorem run_neq_same {P : Program} {o : Oper} {l : List (Nat × Value)} {x y : Operand} {t : TypeId} {m : Nat} {a b : ByteArray} {w : World} (ho : o.op = .binOp .neq t x y m) (hx : lk l x = .string a) (hy : lk l y = .string b) (hs : a = b) : (execOp (lk l) o).run P w = .ok (.value (.bool false)) w := by
  subst hs
  unfold execOp
  simp [ho, hx, hy, eqGuard, binOp, Op.stringOp]
theorem run_len_str {P : Program} {o : Oper} {l : List (Nat × Value)} {x : Operand} {t : TypeId} {s : ByteArray} {n : Int} {w : World} (ho : o.op = .call { callee := .builtin .len, args := #[x], argTypes := #[t] }) (ht : P.underlying t = some .string) (hx : lk l x = .string s) (hs : (s.size : Int) = n) : (execOp (lk l) o).run P w = .ok (.value (.int .i64 n)) w := by
  subst hs
  unfold execOp
  simp [ho, resolve, invoke, builtin, hx, run_len_string w t o.type s ht, Result.andThen, goInt]
theorem run_int_eql {P : Program} {o : Oper} {l : List (Nat × Value)} {x y : Operand} {t : TypeId} {m : Nat} {k : IntKind} {a b : Int} {r : Bool} {w : World} (ho : o.op = .binOp .eql t x y m) (hx : lk l x = .int k a) (hy : lk l y = .int k b) (h : (a == b) = r) : (execOp (lk l) o).run P w = .ok (.value (.bool r)) w := by
  subst h
  unfold execOp
  simp [ho, hx, hy, eqGuard, binOp, Op.intCmp]
theorem run_int_neq {P : Program} {o : Oper} {l : List (Nat × Value)} {x y : Operand} {t : TypeId} {m : Nat} {k : IntKind} {a b : Int} {r : Bool} {w : World} (ho : o.op = .binOp .neq t x y m) (hx : lk l x = .int k a) (hy : lk l y = .int k b) (h : (a != b) = r) : (execOp (lk l) o).run P w = .ok (.value (.bool r)) w := by
  subst h
  unfold execOp
  simp [ho, hx, hy, eqGuard, binOp, Op.intCmp]
theorem run_int_lss {P : Program} {o : Oper} {l : List (Nat × Value)} {x y : Operand} {t : TypeId} {m : Nat} {k : IntKind} {a b : Int} {r : Bool} {w : World} (ho : o.op = .binOp .lss t x y m) (hx : lk l x = .int k a) (hy : lk l y = .int k b) (h : decide (a < b) = r) : (execOp (lk l) o).run P w = .ok (.value (.bool r)) w := by
  subst h
  unfold execOp
  simp [ho, hx, hy, eqGuard, binOp, Op.intCmp]
theorem run_int_leq {P : Program} {o : Oper} {l : List (Nat × Value)} {x y : Operand} {t : TypeId} {m : Nat} {k : IntKind} {a b : Int} {r : Bool} {w : World} (ho : o.op = .binOp .leq t x y m) (hx : lk l x = .int k a) (hy : lk l y = .int k b) (h : decide (a ≤ b) = r) : (execOp (lk l) o).run P w = .ok (.value (.bool r)) w := by
  subst h
  unfold execOp
  simp [ho, hx, hy, eqGuard, binOp, Op.intCmp]
theorem run_int_gtr {P : Program} {o : Oper} {l : List (Nat × Value)} {x y : Operand} {t : TypeId} {m : Nat} {k : IntKind} {a b : Int} {r : Bool} {w : World} (ho : o.op = .binOp .gtr t x y m) (hx : lk l x = .int k a) (hy : lk l y = .int k b) (h : decide (a > b) = r) : (execOp (lk l) o).run P w = .ok (.value (.bool r)) w := by
  subst h
  unfold execOp
  simp [ho, hx, hy, eqGuard, binOp, Op.intCmp]
theorem run_int_geq {P : Program} {o : Oper} {l : List (Nat × Value)} {x y : Operand} {t : TypeId} {m : Nat} {k : IntKind} {a b : Int} {r : Bool} {w : World} (ho : o.op = .binOp .geq t x y m) (hx : lk l x = .int k a) (hy : lk l y = .int k b) (h : decide (a ≥ b) = r) : (execOp (lk l) o).run P w = .ok (.value (.bool r)) w := by
  subst h
  unfold execOp
  simp [ho, hx, hy, eqGuard, binOp, Op.intCmp]
/-- A contract that leaves the world alone. -/
theorem pureB {P : Program} {f : FuncId} {args : Array Value} {w : World} {c : Value} (h : Calls P f args w fun e w' => e = .returned c ∧ w = w') : Calls P f args w fun e w' => e = .returned c ∧ Below w.heap.size w w' :=
  h.mono fun e w' ⟨he, hw⟩ => ⟨he, hw ▸ Below.refl _ _⟩
theorem run_slice_op {P : Program} {o : Oper} {l : List (Nat × Value)} {t : TypeId} {x : Operand} {lo hi : Option Operand} {v c : Value} {w : World} (ho : o.op = .slice t x lo hi none) (hx : lk l x = v) (hrun : (Instr.sliceAt t v (lo.map (lk l)) (hi.map (lk l)) none).run P w = .ok c w) : (execOp (lk l) o).run P w = .ok (.value c) w := by
  unfold execOp
  simp [ho, hx, hrun]
/-- s[lo:hi], the bounds of whatever kinds. -/
theorem cut_mid_k {α : Type} {enc : α → Value} {h1 : ∀ x, (enc x).oneCell' = true} {P : Program} {t e : TypeId} {z : Value} {bytes : Nat} (k1 k2 : IntKind) (d : α) (T : SlTy P t e z bytes) (A : Option Addr) (n c lo hi m : Nat) (hm : m + lo = hi) (hh : hi ≤ n) (hc : n ≤ c) (j1 j2 : Int) (hj1 : j1 = (lo : Int)) (hj2 : j2 = (hi : Int)) :
    ∃ A' : Option Addr, (∀ W : World, (Instr.slice t (.slice A n c) (some (.int k1 j1)) (some (.int k2 j2)) none).run P W = .ok (.slice A' m (c - lo)) W) ∧ ∀ (w : World) (xs : List α), RdsE enc h1 w A n xs → RdsE enc h1 w A' m ((xs.take hi).drop lo) := by
  obtain ⟨i0, hi0, hzz⟩ := Option.map_eq_some_iff.1 T.info
  simp only [Prod.mk.injEq] at hzz
  have hel : P.elem t = e := by simp [Program.elem, T.und]
  have hu : P.underlying t = some (.slice (P.elem t)) := by rw [hel]; exact T.und
  obtain rfl : m = hi - lo := by omega
  refine ⟨if c = lo then A else A.map (·.add lo), fun W => ?_, fun w xs h => rds_drop d (c := c) (rds_take d h hi hh) lo (by omega) (by omega)⟩
  rw [hj1, hj2, run_slice_lh W t A n c hu k1 k2 lo hi (by omega) (by omega) (by omega), hel]
  simp [sizeOf, typeInfo, hi0, hzz.2.1, sliced, Result.andThen]
theorem szc (b : UInt8) : (⟨#[b]⟩ : ByteArray).size = 1 := rfl
theorem range_block {w : World} {g : Nat} {cs : List Value} {T : TypeId} {fr : Nat × Nat} (h : w.heap[g]? = some (.cells cs.toArray T fr)) : w.rangeAt g 0 cs := fun j v hv => by
  simp only [World.cell?, h]
  simpa using hv
theorem range_mid {w : World} {g o n : Nat} {cs ds : List Value} {T : TypeId} {fr : Nat × Nat} (h : w.heap[g]? = some (.cells cs.toArray T fr)) (hd : (cs.drop o).take n = ds) : w.rangeAt g o ds := fun j v hv => by
  subst hd
  simp only [World.cell?, h]
  rw [List.getElem?_take] at hv
  split at hv
  · rw [List.getElem?_drop] at hv
    simpa using hv
  · cases hv
/-- Blocks that stay, beside a chain. -/
structure Keeps (w0 : World) (g : Nat) (o : Obj) (w : World) : Prop where
  bel : Below w0.heap.size w0 w
  at_ : w.heap[g]? = some o
theorem keeps_below {w0 : World} {g : Nat} {o : Obj} : ∀ w w', Keeps w0 g o w → Below w.heap.size w w' → Keeps w0 g o w' := fun _ _ h hb =>
  ⟨below_then h.bel h.bel.size hb, by rw [hb.block g (mk_lt h.at_)]; exact h.at_⟩
/-- .. where a row beside it is written. -/
theorem keeps_fr {w0 : World} {g : Nat} {o : Obj} {w w' : World} {v v' : Value} (h : Keeps w0 g o w) (hb : Below w0.heap.size w0 w') (hf : Fr w w' v v') (hne : v.ownBlock ≠ some g) : Keeps w0 g o w' :=
  ⟨hb, by rw [hf.grown.block g (mk_lt h.at_) (Ne.symm hne)]; exact h.at_⟩
/-- A chain's row stays away from an elder block that it did not begin in. -/
theorem app_ne {k : IntKind} {E : TypeId} {w0 w w1 : World} {v v1 : Value} {xs : List Int} (h : App k E w0 w w1 v v1 xs) {g : Nat} (hg : g < w.heap.size) (hne : v.ownBlock ≠ some g) : v1.ownBlock ≠ some g := by
  rcases h.fr.at_ with e | ⟨b, e, hb⟩
  · rw [e]; exact hne
  · rw [e]
    intro he
    injection he with he
    omega
theorem gr_ne {k : IntKind} {E : TypeId} {w : World} {B : Nat} {v : Value} {xs : List Int} (h : Gr k E w B v xs) {g : Nat} (hg : w.heap.size ≤ g) : v.ownBlock ≠ some g := fun he => by
  have := gr_lt h g he
  omega
/-- Cells of a block that is known. -/
theorem rds_block {k : IntKind} {w : World} {g o n : Nat} {cs : List Value} {T : TypeId} {fr : Nat × Nat} {xs : List Int} (h : w.heap[g]? = some (.cells cs.toArray T fr)) (hc : (cs.drop o).take n = nums k xs) (hn : xs.length = n) (hm : n ≤ 9223372036854775807) : Rds k w (some ⟨g, o, none⟩) n xs := by
  subst hn
  refine Kd.C_of_reads (d := (0 : Int)) ⟨rfl, hm, fun _ => ⟨_, rfl, fun j hj => ?_⟩⟩
  rw [Addr.add_mid]
  have h2 : ((cs.drop o).take xs.length)[j]? = (nums k xs)[j]? := by rw [hc]
  rw [List.getElem?_take, if_pos hj, List.getElem?_drop] at h2
  simp only [World.cell?, h]
  simp [nums, List.getElem?_eq_getElem hj, List.getD_eq_getElem?_getD] at h2 ⊢
  exact h2
end Go.Proofs.Ytnkeijdpjcclcaa.Kit
-- Walk2
/- Loads of one cell, in regions. -/
namespace Go.Proofs.Ytnkeijdpjcclcaa.Kit
set_option linter.unusedVariables false
set_option linter.unusedSimpArgs false
open Go.RowKit Go.Proofs.YtnkeijdpjcclcaaW.PrintWords Go.Proofs.YtnkeijdpjcclcaaW.PrintLast Go.Proofs.YtnkeijdpjcclcaaW.PrintMore
def oneB : TypeDesc → Bool
  | .struct _ => false
  | .array _ _ => false
  | _ => true
theorem run_loadAt_cell {P : Program} (w : World) (ad : Addr) (ty : TypeId) (v : Value) (d : TypeDesc) (hu : P.underlying ty = some d) (hd : oneB d = true) (hc : w.cell? ad = some v) : (Instr.loadAt ty (.pointer (some ad))).run P w = .ok v w := by
  have hagg : (isAgg ty).run P w = .ok false w := by
    unfold isAgg
    rw [Sem.run_bind, run_underlying hu w]
    cases d <;> simp_all [oneB]
  simp only [Instr.loadAt, Instr.sureAddr, loadVar, Sem.run_bind, Sem.run_pure, Result.andThen_ok, hagg]
  go_simp
theorem run_load_cell {P : Program} {o : Oper} {l : List (Nat × Value)} {x : Operand} {t : TypeId} {p v : Value} {ad : Addr} {d : TypeDesc} {w : World} (ho : o.op = .load t x) (hx : lk l x = p) (hp : p = .pointer (some ad)) (hu : P.underlying t = some d) (hd : oneB d = true) (hc : w.cell? ad = some v) : (execOp (lk l) o).run P w = .ok (.value v) w := by
  subst hp
  exact run_load_op ho hx (run_loadAt_cell w ad t v d hu hd hc)
theorem run_int_add {P : Program} {o : Oper} {l : List (Nat × Value)} {x y : Operand} {t : TypeId} {m : Nat} {k : IntKind} {a b c : Int} {w : World} (ho : o.op = .binOp .add t x y m) (hx : lk l x = .int k a) (hy : lk l y = .int k b) (h : k.wrap (a + b) = c) : (execOp (lk l) o).run P w = .ok (.value (.int k c)) w := by
  subst h
  unfold execOp
  simp [ho, hx, hy, eqGuard, binOp, Op.intArith]
theorem run_int_sub {P : Program} {o : Oper} {l : List (Nat × Value)} {x y : Operand} {t : TypeId} {m : Nat} {k : IntKind} {a b c : Int} {w : World} (ho : o.op = .binOp .sub t x y m) (hx : lk l x = .int k a) (hy : lk l y = .int k b) (h : k.wrap (a - b) = c) : (execOp (lk l) o).run P w = .ok (.value (.int k c)) w := by
  subst h
  unfold execOp
  simp [ho, hx, hy, eqGuard, binOp, Op.intArith]
theorem i64_id {x : Int} (h0 : -9223372036854775808 ≤ x) (h1 : x ≤ 9223372036854775807) : IntKind.i64.wrap x = x := by rw [IntKind.wrap_i64]; omega
theorem run_len_sl {P : Program} {o : Oper} {l : List (Nat × Value)} {x : Operand} {t e : TypeId} {A : Option Addr} {n c : Nat} {m : Int} {w : World} (ho : o.op = .call { callee := .builtin .len, args := #[x], argTypes := #[t] }) (ht : P.underlying t = some (.slice e)) (hx : lk l x = .slice A n c) (hm : (n : Int) = m) : (execOp (lk l) o).run P w = .ok (.value (.int .i64 m)) w := by
  subst hm
  unfold execOp
  simp only [ho, resolve, invoke, builtin, hx, List.map_toArray, List.map_cons, List.map_nil, Sem.run_bind, Sem.run_pure, Result.andThen_ok]
  go_simp
/-- &s[i] -/
theorem run_index_cell {P : Program} {o : Oper} {l : List (Nat × Value)} {x ix : Operand} {t e : TypeId} {z : Value} {bytes : Nat} (T : SlTy P t e z bytes) {ad : Addr} {n c i : Nat} {j : Int} {k : IntKind} {w : World} (ho : o.op = .indexAddr t x ix) (hx : lk l x = .slice (some ad) n c) (hj : lk l ix = .int k j) (hi : j = (i : Int)) (hn : i < n) :
    (execOp (lk l) o).run P w = .ok (.value (.pointer (some (ad.add i)))) w := by
  subst hi
  obtain ⟨i0, hi0, hzz⟩ := Option.map_eq_some_iff.1 T.info
  simp only [Prod.mk.injEq] at hzz
  have hel : P.elem t = e := by simp [Program.elem, T.und]
  have hu := T.und
  have h0 : (0 : Int) ≤ (i : Int) := by omega
  have h1 : (i : Int) < (n : Int) := by omega
  unfold execOp
  simp only [ho, hx, hj]
  go_simp
  simp [sizeOf, typeInfo, hi0, hzz.2.1, Result.andThen]
theorem below_cell {w w' : World} {ad : Addr} {v : Value} (hb : Below w.heap.size w w') (h : w.cell? ad = some v) : w'.cell? ad = some v := by
  have hlt : ad.block < w.heap.size := by
    rcases Nat.lt_or_ge ad.block w.heap.size with g | g
    · exact g
    · simp [World.cell?, Array.getElem?_eq_none g] at h
  unfold World.cell? at h ⊢
  rw [hb.block _ hlt]
  exact h
end Go.Proofs.Ytnkeijdpjcclcaa.Kit
-- Walk3
/- More operations in regions: texts compared, truth values compared, minus. -/
namespace Go.Proofs.Ytnkeijdpjcclcaa.Kit
set_option linter.unusedVariables false
set_option linter.unusedSimpArgs false
open Go.RowKit Go.Proofs.YtnkeijdpjcclcaaW.PrintWords Go.Proofs.YtnkeijdpjcclcaaW.PrintLast Go.Proofs.YtnkeijdpjcclcaaW.PrintMore
theorem box_stays {w w' : World} {g : Nat} {o : Obj} (h : w.heap[g]? = some o) (hb : Below w.heap.size w w') : w'.heap[g]? = some o := by rw [hb.block g (mk_lt h)]; exact h
theorem op_int_neg {P : Program} {o : Oper} {l : List (Nat × Value)} {x : Operand} {t : TypeId} {k : IntKind} {a c : Int} {w : World} (ho : o.op = .unOp .neg t x) (hx : lk l x = .int k a) (h : k.wrap (-a) = c) : (execOp (lk l) o).run P w = .ok (.value (.int k c)) w := by
  subst h
  unfold execOp
  simp [ho, hx, Op.unary, Op.intArith]
theorem op_str_ne {P : Program} {o : Oper} {l : List (Nat × Value)} {x y : Operand} {t : TypeId} {m : Nat} {a b : ByteArray} {w : World} (ho : o.op = .binOp .eql t x y m) (hx : lk l x = .string a) (hy : lk l y = .string b) (h : a ≠ b) : (execOp (lk l) o).run P w = .ok (.value (.bool false)) w := by
  unfold execOp
  simp [ho, hx, hy, eqGuard, binOp, Op.stringOp]
  intro e
  apply h
  exact ByteArray.ext (Array.toList_inj.1 (by rw [← ByteArray.toList_eq, ← ByteArray.toList_eq]; exact e))
theorem op_str_neq {P : Program} {o : Oper} {l : List (Nat × Value)} {x y : Operand} {t : TypeId} {m : Nat} {a b : ByteArray} {w : World} (ho : o.op = .binOp .neq t x y m) (hx : lk l x = .string a) (hy : lk l y = .string b) (h : a ≠ b) : (execOp (lk l) o).run P w = .ok (.value (.bool true)) w := by
  unfold execOp
  simp [ho, hx, hy, eqGuard, binOp, Op.stringOp]
  intro e
  apply h
  exact ByteArray.ext (Array.toList_inj.1 (by rw [← ByteArray.toList_eq, ← ByteArray.toList_eq]; exact e))
theorem op_str_lss {P : Program} {o : Oper} {l : List (Nat × Value)} {x y : Operand} {t : TypeId} {m : Nat} {a b : ByteArray} {r : Bool} {w : World} (ho : o.op = .binOp .lss t x y m) (hx : lk l x = .string a) (hy : lk l y = .string b) (h : Op.bytesLess a.toList b.toList = r) : (execOp (lk l) o).run P w = .ok (.value (.bool r)) w := by
  subst h
  unfold execOp
  simp [ho, hx, hy, eqGuard, binOp, Op.stringOp]
theorem op_bool_eql {P : Program} {o : Oper} {l : List (Nat × Value)} {x y : Operand} {t : TypeId} {m : Nat} {a b r : Bool} {w : World} (ho : o.op = .binOp .eql t x y m) (hx : lk l x = .bool a) (hu : P.underlying t = some .bool) (hy : lk l y = .bool b) (h : (a == b) = r) : (execOp (lk l) o).run P w = .ok (.value (.bool r)) w := by
  subst h
  unfold execOp
  simp [ho, hx, hy, eqGuard, binOp, Op.equal]
  unfold Op.maxDepth Op.equalIn
  simp only [Sem.run_bind, run_underlying hu, Sem.run_pure, Result.andThen_ok]
  try rfl
theorem op_bool_neq {P : Program} {o : Oper} {l : List (Nat × Value)} {x y : Operand} {t : TypeId} {m : Nat} {a b r : Bool} {w : World} (ho : o.op = .binOp .neq t x y m) (hx : lk l x = .bool a) (hu : P.underlying t = some .bool) (hy : lk l y = .bool b) (h : (a != b) = r) : (execOp (lk l) o).run P w = .ok (.value (.bool r)) w := by
  subst h
  unfold execOp
  simp [ho, hx, hy, eqGuard, binOp, Op.equal]
  unfold Op.maxDepth Op.equalIn
  simp only [Sem.run_bind, run_underlying hu, Sem.run_pure, Result.andThen_ok]
  try rfl
end Go.Proofs.Ytnkeijdpjcclcaa.Kit
-- Walk4
/- Operations that a condition guards, the condition a truth value that is not decided: one walk for all ways. -/
namespace Go.Proofs.Ytnkeijdpjcclcaa.Kit
set_option linter.unusedVariables false
set_option linter.unusedSimpArgs false
open Go.RowKit Go.Proofs.YtnkeijdpjcclcaaW.PrintWords Go.Proofs.YtnkeijdpjcclcaaW.PrintLast Go.Proofs.YtnkeijdpjcclcaaW.PrintMore
/-- A value that is there where a condition holds. -/
def gv (G : Bool) (c : Value) : Value := bif G then c else undef
theorem fvg {G : Bool} {c v : Value} {w : World} (h : (FW.val (gv G c)).p v w) (hG : G = true) : v = c := by
  subst hG
  exact h
theorem gl {A B : Bool} (h : (A && B) = true) : A = true := by cases A <;> simp_all
theorem gr_ {A B : Bool} (h : (A && B) = true) : B = true := by cases A <;> simp_all
theorem gand {A B : Bool} (h : A = true) (k : B = true) : (A && B) = true := by simp [h, k]
theorem gnot {B : Bool} (h : B = false) : (!B) = true := by simp [h]
theorem ungnot {B : Bool} (h : (!B) = true) : B = false := by cases B <;> simp_all
section
variable {o : Oper} {vs : Nat → Value} {g : Nat} {B G : Bool}
theorem wantsT (h : o.guard = some (g, true)) (hv : vs g = .bool B) : Wants o vs = B := by cases B <;> simp [Wants, h, hv]
theorem wantsF (h : o.guard = some (g, false)) (hv : vs g = .bool B) : Wants o vs = !B := by cases B <;> simp [Wants, h, hv]
theorem wantsTg (h : o.guard = some (g, true)) (hv : vs g = gv G (.bool B)) : Wants o vs = (G && B) := by cases G <;> cases B <;> simp [Wants, h, hv, gv, undef]
theorem wantsFg (h : o.guard = some (g, false)) (hv : vs g = gv G (.bool B)) : Wants o vs = (G && !B) := by cases G <;> cases B <;> simp [Wants, h, hv, gv, undef]
end
section
variable {P : Program} {D : List (List Nat)} {L : List Nat} {dsts : List (Option Tmp)} {I J : World → Prop} {a0 : Act} {K : (Nat → Value) → World → Prop} {o : Oper} {r : List Oper} {k : Nat} {Fs : List FW} {G B C : Bool}
theorem w_as {c c' : Value} (h : c = c') (t : Walk P D L dsts I J a0 K r k (FW.val c' :: Fs)) : Walk P D L dsts I J a0 K r k (FW.val c :: Fs) := by
  subst h
  exact t
theorem w_valG (l : List (Nat × Value)) (c : Value) (hw : ∀ vs w, Known Fs k (deps D L Fs k) vs w → Wants o vs = G) (hv : G = true → ∀ vs w, Known Fs k (deps D L Fs k) vs w → Vs (rho (dsts.take k) vs a0) l) (hc : covers o (l.map (·.1)) = true)
    (hrun : G = true → ∀ w, I w → (execOp (lk l) o).run P w = .ok (.value c) w) (t : Walk P D L dsts I J a0 K r (k + 1) (FW.val (gv G c) :: Fs)) : Walk P D L dsts I J a0 K (o :: r) k Fs := by
  cases G
  · exact w_not hw t
  · exact w_val l c (fun vs w hK => ⟨hw vs w hK, hv rfl vs w hK⟩) hc (hrun rfl) t
theorem w_moveG {t : Nat} {c : Value} (ho : o.op = .move (.tmp t) ∨ o.op = .assign (.tmp t)) (hw : ∀ vs w, Known Fs k (deps D L Fs k) vs w → Wants o vs = G) (hv : G = true → ∀ vs w, Known Fs k (deps D L Fs k) vs w → rho (dsts.take k) vs a0 (.tmp t) = c)
    (t : Walk P D L dsts I J a0 K r (k + 1) (FW.val (gv G c) :: Fs)) : Walk P D L dsts I J a0 K (o :: r) k Fs := by
  cases G
  · exact w_not hw t
  · exact w_move ho (fun vs w hK => ⟨hw vs w hK, hv rfl vs w hK⟩) t
theorem w_constG {c : Value} (ho : o.op = .move (.const c) ∨ o.op = .assign (.const c)) (hw : ∀ vs w, Known Fs k (deps D L Fs k) vs w → Wants o vs = G)
    (t : Walk P D L dsts I J a0 K r (k + 1) (FW.val (gv G c) :: Fs)) : Walk P D L dsts I J a0 K (o :: r) k Fs := by
  cases G
  · exact w_not hw t
  · exact w_const ho hw t
theorem w_callG {f : FuncId} {fn : Func} {ags : Array Operand} {ts : Array TypeId} (l : List (Nat × Value)) (args : Array Value) (c : Value) (hL : k ∉ L) (hw : ∀ vs w, Known Fs k (deps D L Fs k) vs w → Wants o vs = G) (hv : G = true → ∀ vs w, Known Fs k (deps D L Fs k) vs w → Vs (rho (dsts.take k) vs a0) l) (hc : covers o (l.map (·.1)) = true)
    (hop : o.op = .call { callee := .value (.func f), args := ags, argTypes := ts }) (hf : P.funcs[f]? = some fn) (hname : (fn.name == "runtime.NumGoroutine") = false) (hb : fn.body.isSome = true)
    (h : G = true → ∀ w, I w → Calls P f args w fun e w' => e = .returned c ∧ Below w.heap.size w w') (hargs : ags.map (lk l) = args) (t : Walk P D L dsts I J a0 K r (k + 1) (FW.val (gv G c) :: Fs)) : Walk P D L dsts I J a0 K (o :: r) k Fs := by
  cases G
  · exact w_not hw t
  · exact w_call l args c hL (fun vs w hK => ⟨hw vs w hK, hv rfl vs w hK⟩) hc hop hf hname hb (h rfl) hargs t
/-- x || y, x && y. -/
theorem w_or {x y : Operand} (ho : o.op = .pick x (.const (.bool true)) y) (hw : ∀ vs w, Known Fs k (deps D L Fs k) vs w → Wants o vs = true) (hx : ∀ vs w, Known Fs k (deps D L Fs k) vs w → rho (dsts.take k) vs a0 x = .bool B) (hy : B = false → ∀ vs w, Known Fs k (deps D L Fs k) vs w → rho (dsts.take k) vs a0 y = .bool C)
    (t : Walk P D L dsts I J a0 K r (k + 1) (FW.val (.bool (B || C)) :: Fs)) : Walk P D L dsts I J a0 K (o :: r) k Fs := by
  cases B
  · exact w_pick (b := false) ho (fun vs w hK => ⟨hw vs w hK, hx vs w hK, hy rfl vs w hK⟩) (by rwa [Bool.false_or] at t)
  · exact w_pick (b := true) ho (fun vs w hK => ⟨hw vs w hK, hx vs w hK, rho_const⟩) t
theorem w_and {x y : Operand} (ho : o.op = .pick x y (.const (.bool false))) (hw : ∀ vs w, Known Fs k (deps D L Fs k) vs w → Wants o vs = true) (hx : ∀ vs w, Known Fs k (deps D L Fs k) vs w → rho (dsts.take k) vs a0 x = .bool B) (hy : B = true → ∀ vs w, Known Fs k (deps D L Fs k) vs w → rho (dsts.take k) vs a0 y = .bool C)
    (t : Walk P D L dsts I J a0 K r (k + 1) (FW.val (.bool (B && C)) :: Fs)) : Walk P D L dsts I J a0 K (o :: r) k Fs := by
  cases B
  · exact w_pick (b := false) ho (fun vs w hK => ⟨hw vs w hK, hx vs w hK, rho_const⟩) t
  · exact w_pick (b := true) ho (fun vs w hK => ⟨hw vs w hK, hx vs w hK, hy rfl vs w hK⟩) (by rwa [Bool.true_and] at t)
theorem w_orG {x y : Operand} (ho : o.op = .pick x (.const (.bool true)) y) (hw : ∀ vs w, Known Fs k (deps D L Fs k) vs w → Wants o vs = G) (hx : G = true → ∀ vs w, Known Fs k (deps D L Fs k) vs w → rho (dsts.take k) vs a0 x = .bool B) (hy : G = true → B = false → ∀ vs w, Known Fs k (deps D L Fs k) vs w → rho (dsts.take k) vs a0 y = .bool C)
    (t : Walk P D L dsts I J a0 K r (k + 1) (FW.val (gv G (.bool (B || C))) :: Fs)) : Walk P D L dsts I J a0 K (o :: r) k Fs := by
  cases G
  · exact w_not hw t
  · exact w_or ho hw (hx rfl) (hy rfl) t
theorem w_andG {x y : Operand} (ho : o.op = .pick x y (.const (.bool false))) (hw : ∀ vs w, Known Fs k (deps D L Fs k) vs w → Wants o vs = G) (hx : G = true → ∀ vs w, Known Fs k (deps D L Fs k) vs w → rho (dsts.take k) vs a0 x = .bool B) (hy : G = true → B = true → ∀ vs w, Known Fs k (deps D L Fs k) vs w → rho (dsts.take k) vs a0 y = .bool C)
    (t : Walk P D L dsts I J a0 K r (k + 1) (FW.val (gv G (.bool (B && C))) :: Fs)) : Walk P D L dsts I J a0 K (o :: r) k Fs := by
  cases G
  · exact w_not hw t
  · exact w_and ho hw (hx rfl) (hy rfl) t
/-- A fact that is told where a condition holds. -/
def FW.imp (G : Bool) (F : FW) : FW := ⟨fun v w => G = true → F.p v w, fun v w w' h hb hG => F.st v w w' (h hG) hb, none, (fun _ h => by cases h), F.fix, fun h v w w' hp hG => F.fx h v w w' (hp hG)⟩
theorem w_anyG (F : FW) (hL : k ∉ L) (hw : ∀ vs w, Known Fs k (deps D L Fs k) vs w → Wants o vs = G) (h : G = true → ∀ vs w, I w → Known Fs k (deps D L Fs k) vs w → Wants o vs = true → Ob P (dsts.take k) o vs a0 w (fun v w' => Below w.heap.size w w' ∧ F.p v w')) (t : Walk P D L dsts I J a0 K r (k + 1) (FW.imp G F :: Fs)) : Walk P D L dsts I J a0 K (o :: r) k Fs := by
  refine w_any (FW.imp G F) hL (fun vs w hI hK => ?_) t
  cases G
  · exact ob_not (hw vs w hK) ⟨Below.refl _ _, fun h => by cases h⟩
  · have h2 := h rfl vs w hI hK (hw vs w hK)
    have e : (fun v w' => Below w.heap.size w w' ∧ (FW.imp true F).p v w') = (fun v w' => Below w.heap.size w w' ∧ F.p v w') := by
      funext v w'
      exact propext ⟨fun q => ⟨q.1, q.2 rfl⟩, fun q => ⟨q.1, fun _ => q.2⟩⟩
    rw [e]
    exact h2
end
/-- A call through a function's value. -/
theorem ob_callv {P : Program} {dsts : List (Option Tmp)} {vs : Nat → Value} {a0 : Act} {o : Oper} {w : World} {R : Value → World → Prop} {f : FuncId} {fn : Func} {g : Operand} {ags : Array Operand} {ts : Array TypeId} {cp : Array Value} (l : List (Nat × Value)) (args : Array Value) (hw : Wants o vs = true) (hv : Vs (rho dsts vs a0) l) (hc : covers o (l.map (·.1)) = true)
    (hop : o.op = .call { callee := .value g, args := ags, argTypes := ts }) (hg : lk l g = .func (.func f) #[] cp) (hf : P.funcs[f]? = some fn) (hname : (fn.name == "runtime.NumGoroutine") = false) (hb : fn.body.isSome = true) (hargs : ags.map (lk l) ++ cp = args)
    (h : Calls P f args w fun e w' => ∃ v, e = .returned v ∧ R v w') : Ob P dsts o vs a0 w R := by
  unfold Ob
  have he := enters_ hf hname hb args w
  have hrun : (execOp (lk l) o).run P w = .ok (.enter f args) w := by
    unfold execOp
    simp [hop, resolve, Deferred.ofValue, invoke, hg, hargs, he]
  rw [if_pos hw, lk_of (fun x hx => rho_else x hx) hv hc, hrun]
  exact h
section
variable {P : Program} {D : List (List Nat)} {L : List Nat} {dsts : List (Option Tmp)} {I J : World → Prop} {a0 : Act} {K : (Nat → Value) → World → Prop} {o : Oper} {r : List Oper} {k : Nat} {Fs : List FW} {G : Bool}
theorem w_callv {f : FuncId} {fn : Func} {g : Operand} {ags : Array Operand} {ts : Array TypeId} {cp : Array Value} (l : List (Nat × Value)) (args : Array Value) (c : Value) (hL : k ∉ L) (hv : ∀ vs w, Known Fs k (deps D L Fs k) vs w → Wants o vs = true ∧ Vs (rho (dsts.take k) vs a0) l) (hc : covers o (l.map (·.1)) = true)
    (hop : o.op = .call { callee := .value g, args := ags, argTypes := ts }) (hg : lk l g = .func (.func f) #[] cp) (hf : P.funcs[f]? = some fn) (hname : (fn.name == "runtime.NumGoroutine") = false) (hb : fn.body.isSome = true)
    (h : ∀ w, I w → Calls P f args w fun e w' => e = .returned c ∧ Below w.heap.size w w') (hargs : ags.map (lk l) ++ cp = args) (t : Walk P D L dsts I J a0 K r (k + 1) (FW.val c :: Fs)) : Walk P D L dsts I J a0 K (o :: r) k Fs :=
  ⟨_, fun vs w hbl _ _ hK => ob_callv l args (hv vs w hK).1 (hv vs w hK).2 hc hop hg hf hname hb hargs ((h w hbl).mono fun e w' ⟨he, hw⟩ => ⟨c, he, fun h => absurd h hL, fun _ => hw, rfl⟩), t⟩
theorem w_callvG {f : FuncId} {fn : Func} {g : Operand} {ags : Array Operand} {ts : Array TypeId} {cp : Array Value} (l : List (Nat × Value)) (args : Array Value) (c : Value) (hL : k ∉ L) (hw : ∀ vs w, Known Fs k (deps D L Fs k) vs w → Wants o vs = G) (hv : G = true → ∀ vs w, Known Fs k (deps D L Fs k) vs w → Vs (rho (dsts.take k) vs a0) l) (hc : covers o (l.map (·.1)) = true)
    (hop : o.op = .call { callee := .value g, args := ags, argTypes := ts }) (hg : lk l g = .func (.func f) #[] cp) (hf : P.funcs[f]? = some fn) (hname : (fn.name == "runtime.NumGoroutine") = false) (hb : fn.body.isSome = true)
    (h : G = true → ∀ w, I w → Calls P f args w fun e w' => e = .returned c ∧ Below w.heap.size w w') (hargs : ags.map (lk l) ++ cp = args) (t : Walk P D L dsts I J a0 K r (k + 1) (FW.val (gv G c) :: Fs)) : Walk P D L dsts I J a0 K (o :: r) k Fs := by
  cases G
  · exact w_not hw t
  · exact w_callv l args c hL (fun vs w hK => ⟨hw vs w hK, hv rfl vs w hK⟩) hc hop hg hf hname hb (h rfl) hargs t
end
theorem margs0 {ags : Array Operand} {l : List (Nat × Value)} {args : Array Value} (h : ags.toList.map (lk l) = args.toList) : ags.map (lk l) ++ #[] = args := by
  rw [Array.append_empty]
  exact margs h
theorem margsC {ags : Array Operand} {l : List (Nat × Value)} {args cp : Array Value} (h : ags.toList.map (lk l) ++ cp.toList = args.toList) : ags.map (lk l) ++ cp = args := by
  rw [← Array.toList_inj, Array.toList_append, Array.toList_map]
  exact h
/-- The facts that are kept; the others are forgotten. -/
def maskF : List Bool → List FW → List FW
  | true :: bs, F :: Fs => F :: maskF bs Fs
  | false :: bs, _ :: Fs => FW.any :: maskF bs Fs
  | [], Fs => Fs
  | _ :: _, [] => []
theorem maskF_length : ∀ (bs : List Bool) (Fs : List FW), (maskF bs Fs).length = Fs.length
  | [], _ => rfl
  | true :: bs, [] => rfl
  | false :: bs, [] => rfl
  | true :: bs, F :: Fs => by simp [maskF, maskF_length bs Fs]
  | false :: bs, F :: Fs => by simp [maskF, maskF_length bs Fs]
theorem maskF_getD : ∀ (bs : List Bool) (Fs : List FW) (j : Nat), (maskF bs Fs).getD j FW.any = Fs.getD j FW.any ∨ (maskF bs Fs).getD j FW.any = FW.any
  | [], _, _ => .inl rfl
  | true :: bs, [], _ => .inl rfl
  | false :: bs, [], _ => .inl rfl
  | true :: bs, F :: Fs, 0 => .inl rfl
  | false :: bs, F :: Fs, 0 => .inr rfl
  | true :: bs, F :: Fs, j + 1 => maskF_getD bs Fs j
  | false :: bs, F :: Fs, j + 1 => maskF_getD bs Fs j
section
variable {P : Program} {D : List (List Nat)} {L : List Nat} {dsts : List (Option Tmp)} {I J : World → Prop} {a0 : Act} {Fs : List FW} {k : Nat}
/-- The end; of the values that are not kept nothing is said. -/
theorem w_endM (bs : List Bool) {Q : Act → World → Prop} (hl : dsts.length = Fs.length) (hk : Fs.length = k) (hd0 : endB D L Fs k = true) (h : ∀ vs w, I w → (∀ j, j < k → useE D L (Fs.getD (k - 1 - j) FW.any).fix j k = true → (Fs.getD (k - 1 - j) FW.any).p (vs j) w) → Q (finL dsts (maskF bs Fs.reverse) 0 vs a0) w) : Walk P D L dsts I J a0 (fun vs w => Q (putL dsts 0 vs a0) w) [] k Fs := fun vs w hb hf => by
  have hd := endB_spec hd0
  show Q (putL dsts 0 vs a0) w
  rw [finL_eq vs w dsts (maskF bs Fs.reverse) 0 a0 (by rw [maskF_length]; simp [hl]) (fun j hj => by
    rw [maskF_length] at hj
    rcases maskF_getD bs Fs.reverse j with e | e
    · rw [e, Nat.zero_add]
      have hj' : j < Fs.length := by simpa using hj
      have h1 := hd j (by omega)
      have h2 := hf j (by omega)
      rw [List.getD_eq_getElem?_getD, List.getElem?_reverse hj']
      rw [List.getD_eq_getElem?_getD] at h1 h2
      rw [hk]
      exact h1.imp id h2
    · rw [e]
      exact .inl rfl)]
  exact h vs w hb hf
end
theorem finL_imp {d : Option Tmp} {r : List (Option Tmp)} {Fs : List FW} {n : Nat} {vs : Nat → Value} {a : Act} {G : Bool} {F : FW} : finL (d :: r) (FW.imp G F :: Fs) n vs a = finL r Fs (n + 1) vs (a.put d (vs n)) := rfl
section
variable {P : Program} {o : Oper} {l : List (Nat × Value)} {x y : Operand} {t : TypeId} {m : Nat} {a b : ByteArray} {r : Bool} {w : World}
theorem op_str_eq (ho : o.op = .binOp .eql t x y m) (hx : lk l x = .string a) (hy : lk l y = .string b) (h : decide (a = b) = r) : (execOp (lk l) o).run P w = .ok (.value (.bool r)) w := by
  by_cases e : a = b
  · rw [decide_eq_true e] at h
    subst h
    exact run_eql_same ho hx hy e
  · rw [decide_eq_false e] at h
    subst h
    exact op_str_ne ho hx hy e
theorem op_str_nq (ho : o.op = .binOp .neq t x y m) (hx : lk l x = .string a) (hy : lk l y = .string b) (h : (!decide (a = b)) = r) : (execOp (lk l) o).run P w = .ok (.value (.bool r)) w := by
  by_cases e : a = b
  · rw [decide_eq_true e] at h
    subst h
    exact run_neq_same ho hx hy e
  · rw [decide_eq_false e] at h
    subst h
    exact op_str_neq ho hx hy e
theorem op_not {b : Bool} (ho : o.op = .unOp .not t x) (hx : lk l x = .bool b) (h : (!b) = r) : (execOp (lk l) o).run P w = .ok (.value (.bool r)) w := by
  subst h
  unfold execOp
  simp [ho, hx, Op.unary]
end
end Go.Proofs.Ytnkeijdpjcclcaa.Kit
-- Str
/- Texts made of bytes: conversions, comparisons. -/
namespace Go.Proofs.Ytnkeijdpjcclcaa.Kit
set_option linter.unusedVariables false
open Go.RowKit Go.Proofs.YtnkeijdpjcclcaaW.PrintWords Go.Proofs.YtnkeijdpjcclcaaW.PrintLast Go.Proofs.YtnkeijdpjcclcaaW.PrintMore

theorem conv_own {P : Program} {t e dst : TypeId} {bytes : Nat} {z : Value} (T : SlTy P t e z bytes) (he : P.underlying e = some (.int .u8)) (hd : P.underlying dst = some .string) {w : World} {B : Nat} {v : Value} {xs : List Int} (h : Own .u8 e w B v xs) :
    (convert t dst v).run P w = .ok (.string (strOfNums xs)) w := own_string T.und he hd (Kd.own_of_R h)
theorem conv_rds {P : Program} {t e dst : TypeId} {bytes : Nat} {z : Value} (T : SlTy P t e z bytes) (he : P.underlying e = some (.int .u8)) (hd : P.underlying dst = some .string) {w : World} {A : Option Addr} {n c : Nat} {xs : List Int} (h : Rds .u8 w A n xs) :
    (convert t dst (.slice A n c)).run P w = .ok (.string (strOfNums xs)) w := by
  have hl := rds_len h
  subst hl
  exact Kd.C_string T.und he hd h
theorem str_list (xs : List Int) : (strOfNums xs).toList = xs.map fun n => UInt8.ofNat n.toNat := by rw [ByteArray.toList_eq]; rfl
theorem u8_inj {a b : Int} (ha : 0 ≤ a ∧ a < 256) (hb : 0 ≤ b ∧ b < 256) (h : UInt8.ofNat a.toNat = UInt8.ofNat b.toNat) : a = b := by
  have := congrArg UInt8.toNat h
  simp only [UInt8.toNat_ofNat'] at this
  omega
theorem str_inj {xs ys : List Int} (hx : ∀ x ∈ xs, 0 ≤ x ∧ x < 256) (hy : ∀ x ∈ ys, 0 ≤ x ∧ x < 256) (h : (strOfNums xs).toList = (strOfNums ys).toList) : xs = ys := by
  rw [str_list, str_list] at h
  induction xs generalizing ys with
  | nil => cases ys with
    | nil => rfl
    | cons _ _ => simp at h
  | cons x xs ih => cases ys with
    | nil => simp at h
    | cons y ys =>
      simp only [List.map_cons, List.cons.injEq] at h
      rw [u8_inj (hx x (by simp)) (hy y (by simp)) h.1, ih (fun z hz => hx z (by simp [hz])) (fun z hz => hy z (by simp [hz])) h.2]
theorem str_append (xs ys : List Int) : strOfNums (xs ++ ys) = strOfNums xs ++ strOfNums ys := by
  apply ByteArray.ext
  simp [strOfNums, ByteArray.data_append]
end Go.Proofs.Ytnkeijdpjcclcaa.Kit
-- Str2
/- Texts as rows of numbers: one byte, a cut, the least of two; the order of texts. In regions. -/
namespace Go.Proofs.Ytnkeijdpjcclcaa.Kit
set_option linter.unusedVariables false
set_option linter.unusedSimpArgs false
open Go.RowKit Go.Proofs.YtnkeijdpjcclcaaW.PrintWords Go.Proofs.YtnkeijdpjcclcaaW.PrintLast Go.Proofs.YtnkeijdpjcclcaaW.PrintMore
theorem numsOf_data (s : ByteArray) : numsOf s = s.data.toList.map fun b => (b.toNat : Int) := by rw [numsOf, ByteArray.toList_eq]
theorem numsOf_extract (s : ByteArray) (a b : Nat) : numsOf (s.extract a b) = ((numsOf s).drop a).take (b - a) := by
  rw [numsOf_data, numsOf_data, Lib.extract_data, List.map_take, List.map_drop]
theorem numsOf_append (s t : ByteArray) : numsOf (s ++ t) = numsOf s ++ numsOf t := by
  rw [numsOf_data, numsOf_data, numsOf_data, ByteArray.data_append, Array.toList_append, List.map_append]
theorem numsOf_inj {a b : ByteArray} (h : numsOf a = numsOf b) : a = b := by rw [← strOfNums_numsOf a, h, strOfNums_numsOf]
theorem numsOf_eq {a b : ByteArray} : a = b ↔ numsOf a = numsOf b := ⟨fun h => by rw [h], numsOf_inj⟩
theorem numsOf_empty : numsOf ⟨#[]⟩ = [] := by rw [numsOf_data]; rfl
theorem strOf_size (xs : List Int) : (strOfNums xs).size = xs.length := by simp [strOfNums, ByteArray.size]
theorem at_str (s : ByteArray) (i : Nat) (h : i < s.size) : (((s[i]'h).toNat : Nat) : Int) = (numsOf s).getD i 0 := by
  have hl : i < s.data.toList.length := by rw [Array.length_toList]; exact h
  rw [numsOf_data, List.getD_eq_getElem?_getD, List.getElem?_map, List.getElem?_eq_getElem hl]
  simp only [Option.map_some, Option.getD_some, Array.getElem_toList]
  rfl
section
variable {P : Program} {o : Oper} {l : List (Nat × Value)} {x y z : Operand} {t : TypeId} {s : ByteArray} {w : World}
theorem op_index_str {k : IntKind} {j c : Int} {i : Nat} (ho : o.op = .index t x y) (ht : P.underlying t = some .string) (hx : lk l x = .string s) (hy : lk l y = .int k j) (hj : j = (i : Int)) (hi : i < s.size) (hc : (numsOf s).getD i 0 = c) :
    (execOp (lk l) o).run P w = .ok (.value (.int .u8 c)) w := by
  subst hj hc
  unfold execOp
  have h0 : (0 : Int) ≤ (i : Int) ∧ (i : Int) < (s.size : Int) := by omega
  have h1 := at_str s i hi
  simp only [ho, hx, hy, Sem.run_bind, run_index_string w t s k (i : Int) ht, dif_pos h0, Result.andThen_ok, Sem.run_pure]
  simp only [Int.toNat_natCast]
  rw [h1]
theorem op_cut_mid {k1 k2 : IntKind} {j1 j2 : Int} {a b : Nat} {c : ByteArray} (ho : o.op = .slice t x (some y) (some z) none) (ht : P.underlying t = some .string) (hx : lk l x = .string s) (hy : lk l y = .int k1 j1) (hz : lk l z = .int k2 j2) (h1 : j1 = (a : Int)) (h2 : j2 = (b : Int)) (hab : a ≤ b) (hb : b ≤ s.size) (hc : s.extract a b = c) :
    (execOp (lk l) o).run P w = .ok (.value (.string c)) w := by
  subst h1 h2 hc
  unfold execOp
  simp only [ho, hx, hy, hz, Option.map_some, Option.map_none, Sem.run_bind, run_sliceAt_string _ _ _ _ _ _ ht, run_slice_string w t s k1 k2 (a : Int) (b : Int) ht (by omega) (by omega) (by omega), Result.andThen_ok, Sem.run_pure, Int.toNat_natCast]
theorem op_cut_from {k1 : IntKind} {j1 : Int} {a : Nat} {c : ByteArray} (ho : o.op = .slice t x (some y) none none) (ht : P.underlying t = some .string) (hx : lk l x = .string s) (hy : lk l y = .int k1 j1) (h1 : j1 = (a : Int)) (ha : a ≤ s.size) (hc : s.extract a s.size = c) :
    (execOp (lk l) o).run P w = .ok (.value (.string c)) w := by
  subst h1 hc
  unfold execOp
  simp only [ho, hx, hy, Option.map_some, Option.map_none, Sem.run_bind, run_sliceAt_string _ _ _ _ _ _ ht, run_slice_string_l w t s ht k1 (a : Int) (by omega) (by omega), Result.andThen_ok, Sem.run_pure, Int.toNat_natCast]
theorem op_cut_to {k1 : IntKind} {j1 : Int} {b : Nat} {c : ByteArray} (ho : o.op = .slice t x none (some y) none) (ht : P.underlying t = some .string) (hx : lk l x = .string s) (hy : lk l y = .int k1 j1) (h1 : j1 = (b : Int)) (hb : b ≤ s.size) (hc : s.extract 0 b = c) :
    (execOp (lk l) o).run P w = .ok (.value (.string c)) w := by
  subst h1 hc
  unfold execOp
  simp only [ho, hx, hy, Option.map_some, Option.map_none, Sem.run_bind, run_sliceAt_string _ _ _ _ _ _ ht, run_slice_string_h w t s ht k1 (b : Int) (by omega) (by omega), Result.andThen_ok, Sem.run_pure, Int.toNat_natCast]
theorem op_min2 {ts : Array TypeId} {a b c : Int} (ho : o.op = .call { callee := .builtin .min, args := #[x, y], argTypes := ts }) (hx : lk l x = .int .i64 a) (hy : lk l y = .int .i64 b) (hc : mn a b = c) :
    (execOp (lk l) o).run P w = .ok (.value (.int .i64 c)) w := by
  subst hc
  unfold execOp
  simp [ho, resolve, invoke, builtin, hx, hy, run_min2, Result.andThen]
theorem op_max2 {ts : Array TypeId} {a b c : Int} (ho : o.op = .call { callee := .builtin .max, args := #[x, y], argTypes := ts }) (hx : lk l x = .int .i64 a) (hy : lk l y = .int .i64 b) (hc : mx a b = c) :
    (execOp (lk l) o).run P w = .ok (.value (.int .i64 c)) w := by
  subst hc
  unfold execOp
  simp [ho, resolve, invoke, builtin, hx, hy, run_max2, Result.andThen]
end
/-- The order of rows of bytes. -/
def ltN : List Int → List Int → Bool
  | [], [] => false
  | [], _ :: _ => true
  | _ :: _, [] => false
  | a :: r, b :: s => if a < b then true else if a = b then ltN r s else false
theorem ltN_map : ∀ a b : List UInt8, ltN (a.map fun x => (x.toNat : Int)) (b.map fun x => (x.toNat : Int)) = Op.bytesLess a b
  | [], [] => rfl
  | [], _ :: _ => rfl
  | _ :: _, [] => rfl
  | x :: a, y :: b => by
    have ih := ltN_map a b
    simp only [List.map_cons, ltN, Op.bytesLess, ih]
    by_cases h1 : x < y
    · have h2 : (x.toNat : Int) < (y.toNat : Int) := by have := UInt8.lt_iff_toNat_lt.1 h1; omega
      simp [h1, h2]
    · have h2 : ¬ (x.toNat : Int) < (y.toNat : Int) := by
        have : ¬ x.toNat < y.toNat := fun h => h1 (UInt8.lt_iff_toNat_lt.2 h)
        omega
      by_cases h3 : x = y
      · subst h3
        simp [h1]
      · have h4 : ¬ (x.toNat : Int) = (y.toNat : Int) := fun h => h3 (UInt8.toNat_inj.1 (by omega))
        simp [h1, h2, h3, h4]
theorem less_nums (a b : ByteArray) : Op.bytesLess a.toList b.toList = ltN (numsOf a) (numsOf b) := by rw [numsOf, numsOf, ltN_map]
theorem ltN_pre (p : List Int) (a b : List Int) : ltN (p ++ a) (p ++ b) = ltN a b := by
  induction p with
  | nil => rfl
  | cons c p ih => simp [ltN, ih]
theorem ltN_self (a : List Int) : ltN a a = false := by
  induction a with
  | nil => rfl
  | cons c p ih => simp [ltN, ih]
end Go.Proofs.Ytnkeijdpjcclcaa.Kit
-- Box
/- Structs in a variable of the call's own: stored whole, loaded whole, handed back. -/
namespace Go.Proofs.Ytnkeijdpjcclcaa.Kit
set_option linter.unusedVariables false
set_option linter.unusedSimpArgs false
open Go.RowKit Go.Proofs.YtnkeijdpjcclcaaW.PrintWords Go.Proofs.YtnkeijdpjcclcaaW.PrintLast Go.Proofs.YtnkeijdpjcclcaaW.PrintMore
/-- One block is written anew; nothing else is turned. -/
structure Set1 (w : World) (g : Nat) (o : Obj) (w' : World) : Prop where
  at_ : w'.heap[g]? = some o
  other : ∀ j, j ≠ g → w'.heap[j]? = w.heap[j]?
  size : w'.heap.size = w.heap.size
  os : w'.os = w.os
  tape : w'.tape = w.tape
  output : w'.output = w.output
theorem Set1.below {w w' : World} {g : Nat} {o : Obj} (h : Set1 w g o w') {B : Nat} (hB : B ≤ g) : Below B w w' :=
  ⟨h.os, h.tape, h.output, by rw [h.size]; exact Nat.le_refl _, fun k hk => h.other k (by omega)⟩
/-- What was turned since a world stays so where a block of since then is written. -/
theorem Set1.then_ {w0 w w' : World} {g : Nat} {o : Obj} (h : Set1 w g o w') (hb : Below w0.heap.size w0 w) (hB : w0.heap.size ≤ g) : Below w0.heap.size w0 w' :=
  ⟨h.os.trans hb.os, h.tape.trans hb.tape, h.output.trans hb.output, by rw [h.size]; exact hb.size, fun k hk => (h.other k (by omega)).trans (hb.block k hk)⟩
theorem Set1.keep {w w' : World} {g j : Nat} {o p : Obj} (h : Set1 w g o w') (hj : w.heap[j]? = some p) (hne : j ≠ g) : w'.heap[j]? = some p := (h.other j hne).trans hj
theorem Set1.gr {k : IntKind} {e : TypeId} {w w' : World} {g B : Nat} {o : Obj} {v : Value} {xs : List Int} (h : Set1 w g o w') (hv : Gr k e w B v xs) (hne : v.ownBlock ≠ some g) : Gr k e w' B v xs :=
  gr_move hv fun j hj => h.other j (fun e => hne (by rw [← e]; exact hj))
theorem set1_row {w : World} {g : Nat} {old cs : Array Value} {t : TypeId} {fr : Nat × Nat} (hg : w.heap[g]? = some (.cells old t fr)) : Set1 w g (.cells cs t fr) (w.setRow g cs) := by
  refine ⟨setRow_heap w g old cs t fr hg, fun j hj => ?_, by simp [World.setRow], rfl, rfl, rfl⟩
  simp only [World.setRow]
  rw [Array.getElem?_modify, if_neg (fun e => hj e.symm)]
section
variable {P : Program} {ops : Array Oper} {rest : List Oper} {op : Oper} {a : Act} {w : World} {Q : Exit → Act → World → Prop}
theorem wpList_store_box (hgd : op.guard = none) (ty : TypeId) (x y : Operand) (ho : op.op = .store ty x y) (g : Nat) (cs : List Value) (hx : a.eval x = .pointer (some ⟨g, 0, none⟩)) (hy : a.eval y = .agg cs.toArray)
    {old : List Value} {t : TypeId} (hg : w.heap[g]? = some (.cells old.toArray t (0, 0))) (hl : old.length = cs.length) (hi : (P.info? ty).map (·.size) = some cs.length) (h1 : cs.all (·.oneCell') = true)
    (h : ∀ w', Set1 w g (.cells cs.toArray t (0, 0)) w' → wpList P ops Q rest (a.put op.dst undef) w') : wpList P ops Q (op :: rest) a w := by
  refine wpList_plain hgd fun _ hK => ?_
  refine wp_store_row (P := P) ty x y ho g cs.toArray hx hy t old.toArray hg (by simpa using hi) (by simpa using hl) (by simpa using h1) ?_
  exact hK _ _ (h _ (set1_row hg))
theorem wpList_load_box (hgd : op.guard = none) (ty : TypeId) (x : Operand) (ho : op.op = .load ty x) (g : Nat) (cs : List Value) (hx : a.eval x = .pointer (some ⟨g, 0, none⟩)) {t : TypeId} {fr : Nat × Nat} {d : TypeDesc}
    (hg : w.heap[g]? = some (.cells cs.toArray t fr)) (hu : P.underlying ty = some d) (hd : d.isRow = true) (hi : (P.info? ty).map (·.size) = some cs.length)
    (h : wpList P ops Q rest (a.put op.dst (.agg cs.toArray)) w) : wpList P ops Q (op :: rest) a w :=
  wpList_load_mid hgd ty x ho g 0 hx cs d (range_block hg) hu hd hi h
end
theorem storeVar_cell {P : Program} (ty : TypeId) (hi : (P.info? ty).map (·.size) = some 1) (a : Addr) (v o : Value) (hv : v.oneCell' = true) (w : World) (hc : w.cell? a = some o) (hf : w.frozen? a = false) : (storeVar ty a v).run P w = .ok () (w.setCell a v) := by
  cases hq : P.info? ty with
  | none => simp [hq] at hi
  | some i =>
    have hs : i.size = 1 := by simp [hq] at hi; exact hi
    have hcv : v.cells = #[v] := by cases v <;> simp_all [Value.oneCell', Value.cells]
    have h0 : a.add 0 = a := by simp [Addr.add]
    have hst : (store (a.add 0) v).run P w = .ok () (w.setCell a v) := by
      rw [h0, run_store P w a v _ hv, hc]
      simp [hf]
    simp [storeVar, sizeOf, typeInfo, hq, hcv, hs, storeCells, hst]
section
variable {P : Program} {ops : Array Oper} {rest : List Oper} {op : Oper} {a : Act} {w : World} {Q : Exit → Act → World → Prop}
theorem wpList_store_cell (hgd : op.guard = none) (ty : TypeId) (x y : Operand) (ho : op.op = .store ty x y) (g i : Nat) (v : Value) (hx : a.eval x = .pointer (some ⟨g, i, none⟩)) (hy : a.eval y = v) (hv : v.oneCell' = true)
    {old : List Value} {t : TypeId} (hg : w.heap[g]? = some (.cells old.toArray t (0, 0))) (hl : i < old.length) (hi : (P.info? ty).map (·.size) = some 1)
    (h : ∀ w', Set1 w g (.cells (old.set i v).toArray t (0, 0)) w' → wpList P ops Q rest (a.put op.dst undef) w') : wpList P ops Q (op :: rest) a w := by
  refine wpList_plain hgd fun K hK => ?_
  have hc : w.cell? ⟨g, i, none⟩ = some old[i] := by simp [World.cell?, hg, hl]
  have hf : w.frozen? ⟨g, i, none⟩ = false := by simp [World.frozen?, hg]
  have hst := storeVar_cell (P := P) ty hi ⟨g, i, none⟩ v _ hv w hc hf
  have hs1 : Set1 w g (.cells (old.set i v).toArray t (0, 0)) (w.setCell ⟨g, i, none⟩ v) := by
    rw [setCell_eq_setRow w g i old.toArray t (0, 0) v hg, show old.toArray.setIfInBounds i v = (old.set i v).toArray by simp]
    exact set1_row hg
  unfold Oper.wp execOp
  simp only [ho, hx, hy, Instr.storeAt, Instr.sureAddr, Sem.run_bind, Sem.run_pure, Result.andThen_ok, hst]
  exact hK _ _ (h _ hs1)
end
theorem loadVar_box {P : Program} {w : World} {g : Nat} {t ty : TypeId} {cs : List Value} {fr : Nat × Nat} {d : TypeDesc} (h : w.heap[g]? = some (.cells cs.toArray t fr)) (hu : P.underlying ty = some d) (hd : d.isRow = true) (hi : (P.info? ty).map (·.size) = some cs.length) :
    (loadVar ty ⟨g, 0, none⟩).run P w = .ok (.agg cs.toArray) w := run_loadVar_mid w g 0 ty cs d (range_block h) hu hd hi
theorem results_box {P : Program} {fn : Func} {p : Tmp} {ty : TypeId} {tmps : Array Value} {w : World} {g : Nat} {v : Value} (h : fn.results = #[.cell p ty]) (hp : tmps.getD p undef = .pointer (some ⟨g, 0, none⟩)) (hl : (loadVar ty ⟨g, 0, none⟩).run P w = .ok v w) :
    (results fn tmps).run P w = .ok v w := by
  have hp' : tmps[p]?.getD undef = .pointer (some ⟨g, 0, none⟩) := by simpa using hp
  simp only [results, h]
  simp [Sem.run_bind, Result.andThen, hp', asAddr, hl]
theorem results_box_tmp {P : Program} {fn : Func} {p u : Tmp} {ty : TypeId} {tmps : Array Value} {w : World} {g : Nat} {v : Value} (h : fn.results = #[.cell p ty, .tmp u]) (hp : tmps.getD p undef = .pointer (some ⟨g, 0, none⟩)) (hl : (loadVar ty ⟨g, 0, none⟩).run P w = .ok v w) :
    (results fn tmps).run P w = .ok (.tuple #[v, tmps.getD u undef]) w := by
  rw [results_cell_tmp h, hp]
  simp [asAddr, hl, Result.andThen]
theorem results_box_tmp2 {P : Program} {fn : Func} {p u u2 : Tmp} {ty : TypeId} {tmps : Array Value} {w : World} {g : Nat} {v : Value} (h : fn.results = #[.cell p ty, .tmp u, .tmp u2]) (hp : tmps.getD p undef = .pointer (some ⟨g, 0, none⟩)) (hl : (loadVar ty ⟨g, 0, none⟩).run P w = .ok v w) :
    (results fn tmps).run P w = .ok (.tuple #[v, tmps.getD u undef, tmps.getD u2 undef]) w := by
  have hp' : tmps[p]?.getD undef = .pointer (some ⟨g, 0, none⟩) := by simpa using hp
  simp only [results, h]
  simp [Sem.run_bind, Result.andThen, hp', asAddr, hl]
theorem results_box2_tmp {P : Program} {fn : Func} {p p2 u : Tmp} {ty ty2 : TypeId} {tmps : Array Value} {w : World} {g g2 : Nat} {v v2 : Value} (h : fn.results = #[.cell p ty, .cell p2 ty2, .tmp u]) (hp : tmps.getD p undef = .pointer (some ⟨g, 0, none⟩)) (hl : (loadVar ty ⟨g, 0, none⟩).run P w = .ok v w)
    (hp2 : tmps.getD p2 undef = .pointer (some ⟨g2, 0, none⟩)) (hl2 : (loadVar ty2 ⟨g2, 0, none⟩).run P w = .ok v2 w) :
    (results fn tmps).run P w = .ok (.tuple #[v, v2, tmps.getD u undef]) w := by
  have hp' : tmps[p]?.getD undef = .pointer (some ⟨g, 0, none⟩) := by simpa using hp
  have hp2' : tmps[p2]?.getD undef = .pointer (some ⟨g2, 0, none⟩) := by simpa using hp2
  simp only [results, h]
  simp [Sem.run_bind, Result.andThen, hp', asAddr, hl, hp2', hl2]
end Go.Proofs.Ytnkeijdpjcclcaa.Kit
-- Ops
/- More operations in regions: numbers multiplied, shifted, cut, turned to another kind; a literal of bytes; its text. -/
namespace Go.Proofs.Ytnkeijdpjcclcaa.Kit
set_option linter.unusedVariables false
set_option linter.unusedSimpArgs false
open Go.RowKit Go.Proofs.YtnkeijdpjcclcaaW.PrintWords Go.Proofs.YtnkeijdpjcclcaaW.PrintLast Go.Proofs.YtnkeijdpjcclcaaW.PrintMore
section
variable {P : Program} {o : Oper} {l : List (Nat × Value)} {x y : Operand} {t t2 : TypeId} {m : Nat} {k k2 : IntKind} {a b c : Int} {w : World}
theorem op_mul (ho : o.op = .binOp .mul t x y m) (hx : lk l x = .int k a) (hy : lk l y = .int k b) (h : k.wrap (a * b) = c) : (execOp (lk l) o).run P w = .ok (.value (.int k c)) w := by
  subst h
  unfold execOp
  simp [ho, hx, hy, eqGuard, binOp, Op.intArith]
theorem op_rem (ho : o.op = .binOp .rem t x y m) (hx : lk l x = .int k a) (hy : lk l y = .int k b) (hb : b ≠ 0) (h : Int.tmod a b = c) : (execOp (lk l) o).run P w = .ok (.value (.int k c)) w := by
  subst h
  unfold execOp
  simp [ho, hx, hy, eqGuard, binOp, Op.intArith, Op.intDiv, hb]
theorem op_quo (ho : o.op = .binOp .quo t x y m) (hx : lk l x = .int k a) (hy : lk l y = .int k b) (hb : b ≠ 0) (h : k.wrap (Int.tdiv a b) = c) : (execOp (lk l) o).run P w = .ok (.value (.int k c)) w := by
  subst h
  unfold execOp
  simp [ho, hx, hy, eqGuard, binOp, Op.intArith, Op.intDiv, hb]
theorem op_shr (ho : o.op = .binOp .shr t x y m) (hx : lk l x = .int k a) (hy : lk l y = .int k2 b) (hb : 0 ≤ b) (h : a / 2 ^ min b.toNat k.bits = c) : (execOp (lk l) o).run P w = .ok (.value (.int k c)) w := by
  subst h
  unfold execOp
  simp [ho, hx, hy, eqGuard, binOp, shift_shr_any k k2 a b hb]
theorem op_shl (ho : o.op = .binOp .shl t x y m) (hx : lk l x = .int k a) (hy : lk l y = .int k2 b) (hb : 0 ≤ b) (h : k.wrap (a * 2 ^ min b.toNat k.bits) = c) : (execOp (lk l) o).run P w = .ok (.value (.int k c)) w := by
  subst h
  unfold execOp
  simp [ho, hx, hy, eqGuard, binOp, shift_shl_any k k2 a b hb]
theorem op_and (ho : o.op = .binOp .and t x y m) (hx : lk l x = .int k a) (hy : lk l y = .int k b) (h : Go.bits .and k a b = c) : (execOp (lk l) o).run P w = .ok (.value (.int k c)) w := by
  subst h
  unfold execOp
  have e : Op.intBits .and k a b = pure (.int k (Go.bits .and k a b)) := rfl
  simp [ho, hx, hy, eqGuard, binOp, Op.intArith, e]
theorem op_conv_int (ho : o.op = .convert t t2 x) (hs : P.underlying t = some (.int k)) (hd : P.underlying t2 = some (.int k2)) (hx : lk l x = .int k a) (h : k2.wrap a = c) : (execOp (lk l) o).run P w = .ok (.value (.int k2 c)) w := by
  subst h
  refine run_conv_op ho hx ?_
  unfold convert
  simp [run_underlying hs, run_underlying hd, Conv.intToInt]
end
section
variable {P : Program} {D : List (List Nat)} {L : List Nat} {dsts : List (Option Tmp)} {I J : World → Prop} {a0 : Act} {K : (Nat → Value) → World → Prop} {o : Oper} {r : List Oper} {k : Nat} {Fs : List FW} {t e : TypeId} {n bytes : Nat} {z : Int}
/-- []byte{..}: its bytes, as a row. -/
theorem w_lit (hL : k ∉ L) (l : List (Nat × Value)) (kd : IntKind) (cs : List Int) (ps : Array (Nat × Operand)) (T : SlTy P t e (.int kd z) bytes) (hv : ∀ vs w, Known Fs k (deps D L Fs k) vs w → Wants o vs = true ∧ Vs (rho (dsts.take k) vs a0) l) (hc : covers o (l.map (·.1)) = true)
    (ho : o.op = .buildSlice t n ps) (hn : cs.length = n) (hp : 0 < n) (h24 : n ≤ 16777216)
    (hps : (ps.toList.map fun p => (p.1, lk l p.2)) = (((cs.map (Value.int kd)).zipIdx 0).map fun x => (x.2, x.1)))
    (tl : Walk P D L dsts I J a0 K r (k + 1) (FW.row kd cs :: Fs)) : Walk P D L dsts I J a0 K (o :: r) k Fs := by
  refine w_any (FW.row kd cs) hL (fun vs w hI hK => ?_) tl
  obtain ⟨ie, hie, hz, hs, _⟩ := info_of T
  have hrun : (execOp (lk l) o).run P w = .ok (.value (.slice (some ⟨w.heap.size, 0, none⟩) n n)) (w.alloc (.cells (nums kd cs).toArray e)) := by
    unfold execOp
    simp only [ho, Sem.run_bind]
    have hpe : (ps.map fun (x : Nat × Operand) => (x.1, lk l x.2)).toList = (((cs.map (Value.int kd)).zipIdx 0).map fun x => (x.2, x.1)) := by rw [Array.toList_map]; exact hps
    have hfl : Instr.fill (fun i => some (i * 1, 1)) ((Array.range (n * 1)).map ((Value.int kd z).cells[· % (Value.int kd z).cells.size]!)) (ps.map fun (x : Nat × Operand) => (x.1, lk l x.2)).toList = some (nums kd cs).toArray := by
      rw [hpe]
      exact Great.fill_flat _ _ (fun v hv => by obtain ⟨n, _, rfl⟩ := List.mem_map.1 hv; rfl) (by simp [hn])
    rw [run_buildSlice w t e n _ (nums kd cs).toArray ie (.int kd z) T.und hie hz (by rw [hs]; omega) (by rw [hs]; omega) (by rw [hs]; exact hfl)]
    rfl
  refine ob_run l (hv vs w hK).1 (hv vs w hK).2 hc hrun ⟨below_alloc (Below.refl _ _) _, ?_⟩
  exact ⟨_, n, n, rfl, Nat.le_refl _, Lib.hid hn, by omega, rds_lit w e (0, 0) 0 cs (by omega) n hn⟩
/-- string(row). -/
theorem w_str {j d : Nat} {xs : List Int} {src dst : TypeId} (hL : k ∉ L) (hd : P.underlying dst = some .string) (he : P.underlying e = some (.int .u8)) (T : SlTy P src e (.int .u8 z) bytes) (ho : o.op = .convert src dst (.tmp d)) (hj : srcOf (dsts.take k) 0 d = some j) (hw : ∀ vs w, Known Fs k (deps D L Fs k) vs w → Wants o vs = true)
    (hF : ∀ vs w, Known Fs k (deps D L Fs k) vs w → IsRow .u8 xs (vs j) w) (tl : Walk P D L dsts I J a0 K r (k + 1) (FW.val (.string (strOfNums xs)) :: Fs)) : Walk P D L dsts I J a0 K (o :: r) k Fs := by
  refine w_any (FW.val (.string (strOfNums xs))) hL (fun vs w hI hK => ?_) tl
  obtain ⟨A, n, c, e1, h1, h2, h3, h4⟩ := hF vs w hK
  have hlk : lk [(d, .slice A n c)] (.tmp d) = .slice A n c := by simp [lk, lkT]
  have hcv : covers o ([(d, Value.slice A n c)].map (·.1)) = true := by simp [covers, ho, Op.operands]
  exact ob_run [(d, .slice A n c)] (hw vs w hK) ⟨rho_in hj e1, trivial⟩ hcv (run_conv_op ho hlk (conv_rds T he hd h4)) ⟨Below.refl _ _, rfl⟩
end
section
variable {P : Program} {o : Oper} {l : List (Nat × Value)} {x y : Operand} {t : TypeId} {m : Nat} {xs ys : Array Value} {r : Bool} {w : World}
theorem op_agg_eql (ho : o.op = .binOp .eql t x y m) (hx : lk l x = .agg xs) (hy : lk l y = .agg ys) (hm : P.eqGuardType P.depth t = false) (he : (Op.equalIn (9998 + 1 + 1) t (.agg xs) (.agg ys)).run P w = .ok r w) : (execOp (lk l) o).run P w = .ok (.value (.bool r)) w := by
  have e2 : (Op.equal t (.agg xs) (.agg ys)).run P w = .ok r w := he
  have e3 : (binOp .eql t (.agg xs) (.agg ys)).run P w = .ok (.bool r) w := by
    show ((do pure (.bool (← Op.equal t (.agg xs) (.agg ys))) : Sem Value)).run P w = _
    simp only [Sem.run_bind, e2, Result.andThen_ok, Sem.run_pure]
  unfold execOp
  simp only [ho, hx, hy, Sem.run_bind, run_eqGuard_agg w .eql t x y xs ys hm, Result.andThen_ok, e3, Sem.run_pure]
theorem op_agg_neq (ho : o.op = .binOp .neq t x y m) (hx : lk l x = .agg xs) (hy : lk l y = .agg ys) (hm : P.eqGuardType P.depth t = false) (he : (Op.equalIn (9998 + 1 + 1) t (.agg xs) (.agg ys)).run P w = .ok r w) : (execOp (lk l) o).run P w = .ok (.value (.bool (!r))) w := by
  have e2 : (Op.equal t (.agg xs) (.agg ys)).run P w = .ok r w := he
  have e3 : (binOp .neq t (.agg xs) (.agg ys)).run P w = .ok (.bool (!r)) w := by
    show ((do pure (.bool (!(← Op.equal t (.agg xs) (.agg ys)))) : Sem Value)).run P w = _
    simp only [Sem.run_bind, e2, Result.andThen_ok, Sem.run_pure]
  unfold execOp
  simp only [ho, hx, hy, Sem.run_bind, run_eqGuard_agg w .neq t x y xs ys hm, Result.andThen_ok, e3, Sem.run_pure]
end
/-- Arrays of whole numbers compared. -/
theorem eqItems_ints {P : Program} {e : TypeId} {k kd : IntKind} (he : P.underlying e = some (.int kd)) (hc : P.cellsOf e = 1) (d : Nat) (xs ys : List Int) (w : World) : ∀ is : List Nat, (∀ i ∈ is, i < xs.length ∧ i < ys.length) →
    (Op.eqItems (d + 1) e (P.cellsOf e) (nums k xs).toArray (nums k ys).toArray is).run P w = .ok (is.all fun i => xs.getD i 0 == ys.getD i 0) w
  | [], _ => by simp [Op.eqItems]
  | i :: is, h => by
    have ih := eqItems_ints (k := k) he hc d xs ys w is (fun j hj => h j (by simp [hj]))
    have hpk : P.plainKey e = true := by simp [Program.plainKey, he]
    obtain ⟨h1, h2⟩ := h i (by simp)
    have p1 : (part e (nums k xs).toArray (i * P.cellsOf e)).run P w = .ok (.int k (xs.getD i 0)) w := run_part_plain w hpk (by
      rw [hc, Nat.mul_one]
      simp [nums, List.getD_eq_getElem?_getD, List.getElem?_eq_getElem h1])
    have p2 : (part e (nums k ys).toArray (i * P.cellsOf e)).run P w = .ok (.int k (ys.getD i 0)) w := run_part_plain w hpk (by
      rw [hc, Nat.mul_one]
      simp [nums, List.getD_eq_getElem?_getD, List.getElem?_eq_getElem h2])
    simp only [Op.eqItems, Sem.run_bind, p1, p2, Result.andThen_ok, run_equalIn_int w d e k kd _ _ he, List.all_cons]
    cases hb : (xs.getD i 0 == ys.getD i 0)
    · simp
    · simpa using ih
theorem all_eq_lists (xs ys : List Int) (n : Nat) (hx : xs.length = n) (hy : ys.length = n) : ((List.range n).all fun i => xs.getD i 0 == ys.getD i 0) = decide (xs = ys) := by
  rw [Bool.eq_iff_iff, List.all_eq_true, decide_eq_true_iff]
  constructor
  · intro h
    apply List.ext_getElem (by omega)
    intro i h1 h2
    have := h i (by simp; omega)
    rw [beq_iff_eq, List.getD_eq_getElem?_getD, List.getD_eq_getElem?_getD, List.getElem?_eq_getElem h1, List.getElem?_eq_getElem h2] at this
    exact this
  · rintro rfl i _
    simp
theorem equalIn_ints {P : Program} {t e : TypeId} {n : Nat} {k kd : IntKind} (hu : P.underlying t = some (.array n e)) (he : P.underlying e = some (.int kd)) (hi : (P.info? e).isSome = true) (hc : P.cellsOf e = 1) (d : Nat) (xs ys : List Int) (hx : xs.length = n) (hy : ys.length = n) (w : World) :
    (Op.equalIn (d + 1 + 1) t (.agg (nums k xs).toArray) (.agg (nums k ys).toArray)).run P w = .ok (decide (xs = ys)) w := by
  obtain ⟨i, hi⟩ := Option.isSome_iff_exists.1 hi
  rw [run_equalIn_array w (d + 1) _ _ hu hi, eqItems_ints he hc d xs ys w (List.range n) (fun j hj => by have := List.mem_range.1 hj; omega), all_eq_lists xs ys n hx hy]
theorem rem_nat (p m : Nat) : Int.tmod (p : Int) (m : Int) = ((p % m : Nat) : Int) := by
  rw [Int.tmod_eq_emod_of_nonneg (Int.natCast_nonneg _)]
  exact (Int.natCast_emod p m).symm
theorem quo_nat (p m : Nat) : Int.tdiv (p : Int) (m : Int) = ((p / m : Nat) : Int) := by
  rw [Int.tdiv_eq_ediv_of_nonneg (Int.natCast_nonneg _)]
  exact (Int.natCast_ediv p m).symm
theorem u8_nat (n : Nat) (h : n < 256) : IntKind.u8.wrap (n : Int) = (n : Int) := by simp [IntKind.wrap, IntKind.signed, IntKind.bits]; omega
theorem u32_nat (n : Nat) (h : n < 4294967296) : IntKind.u32.wrap (n : Int) = (n : Int) := by simp [IntKind.wrap, IntKind.signed, IntKind.bits]; omega
theorem u64_nat (n : Nat) (h : n < 18446744073709551616) : IntKind.u64.wrap (n : Int) = (n : Int) := by simp [IntKind.wrap, IntKind.signed, IntKind.bits]; omega
end Go.Proofs.Ytnkeijdpjcclcaa.Kit
-- GrS
/- append(b, s...): a text's bytes onto a row of bytes, own or marked. -/
namespace Go.Proofs.Ytnkeijdpjcclcaa.Kit
set_option linter.unusedVariables false
set_option linter.unusedSimpArgs false
open Go.RowKit Go.Proofs.YtnkeijdpjcclcaaW.PrintWords Go.Proofs.YtnkeijdpjcclcaaW.PrintLast Go.Proofs.YtnkeijdpjcclcaaW.PrintMore
theorem strCells_eq (s : ByteArray) : Lib.strCells s = encs (Value.int .u8) (numsOf s) := by
  rw [numsOf_data, Lib.strCells, encs, List.map_map]
  rfl
/-- Cells stored ahead of a row's mark. -/
theorem mk_store {P : Program} {g n : Nat} {e : TypeId} {fr : Nat × Nat} : ∀ (vs : List Value) (i : Nat) (cur : Array Value) (w : World), w.heap[g]? = some (.cells cur e fr) → cur.size ≤ fr.1 → n + i + vs.length ≤ cur.size → (∀ v ∈ vs, v.oneCell' = true) →
    (storeCells ⟨g, n, none⟩ vs i).run P w = .ok () (w.setRow g (cur.toList.take (n + i) ++ vs ++ cur.toList.drop (n + i + vs.length)).toArray) := by
  intro vs
  induction vs with
  | nil =>
    intro i cur w hg _ _ _
    simp only [storeCells, List.append_nil, List.length_nil, Nat.add_zero, List.take_append_drop, Array.toArray_toList]
    rw [setRow_self w g cur e fr hg]
    rfl
  | cons v rest ih =>
    intro i cur w hg hfr hl h1
    have hi : n + i < cur.size := by simp at hl; omega
    have hadd : (⟨g, n, none⟩ : Addr).add i = ⟨g, n + i, none⟩ := by unfold Addr.add; split <;> simp_all
    have hcell : w.cell? ⟨g, n + i, none⟩ = some cur[n + i] := by simp [World.cell?, hg, hi]
    have hfro : w.frozen? ⟨g, n + i, none⟩ = false := by
      obtain ⟨lo, hi'⟩ := fr
      simp only [World.frozen?, hg, Bool.and_eq_false_iff, decide_eq_false_iff_not]
      left
      simp only at hfr
      omega
    have hst : (store ((⟨g, n, none⟩ : Addr).add i) v).run P w = .ok () (w.setRow g (cur.setIfInBounds (n + i) v)) := by
      rw [hadd, run_store P w _ v _ (h1 v (by simp)), hcell]
      simp [hfro, setCell_eq_setRow w g (n + i) cur e fr v hg]
    have ih := ih (i + 1) (cur.setIfInBounds (n + i) v) (w.setRow g (cur.setIfInBounds (n + i) v)) (setRow_heap w g cur _ e _ hg) (by simpa using hfr) (by simp at hl ⊢; omega) (fun x hx => h1 x (by simp [hx]))
    simp only [storeCells, Sem.run_bind, hst, Result.andThen_ok, ih, setRow_setRow]
    congr 3
    have e := list_seg_step cur.toList (n + i) v rest (by simp at hl ⊢; omega)
    simpa [Array.toList_setIfInBounds, Nat.add_assoc] using e
theorem gr_run_str {P : Program} {t u e : TypeId} {bytes : Nat} (T : SlTy P t e (.int .u8 0) bytes) (hb1 : bytes = 1) (hu : P.underlying u = some .string) (ty : TypeId) {W : World} {B : Nat} {v : Value} {xs : List Int} (s : ByteArray) (HO : Gr .u8 e W B v xs) (hbase : B ≤ W.heap.size) (hl : xs.length + s.size ≤ 140737488355328) :
    ∃ v1 w1, (Builtin.append_ #[t, u] ty #[v, .string s]).run P W = .ok v1 w1 ∧ Apd (Value.int .u8) (int_one .u8) e W w1 B v v1 (xs ++ numsOf s) := by
  obtain ⟨i, hi, hz, hsize, hby⟩ := info_of T
  have hby1 : i.bytes = 1 := by rw [hby, hb1]
  have hnl : (numsOf s).length = s.size := numsOf_length s
  have hone : ∀ v ∈ Lib.strCells s, v.oneCell' = true := Lib.strCells_oneCell s
  have hcl : (Lib.strCells s).length = s.size := Lib.strCells_length s
  have henc : encs (Value.int .u8) (xs ++ numsOf s) = encs (Value.int .u8) xs ++ Lib.strCells s := by rw [strCells_eq]; simp [encs]
  rcases HO with HO | ⟨g, cap, cur, fr, rfl, k1, k2, k3, k4, k5, k6, k7⟩
  · have hown := Kd.own_of_R HO
    obtain ⟨v1, w1, hrun, h2, hg, _⟩ := Lib.run_append_own_string (P := P) W B t u ty e i T.und hu hi hz hsize hby1 v xs.length (encs (Value.int .u8) xs) hown s (by simp only [maxLen]; omega) hl hbase
    refine ⟨v1, w1, hrun, .inl (Kd.R_of_own ?_ (fun _ _ => trivial)), ⟨hg, ?_⟩⟩
    · rw [List.length_append, hnl, henc]
      exact h2
    · rcases hown.2 with ⟨rfl, hn⟩ | ⟨g, cap, cur, rfl, hbg, hgb, hnc, hcm, hcs, htake⟩
      · by_cases hm : s.size = 0
        · have hn0 : Lib.strCells s = [] := List.eq_nil_of_length_eq_zero (by rw [hcl]; exact hm)
          have hf := Lib.run_firstCells_string (P := P) W 1 s
          rw [hm] at hf
          have hr : (Builtin.append_ #[t, u] ty #[.slice none 0 0, .string s]).run P W = .ok (.slice none 0 0) W := by
            simp [Builtin.append_, run_underlying T.und, run_underlying hu, sizeOf, typeInfo, hi, hsize, Builtin.lenOf, hm, hf]
          rw [hr] at hrun
          cases hrun
          exact .inl rfl
        · have hr := run_append_nil_string (P := P) W t u ty e i (.int .u8 0) T.und hu hi hz s (by omega) (by omega) (by rw [hby1]; omega)
          rw [hr] at hrun
          cases hrun
          exact .inr ⟨_, rfl, Nat.le_refl _⟩
      · by_cases hroom : xs.length + s.size ≤ cap
        · have hcs1 : cur.size = cap := by simpa using hcs
          have hr := Lib.run_append_room_string (P := P) W t u ty e i T.und hu hi hsize g xs.length cap cur hgb s hroom (by omega)
          rw [hr] at hrun
          cases hrun
          exact .inl rfl
        · have holds : ∀ j u, (encs (Value.int .u8) xs)[j]? = some u → W.cell? ((⟨g, 0, none⟩ : Addr).add j) = some u := hown.cells (g := g) rfl
          have hr := Lib.run_append_grow_string (P := P) W t u ty e i (.int .u8 0) T.und hu hi hz ⟨g, 0, none⟩ xs.length cap (encs (Value.int .u8) xs) (by rw [hsize, encs, List.length_map]; omega) holds s (by omega) (by omega) (by rw [hby1]; exact growslice_fits (by omega) (by omega))
          rw [hr] at hrun
          cases hrun
          exact .inr ⟨_, rfl, Nat.le_refl _⟩
  · by_cases hroom : xs.length + s.size ≤ cap
    · have hst := mk_store (P := P) (n := xs.length) (Lib.strCells s) 0 cur W k2 k3 (by rw [hcl]; omega) hone
      simp only [Nat.add_zero] at hst
      have hf := Lib.run_firstCells_string (P := P) W 1 s
      have hrun : (Builtin.append_ #[t, u] ty #[.slice (some ⟨g, 0, none⟩) xs.length cap, .string s]).run P W = .ok (.slice (some ⟨g, 0, none⟩) (xs.length + s.size) cap) (W.setRow g (cur.toList.take xs.length ++ Lib.strCells s ++ cur.toList.drop (xs.length + (Lib.strCells s).length)).toArray) := by
        simp [Builtin.append_, run_underlying T.und, run_underlying hu, sizeOf, typeInfo, hi, Builtin.lenOf, hroom, hf, Addr.add_lit, hsize, hst]
      refine ⟨_, _, hrun, .inr ⟨g, cap, _, fr, by rw [List.length_append, hnl], k1, setRow_heap W g cur _ e _ k2, ?_, by rw [List.length_append, hnl]; exact hroom, k5, ?_, ?_⟩, ⟨⟨rfl, rfl, rfl, by simp, fun k _ hk => setRow_other W g k _ (fun e => hk (by simp [Value.ownBlock, e]))⟩, .inl rfl⟩⟩
      · simp only [List.size_toArray, List.length_append, List.length_take, List.length_drop, Array.length_toList, hcl]
        omega
      · simp only [List.size_toArray, List.length_append, List.length_take, List.length_drop, Array.length_toList, hcl]
        omega
      · have hlx : (encs (Value.int .u8) xs).length = xs.length := by simp [encs]
        rw [k7, List.length_append, hnl, henc, List.append_assoc]
        rw [← List.append_assoc, List.take_left' (by rw [List.length_append, hlx, hcl])]
    · have hr := Lib.run_append_grow_string (P := P) W t u ty e i (.int .u8 0) T.und hu hi hz ⟨g, 0, none⟩ xs.length cap (encs (Value.int .u8) xs) (by rw [hsize, encs, List.length_map]; omega) (mk_cells (cap := cap) k2 k7) s (by omega) (by omega) (by rw [hby1]; exact growslice_fits (by omega) (by omega))
      refine ⟨_, _, hr, .inl (Kd.R_of_own ?_ (fun _ _ => trivial)), ⟨⟨rfl, rfl, rfl, by simp, fun k hk _ => heap_alloc_old W.drew _ hk⟩, .inr ⟨_, rfl, Nat.le_refl _⟩⟩⟩
      have hcm : grownCap W (xs.length + s.size) cap e ≤ maxLen := grownCap_le_maxLen _ _ _ _ (by simp only [maxLen]; omega)
      have hge := grownCap_ge W (xs.length + s.size) cap e
      refine ⟨by simp [encs, hnl], .inr ⟨_, _, _, by rw [List.length_append, hnl], hbase, heap_alloc_new W.drew _, by rw [List.length_append, hnl]; exact hge, hcm, ?_, ?_⟩⟩
      · have hz1 : (Value.int IntKind.u8 0).cells.size = 1 := rfl
        simp only [Array.size_append, List.size_toArray, size_zeroCells, hz1, hcl, encs, List.length_map, hnl]
        omega
      · simp only [Array.toList_append, henc, List.append_assoc]
        rw [← List.append_assoc, List.take_left' (by simp [encs, hcl, hnl])]
section
variable {P : Program} {ops : Array Oper} {rest : List Oper} {o : Oper} {a : Act} {Q : Exit → Act → World → Prop} {t u e : TypeId} {bytes : Nat}
/-- append(v, s...), behind at_builtin. -/
theorem gapp_str (T : SlTy P t e (.int .u8 0) bytes) (hb1 : bytes = 1) (hu : P.underlying u = some .string) (hgd : o.guard = none) (s x : Operand) (ho : o.op = .call { callee := .builtin .append, args := #[s, x], argTypes := #[t, u] })
    {w0 W : World} {B : Nat} {v : Value} {xs : List Int} {str : ByteArray} (hs : a.eval s = v) (hx : a.eval x = .string str)
    (HO : Gr .u8 e W B v xs) (HB : Below B w0 W) (hbase : B ≤ W.heap.size) (hl : xs.length + str.size ≤ 140737488355328)
    (h : ∀ v1 w1, Gr .u8 e w1 B v1 (xs ++ numsOf str) → Below B w0 w1 → B ≤ w1.heap.size → Fr W w1 v v1 → wpList P ops Q rest (a.put o.dst v1) w1) :
    wpList P ops Q (o :: rest) a W := by
  obtain ⟨v1, w1, hrun, hA⟩ := gr_run_str T hb1 hu o.type str HO hbase hl
  refine wpList_plain hgd fun K hK => ?_
  unfold Oper.wp execOp
  simp only [ho, resolve, invoke, builtin, Sem.run_bind, Sem.run_pure, Result.andThen_ok, List.map_toArray, List.map_cons, List.map_nil, hs, hx, hrun]
  exact hK _ _ (h v1 w1 hA.own (HB.grown hA.fr.grown hbase (gr_base HO)) (Nat.le_trans hbase hA.fr.size) hA.fr)
end
theorem run_append_str_op {P : Program} {o : Oper} {l : List (Nat × Value)} {s x : Operand} {ts : Array TypeId} {str : ByteArray} {v v1 : Value} {w w1 : World} (ho : o.op = .call { callee := .builtin .append, args := #[s, x], argTypes := ts }) (hs : lk l s = v) (hx : lk l x = .string str)
    (hrun : (Builtin.append_ ts o.type #[v, .string str]).run P w = .ok v1 w1) : (execOp (lk l) o).run P w = .ok (.value v1) w1 := run_append_op ho hs hx hrun
end Go.Proofs.Ytnkeijdpjcclcaa.Kit
-- Open
/- Opening data: arrays, structs by value. -/
namespace Go.Proofs.Ytnkeijdpjcclcaa.Kit
set_option linter.unusedVariables false
set_option linter.unusedSimpArgs false
open Go.RowKit Go.Proofs.YtnkeijdpjcclcaaW.PrintWords Go.Proofs.YtnkeijdpjcclcaaW.PrintLast Go.Proofs.YtnkeijdpjcclcaaW.PrintMore
section
variable {H : Type} {enc : TypeId × Value → H} {P : Program} {w : World} {base : Nat} {sp : Nat → Bool} {held : Bool} {m : Nat} {t e : TypeId} {cs : List Value} {x : DataW H × List MemPlace}
theorem nums_of {k : IntKind} {cs : List Value} (h : ∀ j, j < cs.length → ∃ n, cs[j]? = some (.int k n) ∧ (Lit.int k n).wf = true) : ∃ l : List Int, cs = nums k l ∧ ∀ n ∈ l, (Lit.int k n).wf = true := by
  induction cs with
  | nil => exact ⟨[], rfl, by simp⟩
  | cons c r ih =>
    obtain ⟨n, h1, h2⟩ := h 0 (by simp)
    simp only [List.getElem?_cons_zero, Option.some.injEq] at h1
    subst h1
    obtain ⟨l, rfl, hl⟩ := ih (fun j hj => by
      obtain ⟨n, h1, h2⟩ := h (j + 1) (by simpa using hj)
      exact ⟨n, by simpa using h1, h2⟩)
    exact ⟨n :: l, rfl, fun y hy => by
      rcases List.mem_cons.1 hy with rfl | hy
      · exact h2
      · exact hl y hy⟩
theorem open_arr_ints {k : IntKind} {n : Nat} (ht : P.underlying t = some (.array n e)) (he : P.underlying e = some (.int k)) (hc : P.cellsOf e = 1) (hct : P.cellsOf t = n) (h : DataW.trod enc P w base sp held m t cs = some x) :
    ∃ l : List Int, cs = nums k l ∧ l.length = n ∧ ∀ y ∈ l, (Lit.int k y).wf = true := by
  obtain ⟨xs, m', _, _, hl, hx, hf⟩ := DataW.trod_array ht h
  rw [hct] at hl
  obtain ⟨l, rfl, hw⟩ := nums_of (k := k) (cs := cs) (fun j hj => by
    have h1 := hf j (by omega)
    rw [hc, Nat.mul_one, List.getElem?_eq_getElem (by omega)] at h1
    obtain ⟨n', h2, _, h3⟩ := DataW.trod_int he h1
    refine ⟨n', ?_, h3⟩
    have h4 : ((cs.drop j).take 1)[0]? = some (.int k n') := by rw [h2]; rfl
    rw [List.getElem?_take, if_pos (by omega), List.getElem?_drop, Nat.add_zero] at h4
    exact h4)
  exact ⟨l, rfl, by simpa [nums] using hl, hw⟩
theorem cut_cons {α : Type} {cs A R : List α} {o s o' : Nat} (h : (cs.drop o).take s = A) (ho : o + s = o') (r : cs.drop o' = R) : cs.drop o = A ++ R := by
  subst ho
  rw [← h, ← r, ← List.drop_drop, List.take_append_drop]
theorem cut_end {α : Type} {cs : List α} {n : Nat} (h : cs.length = n) : cs.drop n = [] := by rw [← h]; simp
theorem agg_of {c : Array Value} {l : List Value} (h : c.toList = l) : c = l.toArray := by rw [← h]
theorem field_some {α : Type} {xs : List α} {n i : Nat} (h : xs.length = n) (hi : i < n) : ∃ y, xs[i]? = some y := ⟨_, List.getElem?_eq_getElem (by omega)⟩
end
end Go.Proofs.Ytnkeijdpjcclcaa.Kit
-- St
/- Slices whose elements have several cells (structs) or are texts: read; opened as arguments. -/
namespace Go.Proofs.Ytnkeijdpjcclcaa.Kit
set_option linter.unusedVariables false
set_option linter.unusedSimpArgs false
open Go.RowKit Go.ChangeShapes Go.WideShapes Go.Proofs.YtnkeijdpjcclcaaW.PrintWords Go.Proofs.YtnkeijdpjcclcaaW.PrintLast Go.Proofs.YtnkeijdpjcclcaaW.PrintMore
/-- A slice of elements of k cells each, that is read. -/
structure Sts {α : Type} (enc : α → List Value) (k : Nat) (w : World) (A : Option Addr) (n : Nat) (xs : List α) : Prop where
  len : xs.length = n
  max : n ≤ 9223372036854775807
  row : 0 < n → ∃ ad, A = some ad ∧ ∀ i x, xs[i]? = some x → ∀ j v, (enc x)[j]? = some v → w.cell? ((ad.add (i * k)).add j) = some v
theorem sts_below {α : Type} {enc : α → List Value} {k : Nat} {w w' : World} {A : Option Addr} {n : Nat} {xs : List α} (h : Sts enc k w A n xs) (hb : Below w.heap.size w w') : Sts enc k w' A n xs :=
  ⟨h.len, h.max, fun hn => by
    obtain ⟨ad, e, hc⟩ := h.row hn
    exact ⟨ad, e, fun i x hx j v hv => below_cell hb (hc i x hx j v hv)⟩⟩
theorem sts_nil {α : Type} (enc : α → List Value) (k : Nat) (w : World) (A : Option Addr) : Sts enc k w A 0 [] := ⟨rfl, by omega, fun h => absurd h (by omega)⟩
/-- Such a slice's type. -/
structure StTy (P : Program) (t e : TypeId) (k : Nat) : Prop where
  und : P.underlying t = some (.slice e)
  size : (P.info? e).map (·.size) = some k
theorem st_sizeOf {P : Program} {t e : TypeId} {k : Nat} (T : StTy P t e k) (w : World) : (sizeOf (P.elem t)).run P w = .ok k w := by
  have hel : P.elem t = e := by simp [Program.elem, T.und]
  rw [hel]
  have h := T.size
  cases hi : P.info? e with
  | none => rw [hi] at h; simp at h
  | some i =>
    rw [hi] at h
    have hs : i.size = k := by simpa using h
    simp [sizeOf, typeInfo, hi, hs]
theorem run_index_st {P : Program} {t e : TypeId} {k : Nat} (T : StTy P t e k) {ad : Addr} {n c i : Nat} {kd : IntKind} {j : Int} (hj : j = (i : Int)) (hi : i < n) (w : World) :
    (Instr.indexAt t (.slice (some ad) n c) (.int kd j)).run P w = .ok (.pointer (some (ad.add (i * k)))) w := by
  subst hj
  have hel : P.elem t = e := by simp [Program.elem, T.und]
  rw [run_indexAt_slice w t ad n c kd (i : Int) (by rw [hel]; exact T.und), if_pos ⟨by omega, by omega⟩, st_sizeOf T w]
  simp [Result.andThen]
theorem loadVar_at {P : Program} (w : World) (ad : Addr) (ty : TypeId) (cs : List Value) (d : TypeDesc) (hc : ∀ j v, cs[j]? = some v → w.cell? (ad.add j) = some v) (hu : P.underlying ty = some d) (hd : d.isRow = true) (hi : (P.info? ty).map (·.size) = some cs.length) :
    (loadVar ty ad).run P w = .ok (.agg cs.toArray) w := by
  have hl : (loadCells ad cs.length).run P w = .ok cs.toArray w := run_loadCells_list (P := P) w ad cs hc
  cases hq : P.info? ty with
  | none => simp [hq] at hi
  | some i =>
    have hs : i.size = cs.length := by simpa [hq] using hi
    have hagg : (isAgg ty).run P w = .ok true w := by
      unfold isAgg
      rw [Sem.run_bind, run_underlying hu w]
      cases d <;> simp_all
    simp [loadVar, Sem.run_bind, hagg, sizeOf, typeInfo, hq, hs, hl]
theorem run_loadAt_at {P : Program} (w : World) (ad : Addr) (ty : TypeId) (cs : List Value) (d : TypeDesc) (hc : ∀ j v, cs[j]? = some v → w.cell? (ad.add j) = some v) (hu : P.underlying ty = some d) (hd : d.isRow = true) (hi : (P.info? ty).map (·.size) = some cs.length) :
    (Instr.loadAt ty (.pointer (some ad))).run P w = .ok (.agg cs.toArray) w := by
  simp only [Instr.loadAt, Instr.sureAddr, Sem.run_bind, Sem.run_pure, Result.andThen_ok, loadVar_at w ad ty cs d hc hu hd hi]
section
variable {P : Program} {ops : Array Oper} {rest : List Oper} {op : Oper} {a : Act} {w : World} {Q : Exit → Act → World → Prop}
theorem wpList_index_st (hgd : op.guard = none) (t : TypeId) (x y : Operand) (ho : op.op = .indexAddr t x y) {e : TypeId} {k : Nat} (T : StTy P t e k) {ad : Addr} {n c i : Nat} {kd : IntKind} {j : Int} (hx : a.eval x = .slice (some ad) n c) (hy : a.eval y = .int kd j) (hj : j = (i : Int)) (hi : i < n)
    (h : wpList P ops Q rest (a.put op.dst (.pointer (some (ad.add (i * k))))) w) : wpList P ops Q (op :: rest) a w := by
  refine wpList_plain hgd fun K hK => ?_
  unfold Oper.wp execOp
  simp only [ho, hx, hy, Sem.run_bind, run_index_st T hj hi w, Result.andThen_ok, Sem.run_pure]
  exact hK _ _ h
theorem wpList_load_at (hgd : op.guard = none) (ty : TypeId) (x : Operand) (ho : op.op = .load ty x) (ad : Addr) (cs : List Value) (hx : a.eval x = .pointer (some ad)) {d : TypeDesc}
    (hc : ∀ j v, cs[j]? = some v → w.cell? (ad.add j) = some v) (hu : P.underlying ty = some d) (hd : d.isRow = true) (hi : (P.info? ty).map (·.size) = some cs.length)
    (h : wpList P ops Q rest (a.put op.dst (.agg cs.toArray)) w) : wpList P ops Q (op :: rest) a w := by
  refine wpList_plain hgd fun K hK => ?_
  unfold Oper.wp execOp
  simp only [ho, hx, Sem.run_bind, run_loadAt_at w ad ty cs d hc hu hd hi, Result.andThen_ok, Sem.run_pure]
  exact hK _ _ h
end
section
variable {P : Program} {o : Oper} {l : List (Nat × Value)} {x y : Operand} {w : World}
theorem op_index_st {t e : TypeId} {k : Nat} (T : StTy P t e k) (ho : o.op = .indexAddr t x y) {ad : Addr} {n c i : Nat} {kd : IntKind} {j : Int} (hx : lk l x = .slice (some ad) n c) (hy : lk l y = .int kd j) (hj : j = (i : Int)) (hi : i < n) :
    (execOp (lk l) o).run P w = .ok (.value (.pointer (some (ad.add (i * k))))) w := by
  unfold execOp
  simp only [ho, hx, hy, Sem.run_bind, run_index_st T hj hi w, Result.andThen_ok, Sem.run_pure]
theorem op_load_at {ty : TypeId} (ho : o.op = .load ty x) (ad : Addr) (cs : List Value) (hx : lk l x = .pointer (some ad)) {d : TypeDesc}
    (hc : ∀ j v, cs[j]? = some v → w.cell? (ad.add j) = some v) (hu : P.underlying ty = some d) (hd : d.isRow = true) (hi : (P.info? ty).map (·.size) = some cs.length) :
    (execOp (lk l) o).run P w = .ok (.value (.agg cs.toArray)) w := run_load_op ho hx (run_loadAt_at w ad ty cs d hc hu hd hi)
end
section
variable {H : Type} {enc : TypeId × Value → H} {P : Program} {w : World} {base m : Nat} {held : Bool} {t e : TypeId}
/-- Such an argument, opened. -/
theorem open_sts {α : Type} [Inhabited α] (enc' : α → List Value) (ok : α → Prop) {k : Nat} {A : Option Addr} {n c : Nat} {x : DataW H × List MemPlace} (ht : P.underlying t = some (.slice e)) (hk : P.cellsOf e = k)
    (hel : ∀ (cs : List Value) (m' : Nat) (y : DataW H × List MemPlace), DataW.trod enc P w base (fun _ => true) held m' e cs = some y → ∃ z : α, cs = enc' z ∧ ok z)
    (h : DataW.trod enc P w base (fun _ => true) held m t [.slice A n c] = some x) : ∃ xs, Sts enc' k w A n xs ∧ n ≤ c ∧ ∀ z ∈ xs, ok z := by
  have hmx : maxLen = 9223372036854775807 := rfl
  rcases Go.Deep.open_slice ht h with ⟨hcs, _⟩ | ⟨a, len, cap, m', n', D, Pl, hcs, hb, hl, hm, hmm, hx, hV⟩
  · simp at hcs
    obtain ⟨rfl, rfl, rfl⟩ := hcs
    exact ⟨[], sts_nil _ _ _ _, Nat.le_refl _, fun z hz => by cases hz⟩
  · simp at hcs
    obtain ⟨rfl, rfl, rfl⟩ := hcs
    have hm2 : m' = c := by simpa using hmm
    have hp : ∀ i, i < n → ∃ z : α, (∀ j v, (enc' z)[j]? = some v → w.cell? ((a.add (i * k)).add j) = some v) ∧ ok z := fun i hi => by
      obtain ⟨cs', h1, h2⟩ := hV i (by omega)
      obtain ⟨z, hz, hok⟩ := hel _ _ _ h2
      obtain ⟨_, hlen, hcell⟩ := World.cells?_some h1
      refine ⟨z, fun j v hv => ?_, hok⟩
      rw [← hz] at hv
      have hj : j < cs'.length := (List.getElem?_eq_some_iff.1 hv).1
      rw [← hk, hcell j (by omega)]
      exact hv
    obtain ⟨f, hf⟩ := Go.Deep.choose_lt hp
    refine ⟨(List.range n).map f, ⟨by simp, by omega, fun _ => ⟨a, rfl, fun i x hx j v hv => ?_⟩⟩, hl, fun z hz => ?_⟩
    · rw [List.getElem?_map] at hx
      have hin : i < n := by
        rcases Nat.lt_or_ge i n with g | g
        · exact g
        · rw [List.getElem?_eq_none (by simpa using g)] at hx; cases hx
      rw [List.getElem?_range hin] at hx
      simp only [Option.map_some, Option.some.injEq] at hx
      subst hx
      exact (hf i hin).1 j v hv
    · obtain ⟨i, hi, rfl⟩ := List.mem_map.1 hz
      exact (hf i (by simpa using hi)).2
end
end Go.Proofs.Ytnkeijdpjcclcaa.Kit
-- StO
/- Rows of the call's own, of elements that have several cells. -/
namespace Go.Proofs.Ytnkeijdpjcclcaa.Kit
set_option linter.unusedVariables false
set_option linter.unusedSimpArgs false
open Go.RowKit Go.ChangeShapes Go.WideShapes Go.Proofs.YtnkeijdpjcclcaaW.PrintWords Go.Proofs.YtnkeijdpjcclcaaW.PrintLast Go.Proofs.YtnkeijdpjcclcaaW.PrintMore
section
variable {α : Type} {enc : α → List Value} {k : Nat} {e : TypeId} {w w' : World} {B : Nat} {v : Value} {xs : List α}
def OwnK {α : Type} (enc : α → List Value) (k : Nat) (e : TypeId) (w : World) (B : Nat) (v : Value) (xs : List α) : Prop := w.ownsRow B e k v xs.length (xs.flatMap enc)
theorem ownk_nil (enc : α → List Value) (k : Nat) (e : TypeId) (w : World) (B : Nat) : OwnK enc k e w B (.slice none 0 0) [] := World.ownsRow_nil w B e k
theorem ownk_lower {B' : Nat} (h : OwnK enc k e w B v xs) (hb : B' ≤ B) : OwnK enc k e w B' v xs := ⟨h.1, h.2.imp id fun ⟨g, cap, cur, a, b, c⟩ => ⟨g, cap, cur, a, Nat.le_trans hb b, c⟩⟩
theorem ownk_move (h : OwnK enc k e w B v xs) (hb : ∀ j, v.ownBlock = some j → w'.heap[j]? = w.heap[j]?) : OwnK enc k e w' B v xs := own_move h hb
theorem ownk_lt (h : OwnK enc k e w B v xs) : ∀ j, v.ownBlock = some j → j < w.heap.size := own_lt h
theorem ownk_base (h : OwnK enc k e w B v xs) : ∀ j, v.ownBlock = some j → B ≤ j := own_base h
theorem ownk_below (h : OwnK enc k e w B v xs) (hb : Below w.heap.size w w') : OwnK enc k e w' B v xs := ownk_move h fun j hj => hb.block j (ownk_lt h j hj)
theorem flat_length (hk : ∀ x, (enc x).length = k) : ∀ xs : List α, (xs.flatMap enc).length = xs.length * k
  | [] => by simp
  | x :: xs => by
    rw [List.flatMap_cons, List.length_append, flat_length hk xs, hk, List.length_cons, Nat.add_mul, Nat.one_mul]; omega
theorem flat_get (hk : ∀ x, (enc x).length = k) : ∀ (xs : List α) (i : Nat) (x : α), xs[i]? = some x → ∀ j u, (enc x)[j]? = some u → (xs.flatMap enc)[i * k + j]? = some u
  | [], i, x, hx, j, u, hu => by simp at hx
  | y :: xs, 0, x, hx, j, u, hu => by
    simp only [List.getElem?_cons_zero, Option.some.injEq] at hx
    subst hx
    rw [List.flatMap_cons, Nat.zero_mul, Nat.zero_add, List.getElem?_append_left]
    · exact hu
    · rcases Nat.lt_or_ge j (enc y).length with g | g
      · exact g
      · rw [List.getElem?_eq_none g] at hu; cases hu
  | y :: xs, i + 1, x, hx, j, u, hu => by
    rw [List.getElem?_cons_succ] at hx
    have ih := flat_get hk xs i x hx j u hu
    have e1 : (i + 1) * k + j = (enc y).length + (i * k + j) := by rw [hk, Nat.add_mul, Nat.one_mul]; omega
    rw [List.flatMap_cons, e1, List.getElem?_append_right (by omega), Nat.add_sub_cancel_left]
    exact ih
theorem ownk_open (hk : ∀ x, (enc x).length = k) (h : OwnK enc k e w B v xs) : ∃ A n c, v = .slice A n c ∧ n ≤ c ∧ Hid (xs.length = n) ∧ n ≤ 9223372036854775807 ∧ Sts enc k w A n xs := by
  rcases h.2 with ⟨rfl, hn⟩ | ⟨g, cap, cur, rfl, b, c, d, e1, f, g2⟩
  · obtain rfl : xs = [] := List.eq_nil_of_length_eq_zero hn
    exact ⟨none, 0, 0, rfl, Nat.le_refl _, Lib.hid rfl, by omega, sts_nil enc k w none⟩
  · have hm : xs.length ≤ 9223372036854775807 := by simp only [maxLen] at e1; omega
    refine ⟨_, _, cap, rfl, d, Lib.hid rfl, hm, ⟨rfl, hm, fun hp => ⟨_, rfl, fun i x hx j u hu => ?_⟩⟩⟩
    have hf := flat_get hk xs i x hx j u hu
    rw [Go.Proofs.YtnkeijdpjcclcaaW.PrintWords.add_plain, WideShapes.add_plain]
    rw [← g2, List.getElem?_take] at hf
    split at hf
    · simp only [World.cell?, c]
      simpa using hf
    · cases hf
/-- What an element type is. -/
structure EType (P : Program) (t e : TypeId) (k bytes : Nat) (z : Value) : Prop where
  und : P.underlying t = some (.slice e)
  info : (P.info? e).map (fun i => (i.zero, i.size, i.bytes)) = some (some z, k, bytes)
  zs : z.cells.size = k
  pos : 0 < k
theorem etype_st {P : Program} {t e : TypeId} {k bytes : Nat} {z : Value} (T : EType P t e k bytes z) : StTy P t e k := ⟨T.und, by
  have h := T.info
  cases hi : P.info? e with
  | none => rw [hi] at h; simp at h
  | some i => rw [hi] at h; simp only [Option.map_some, Option.some.injEq, Prod.mk.injEq] at h; simp [h.2.1]⟩
/-- The run of an append of elements of several cells. -/
theorem ownk_run {P : Program} {t : TypeId} {bytes : Nat} {z : Value} (hk : ∀ x, (enc x).length = k) (h1 : ∀ x, ∀ u ∈ enc x, u.oneCell' = true) (T : EType P t e k bytes z) (ty : TypeId)
    {W : World} {B : Nat} {v : Value} {xs ys : List α} {ad : Addr} {m c : Nat}
    (HO : OwnK enc k e W B v xs) (HR : Sts enc k W (some ad) m ys) (hbase : B ≤ W.heap.size) (hl : (xs.length + m) * bytes ≤ 140737488355328) (hl2 : xs.length + m ≤ 9223372036854775807) :
    ∃ v1 w1, (Builtin.append_ #[t, t] ty #[v, .slice (some ad) m c]).run P W = .ok v1 w1 ∧ OwnK enc k e w1 B v1 (xs ++ ys) ∧ Fr W w1 v v1 := by
  have hi := T.info
  cases hq : P.info? e with
  | none => rw [hq] at hi; simp at hi
  | some i =>
    rw [hq] at hi
    simp only [Option.map_some, Option.some.injEq, Prod.mk.injEq] at hi
    obtain ⟨i1, i2, i3⟩ := hi
    have hnews : ∀ j u, (ys.flatMap enc)[j]? = some u → W.cell? (ad.add j) = some u := by
      intro j u hu
      have hjl : j < ys.length * k := by
        rw [← flat_length hk ys]
        rcases Nat.lt_or_ge j (ys.flatMap enc).length with g | g
        · exact g
        · rw [List.getElem?_eq_none g] at hu; cases hu
      have hpos := T.pos
      have hm : 0 < m := by
        rw [← HR.len]
        rcases Nat.eq_zero_or_pos ys.length with g | g
        · rw [g] at hjl; omega
        · exact g
      obtain ⟨ad', e1, hc⟩ := HR.row hm
      injection e1 with e1
      subst e1
      have hdm := Nat.div_add_mod j k
      have hji : j / k < ys.length := Nat.div_lt_of_lt_mul (by rw [Nat.mul_comm]; exact hjl)
      have hmod : j % k < k := Nat.mod_lt _ hpos
      have hsplit : j = j / k * k + j % k := by rw [Nat.mul_comm]; omega
      have hxx : ys[j / k]? = some ys[j / k] := List.getElem?_eq_getElem hji
      have huu : (enc ys[j / k])[j % k]? = some ((enc ys[j / k])[j % k]'(by rw [hk]; exact hmod)) := List.getElem?_eq_getElem _
      have hf := flat_get hk ys _ _ hxx _ _ huu
      rw [← hsplit, hu] at hf
      injection hf with hf
      have := hc _ _ hxx _ _ huu
      rw [← hf] at this
      rw [← this, Addr.add_add, ← hsplit]
    obtain ⟨v1, w1, r1, r2, r3, _, r5⟩ := run_append_own_at (P := P) W B t ty e i z k bytes T.und hq i1 i2 i3 T.zs T.pos v xs.length (xs.flatMap enc) HO ad m c (ys.flatMap enc) (by rw [flat_length hk, HR.len]) hnews (fun u hu => by
      obtain ⟨y, _, hy⟩ := List.mem_flatMap.1 hu
      exact h1 y u hy) (by simp only [maxLen]; exact hl2) hl hbase
    refine ⟨v1, w1, r1, ?_, ⟨r3, ?_⟩⟩
    · show w1.ownsRow B e k v1 (xs ++ ys).length ((xs ++ ys).flatMap enc)
      rw [List.length_append, HR.len, List.flatMap_append]
      exact r2
    · rcases r5 with r5 | r5
      · exact .inl r5
      · exact .inr ⟨_, r5, Nat.le_refl _⟩
/-- append(v, x...) of elements of several cells, behind at_builtin. -/
theorem gapp_sts {P : Program} {ops : Array Oper} {rest : List Oper} {o : Oper} {a : Act} {Q : Exit → Act → World → Prop} {t : TypeId} {bytes : Nat} {z : Value} (hk : ∀ x, (enc x).length = k) (h1 : ∀ x, ∀ u ∈ enc x, u.oneCell' = true) (T : EType P t e k bytes z) (hgd : o.guard = none) (s x : Operand) (ho : o.op = .call { callee := .builtin .append, args := #[s, x], argTypes := #[t, t] })
    {w0 W : World} {B : Nat} {v : Value} {xs ys : List α} {ad : Addr} {m c : Nat} (hs : a.eval s = v) (hx : a.eval x = .slice (some ad) m c)
    (HO : OwnK enc k e W B v xs) (HR : Sts enc k W (some ad) m ys) (HB : Below B w0 W) (hbase : B ≤ W.heap.size) (hl : (xs.length + m) * bytes ≤ 140737488355328) (hl2 : xs.length + m ≤ 9223372036854775807)
    (h : ∀ v1 w1, OwnK enc k e w1 B v1 (xs ++ ys) → Below B w0 w1 → B ≤ w1.heap.size → Fr W w1 v v1 → wpList P ops Q rest (a.put o.dst v1) w1) :
    wpList P ops Q (o :: rest) a W := by
  obtain ⟨v1, w1, hrun, k1, k2⟩ := ownk_run (c := c) hk h1 T o.type HO HR hbase hl hl2
  refine wpList_plain hgd fun K hK => ?_
  unfold Oper.wp execOp
  simp only [ho, resolve, invoke, builtin, Sem.run_bind, Sem.run_pure, Result.andThen_ok, List.map_toArray, List.map_cons, List.map_nil, hs, hx, hrun]
  exact hK _ _ (h v1 w1 k1 (HB.grown k2.grown hbase (ownk_base HO)) (Nat.le_trans hbase k2.grown.size) k2)
/-- A literal of one element of several cells. -/
theorem op_lit1 {P : Program} {o : Oper} {l : List (Nat × Value)} {x : Operand} {t : TypeId} {bytes : Nat} {z : Value} (T : EType P t e k bytes z) (hk24 : k ≤ 16777216) (ho : o.op = .buildSlice t 1 #[(0, x)]) {cs : List Value} (hx : lk l x = .agg cs.toArray)
    (hfill : Instr.fill (fun i => some (i * k, k)) ((Array.range (1 * k)).map (z.cells[· % z.cells.size]!)) [(0, .agg cs.toArray)] = some cs.toArray) :
    (execOp (lk l) o).run P w = .ok (.value (.slice (some ⟨w.heap.size, 0, none⟩) 1 1)) (w.alloc (.cells cs.toArray e)) := by
  have hi := T.info
  have hp := T.pos
  cases hq : P.info? e with
  | none => rw [hq] at hi; simp at hi
  | some i =>
    rw [hq] at hi
    simp only [Option.map_some, Option.some.injEq, Prod.mk.injEq] at hi
    obtain ⟨i1, i2, i3⟩ := hi
    have hrun := run_buildSlice (P := P) w t e 1 #[(0, .agg cs.toArray)] cs.toArray i z T.und hq i1 (by rw [i2]; omega) (by rw [i2]; omega) (by rw [i2]; exact hfill)
    unfold execOp
    simp only [ho, Sem.run_bind, List.map_toArray, List.map_cons, List.map_nil, hx, hrun, Result.andThen_ok, Sem.run_pure]
theorem sts_one {g : Nat} {cs : List Value} {p : α} (hk : ∀ x, (enc x).length = k) (hp : enc p = cs) (h : w.heap[g]? = some (.cells cs.toArray e)) : Sts enc k w (some ⟨g, 0, none⟩) 1 [p] :=
  ⟨rfl, by omega, fun _ => ⟨_, rfl, fun i x hx j u hu => by
    cases i with
    | succ i => simp at hx
    | zero =>
      simp only [List.getElem?_cons_zero, Option.some.injEq] at hx
      subst hx
      rw [Nat.zero_mul, Go.Proofs.YtnkeijdpjcclcaaW.PrintWords.add_plain, WideShapes.add_plain, Nat.zero_add]
      rw [hp] at hu
      simp only [World.cell?, h]
      simpa using hu⟩⟩
end
end Go.Proofs.Ytnkeijdpjcclcaa.Kit
-- Fld
/- Fields' addresses, stores, structs built: operations in regions. -/
namespace Go.Proofs.Ytnkeijdpjcclcaa.Kit
set_option linter.unusedVariables false
set_option linter.unusedSimpArgs false
open Go.RowKit Go.Proofs.YtnkeijdpjcclcaaW.PrintWords Go.Proofs.YtnkeijdpjcclcaaW.PrintLast Go.Proofs.YtnkeijdpjcclcaaW.PrintMore
section
variable {P : Program} {o : Oper} {l : List (Nat × Value)} {x y : Operand} {t t2 : TypeId} {m : Nat} {k k2 : IntKind} {a b c : Int} {w : World}
theorem op_field {fs : Array Field} {f : Field} {i g off d : Nat} (ho : o.op = .fieldAddr t x i) (hx : lk l x = .pointer (some ⟨g, d, none⟩)) (hu : P.underlying t = some (.struct fs)) (hf : fs[i]? = some f) (hof : f.offset = off) (hft : f.type = t2) (hs : (P.info? t2).map (·.size) = some m) (hm : m ≠ 0) :
    (execOp (lk l) o).run P w = .ok (.value (.pointer (some ⟨g, d + off, none⟩))) w := by
  subst hof
  subst hft
  cases hq : P.info? f.type with
  | none => simp [hq] at hs
  | some i0 =>
    have hs2 : i0.size ≠ 0 := by simp [hq] at hs; omega
    unfold execOp
    simp [ho, hx, Instr.fieldAt, run_underlying hu, hf, Instr.sureAddr, fieldPlace, sizeOf, typeInfo, hq, hs2, Addr.add]
theorem op_or (ho : o.op = .binOp .or t x y m) (hx : lk l x = .int k a) (hy : lk l y = .int k b) (h : Go.bits .or k a b = c) : (execOp (lk l) o).run P w = .ok (.value (.int k c)) w := by
  subst h
  unfold execOp
  have e : Op.intBits .or k a b = pure (.int k (Go.bits .or k a b)) := rfl
  simp [ho, hx, hy, eqGuard, binOp, Op.intArith, e]
theorem op_build {ps : Array (Nat × Operand)} {cells : Array Value} (ho : o.op = .build t ps) (h : P.built t (ps.toList.map fun p => (p.1, lk l p.2)) = some cells) : (execOp (lk l) o).run P w = .ok (.value (.agg cells)) w := by
  unfold execOp
  have := run_build w t (ps.map fun (x : Nat × Operand) => (x.1, lk l x.2)) cells (by rw [Array.toList_map]; exact h)
  simp [ho, this]
/-- A store of one cell. -/
theorem ob_store_cell {dsts : List (Option Tmp)} {vs : Nat → Value} {a0 : Act} {R : Value → World → Prop} (l : List (Nat × Value)) {ad : Addr} {v old : Value} (hw : Wants o vs = true) (hv : Vs (rho dsts vs a0) l) (hc : covers o (l.map (·.1)) = true)
    (ho : o.op = .store t x y) (hx : lk l x = .pointer (some ad)) (hy : lk l y = v) (hv1 : v.oneCell' = true) (hcell : w.cell? ad = some old) (hfr : w.frozen? ad = false) (hi : (P.info? t).map (·.size) = some 1)
    (hR : R undef (w.setCell ad v)) : Ob P dsts o vs a0 w R := by
  have hst := storeVar_cell (P := P) t hi ad v _ hv1 w hcell hfr
  unfold Ob
  have hrun : (execOp (lk l) o).run P w = .ok .skip (w.setCell ad v) := by
    unfold execOp
    simp only [ho, hx, hy, Instr.storeAt, Instr.sureAddr, Sem.run_bind, Sem.run_pure, Result.andThen_ok, hst]
  rw [if_pos hw, lk_of (fun x hx => rho_else x hx) hv hc, hrun]
  exact hR
end
section
variable {P : Program} {ops : Array Oper} {rest : List Oper} {op : Oper} {a : Act} {w : World} {Q : Exit → Act → World → Prop} {x y : Operand}
/-- max(x, y), its answer known. -/
theorem wpList_max2 (hgd : op.guard = none) {ts : Array TypeId} (ho : op.op = .call { callee := .builtin .max, args := #[x, y], argTypes := ts }) {p q c : Int} (hx : a.eval x = .int .i64 p) (hy : a.eval y = .int .i64 q) (hc : mx p q = c)
    (h : wpList P ops Q rest (a.put op.dst (.int .i64 c)) w) : wpList P ops Q (op :: rest) a w := by
  refine wpList_plain hgd fun K hK => ?_
  have hrun : (execOp a.eval op).run P w = .ok (.value (.int .i64 c)) w := by
    subst hc
    unfold execOp
    simp [ho, resolve, invoke, builtin, hx, hy, run_max2, Result.andThen]
  unfold Oper.wp
  rw [hrun]
  exact hK _ _ h
end
theorem gr_made {W : World} {B : Nat} (k : IntKind) (e : TypeId) (m : Nat) (hB : B ≤ W.heap.size) (hm : m ≤ 9223372036854775807) : Gr k e (W.alloc (.cells (madeCells #[.int k 0] m) e)) B (.slice (some ⟨W.heap.size, 0, none⟩) m m) (List.replicate m 0) := by
  have h : (madeCells #[Value.int k 0] m) = (nums k (List.replicate m 0)).toArray := by
    apply Array.toList_inj.1
    simp only [madeCells, nums, List.map_replicate]
    apply List.ext_getElem
    · simp
    · intro i h1 h2
      simp [Nat.mod_one]
  rw [h]
  exact .inl (own_lit_ k e W B _ m List.length_replicate hB (by simpa using hm))
end Go.Proofs.Ytnkeijdpjcclcaa.Kit
-- Fld2
/- A struct stored into a variable, in regions. -/
namespace Go.Proofs.Ytnkeijdpjcclcaa.Kit
set_option linter.unusedVariables false
set_option linter.unusedSimpArgs false
open Go.RowKit Go.Proofs.YtnkeijdpjcclcaaW.PrintWords Go.Proofs.YtnkeijdpjcclcaaW.PrintLast Go.Proofs.YtnkeijdpjcclcaaW.PrintMore
section
variable {P : Program} {o : Oper} {x y : Operand} {ty : TypeId} {w : World}
theorem ob_store_box {dsts : List (Option Tmp)} {vs : Nat → Value} {a0 : Act} {R : Value → World → Prop} (l : List (Nat × Value)) {g : Nat} {cs old : List Value} {t : TypeId} (hw : Wants o vs = true) (hv : Vs (rho dsts vs a0) l) (hc : covers o (l.map (·.1)) = true)
    (ho : o.op = .store ty x y) (hx : lk l x = .pointer (some ⟨g, 0, none⟩)) (hy : lk l y = .agg cs.toArray) (hg : w.heap[g]? = some (.cells old.toArray t (0, 0))) (hl : old.length = cs.length) (hi : (P.info? ty).map (·.size) = some cs.length) (h1 : cs.all (·.oneCell') = true)
    (hR : ∀ w', Set1 w g (.cells cs.toArray t (0, 0)) w' → R undef w') : Ob P dsts o vs a0 w R := by
  have hst := run_storeVar_row (P := P) w g t ty old.toArray cs.toArray hg (by simpa using hi) (by simpa using hl) (by simpa using h1)
  unfold Ob
  have hrun : (execOp (lk l) o).run P w = .ok .skip (w.setRow g cs.toArray) := by
    unfold execOp
    simp only [ho, hx, hy, Instr.storeAt, Instr.sureAddr, Sem.run_bind, Sem.run_pure, Result.andThen_ok, hst]
  rw [if_pos hw, lk_of (fun x hx => rho_else x hx) hv hc, hrun]
  exact hR _ (set1_row hg)
end
/-- .. and what lay beside the box stays. -/
theorem Set1.keepB {w0 w w' : World} {g : Nat} {o : Obj} (h : Set1 w g o w') (hb : Below w0.heap.size w0 w) (hg : w0.heap.size ≤ g) : Below w0.heap.size w0 w' := h.then_ hb hg
end Go.Proofs.Ytnkeijdpjcclcaa.Kit
-- Ins
/- slices.Insert's words: cuts, copies, zeros behind a row; elements of k cells. -/
namespace Go.Proofs.Ytnkeijdpjcclcaa.Kit
set_option linter.unusedVariables false
set_option linter.unusedSimpArgs false
open Go.RowKit Go.ChangeShapes Go.WideShapes Go.Proofs.YtnkeijdpjcclcaaW.PrintWords Go.Proofs.YtnkeijdpjcclcaaW.PrintLast Go.Proofs.YtnkeijdpjcclcaaW.PrintMore
section
variable {P : Program} {t e : TypeId} {k : Nat}
theorem sty_elem (T : StTy P t e k) : P.elem t = e := by simp [Program.elem, T.und]
theorem sty_und (T : StTy P t e k) : P.underlying t = some (.slice (P.elem t)) := by rw [sty_elem T]; exact T.und
/-- s[lo:] of a block's row. -/
theorem cut_lo (T : StTy P t e k) (g n c lo : Nat) (hlo : lo ≤ n) (hc : lo < c) (kd : IntKind) (j : Int) (hj : j = (lo : Int)) (W : World) :
    (Instr.sliceAt t (.slice (some ⟨g, 0, none⟩) n c) (some (.int kd j)) none none).run P W = .ok (.slice (some ⟨g, lo * k, none⟩) (n - lo) (c - lo)) W := by
  rw [hj, run_sliceAt_slice W t _ _ _ _ (sty_und T), run_slice_l W t _ n c (sty_und T) kd lo (by omega) (by omega), st_sizeOf T]
  have h1 : ¬ (c = lo) := by omega
  simp [sliced, Result.andThen, h1, Go.Proofs.YtnkeijdpjcclcaaW.PrintWords.add_plain]
/-- s[:hi]. -/
theorem cut_hi (T : StTy P t e k) (A : Option Addr) (n c hi : Nat) (hh : hi ≤ c) (kd : IntKind) (j : Int) (hj : j = (hi : Int)) (W : World) :
    (Instr.sliceAt t (.slice A n c) none (some (.int kd j)) none).run P W = .ok (.slice A hi c) W := by
  have ha : (A.map fun x => x.add 0) = A := by cases A <;> simp [Addr.add]
  rw [hj, run_sliceAt_slice W t _ _ _ _ (sty_und T), run_slice_h W t A n c (sty_und T) kd hi (by omega) (by omega), st_sizeOf T]
  simp [sliced, Result.andThen, ha]
/-- copy into a block's row, from whatever is read. -/
theorem copy_run (T : StTy P t e k) {W : World} {g o dl dc sl sc : Nat} {a : Addr} {cur cs : List Value} (hg : W.heap[g]? = some (.cells cur.toArray e (0, 0))) (hn : cs.length = Nat.min sl dl * k) (hsrc : ∀ (j : Nat) (v : Value), cs[j]? = some v → W.cell? (a.add j) = some v) (hl : o + cs.length ≤ cur.length) (h1 : ∀ v ∈ cs, v.oneCell' = true) (ty : TypeId) :
    ∃ W', (Builtin.copy_ #[t, t] ty #[.slice (some ⟨g, o, none⟩) dl dc, .slice (some a) sl sc]).run P W = .ok (goInt (Nat.min sl dl)) W' ∧ Set1 W g (.cells (cur.take o ++ cs ++ cur.drop (o + cs.length)).toArray e (0, 0)) W' := by
  have hld := run_loadCells_list (P := P) W a cs hsrc
  have hst := run_storeCells_at (P := P) g o e cs 0 cur.toArray W hg (by simpa using hl) h1
  have hsz := T.size
  cases hq : P.info? e with
  | none => simp [hq] at hsz
  | some i =>
    have hi : i.size = k := by simpa [hq] using hsz
    refine ⟨_, ?_, set1_row (cs := (cur.take o ++ cs ++ cur.drop (o + cs.length)).toArray) hg⟩
    simp only [Nat.add_zero] at hst
    simp [Builtin.copy_, run_underlying T.und, Builtin.lenOf, Builtin.firstCells, sizeOf, typeInfo, hq, hi, ← hn, hld, hst]
theorem run_copy_op {o : Oper} {l : List (Nat × Value)} {d s : Operand} {ts : Array TypeId} {u v v1 : Value} {w w1 : World} (ho : o.op = .call { callee := .builtin .copy, args := #[d, s], argTypes := ts }) (hd : lk l d = v) (hs : lk l s = u)
    (hrun : (Builtin.copy_ ts o.type #[v, u]).run P w = .ok v1 w1) : (execOp (lk l) o).run P w = .ok (.value v1) w1 := by
  unfold execOp
  simp [ho, resolve, invoke, builtin, hd, hs, hrun]
/-- append(s[:i], make([]T, m)...), where there is no room. -/
theorem zeros_run {bytes : Nat} {z : Value} (T : EType P t e k bytes z) {tn : TypeId} {kn : IntKind} (htn : P.underlying tn = some (.int kn)) {W : World} {g cap i m : Nat} {cur : List Value} {kq : IntKind} (hg : W.heap[g]? = some (.cells cur.toArray e (0, 0))) (hcur : cur.length = cap * k) (hi : i ≤ cap) (hm : 0 < m) (hgrow : cap < i + m) (hbig : (i + m) * bytes ≤ 140737488355328) (h63 : i + m ≤ maxLen) (ty : TypeId) :
    ∃ (W' : World) (cap' : Nat) (rest : List Value), (Builtin.append_ #[t, tn] ty #[.slice (some ⟨g, 0, none⟩) i cap, .int kq (m : Nat)]).run P W = .ok (.slice (some ⟨W.heap.size, 0, none⟩) (i + m) cap') W' ∧ Below W.heap.size W W' ∧ i + m ≤ cap' ∧ cap' ≤ maxLen ∧ rest.length = (cap' - i) * k ∧ W'.heap[W.heap.size]? = some (.cells (cur.take (i * k) ++ rest).toArray e (0, 0)) ∧ W'.heap.size = W.heap.size + 1 := by
  have hin := T.info
  have hp := T.pos
  cases hq : P.info? e with
  | none => rw [hq] at hin; simp at hin
  | some info =>
    rw [hq] at hin
    simp only [Option.map_some, Option.some.injEq, Prod.mk.injEq] at hin
    obtain ⟨i1, i2, i3⟩ := hin
    have hik : i * k ≤ cur.length := by rw [hcur]; exact Nat.mul_le_mul_right _ hi
    have hold : (Builtin.firstCells info.size i (.slice (some ⟨g, 0, none⟩) i cap)).run P W.drew = .ok (cur.take (i * k)).toArray W.drew := by
      rw [i2]
      exact run_firstCells_some W.drew k i ⟨g, 0, none⟩ i cap _ (by rw [List.length_take]; omega) (fun j v hj => by
        rw [Go.Proofs.YtnkeijdpjcclcaaW.PrintWords.add_plain]
        show W.cell? _ = _
        simp only [World.cell?, hg]
        rw [List.getElem?_take] at hj
        split at hj
        · simpa using hj
        · cases hj)
    have hge := grownCap_ge W (i + m) cap e
    have hrun := Lib.run_append_grow_zeros (P := P) W t tn ty e info z kq kn T.und htn hq i1 (some ⟨g, 0, none⟩) i cap (cur.take (i * k)) hold m hm (by rw [i2]; exact hp) hgrow (by simp only [maxLen] at h63; omega) (by rw [i3]; have := Nat.mul_le_mul_right bytes (show m ≤ i + m by omega); omega) (by rw [i3]; exact growslice_fits hgrow hbig)
    refine ⟨_, _, (Builtin.zeroCells z.cells m).toList ++ (Builtin.zeroCells z.cells (grownCap W (i + m) cap e - (i + m))).toList, hrun, below_alloc (below_drew (Below.refl _ _)) _, hge, grownCap_le_maxLen _ _ _ _ h63, ?_, ?_, (Array.size_push _)⟩
    · simp only [List.length_append, Array.length_toList, Builtin.zeroCells, Array.size_map, Array.size_range, T.zs]
      rw [← Nat.add_mul]
      congr 1
      omega
    · have := heap_alloc_new W.drew (.cells ((cur.take (i * k)).toArray ++ Builtin.zeroCells z.cells m ++ Builtin.zeroCells z.cells (grownCap W (i + m) cap e - (i + m))) e)
      rw [show W.drew.heap.size = W.heap.size from rfl] at this
      rw [this]
      congr 2
      apply Array.toList_inj.1
      simp [List.append_assoc]
/-- slices.overlaps of rows in two blocks. -/
theorem op_overlaps {o : Oper} {l : List (Nat × Value)} {ags : Array Operand} {ts : Array TypeId} {f : FuncId} {fn : Func} {tR : TypeId} (T : StTy P t e k) (hop : o.op = .call { callee := .value (.func f), args := ags, argTypes := ts }) (hf : P.funcs[f]? = some fn) (hname : (fn.name == "runtime.NumGoroutine") = false) (hb : fn.body.isNone = true) (hn : Extern.findNext fn = none) (he : Extern.find fn = some (Extern.SlicesOverlaps.overlaps #[t, t] #[tR]))
    {w : World} {ga oa la ca gb ob lb cb : Nat} {ea eb : TypeId} {va : List Value} {vb : List Value} (hargs : ags.map (lk l) = #[.slice (some ⟨ga, oa, none⟩) la ca, .slice (some ⟨gb, ob, none⟩) lb cb]) (hne : ga ≠ gb)
    (hA : w.heap[ga]? = some (.cells va.toArray ea (0, 0))) (hB : w.heap[gb]? = some (.cells vb.toArray eb (0, 0))) (hpos : vb.length ≠ 0) : (execOp (lk l) o).run P w = .ok (.value (.bool false)) w := by
  have hov := Lib.run_overlaps_apart (P := P) w t tR e T.und k (fun w => by have := st_sizeOf T w; rwa [sty_elem T] at this) ⟨ga, oa, none⟩ ⟨gb, ob, none⟩ la ca lb cb hne ea eb va.length vb.length (by simp [World.shape?, hA]) (by simp [World.shape?, hB]) hpos (by simp [World.frozen?, hA]) (by simp [World.frozen?, hA])
  have hcall : (callFunc f #[.slice (some ⟨ga, oa, none⟩) la ca, .slice (some ⟨gb, ob, none⟩) lb cb]).run P w = .ok (.value (.bool false)) w := by
    rw [run_callFunc_extern hf hname hb hn he, hov]
    rfl
  unfold execOp
  simp [hop, resolve, Deferred.ofValue, invoke, lk, hargs, hcall]
/-- A block's row is own. -/
theorem own_cells {α : Type} {enc : α → List Value} (hk : ∀ x, (enc x).length = k) {W : World} {g cap B : Nat} {ys : List α} {R : List Value} (h : W.heap[g]? = some (.cells (ys.flatMap enc ++ R).toArray e (0, 0))) (hl : (ys.flatMap enc ++ R).length = cap * k) (hy : ys.length ≤ cap) (hm : cap ≤ maxLen) (hB : B ≤ g) :
    OwnK enc k e W B (.slice (some ⟨g, 0, none⟩) ys.length cap) ys :=
  ⟨flat_length hk ys, .inr ⟨g, cap, _, rfl, hB, h, hy, hm, by simpa using hl, by rw [← flat_length hk ys]; simp⟩⟩
theorem own_block {α : Type} {enc : α → List Value} {w : World} {B : Nat} {v : Value} {xs : List α} (h : OwnK enc k e w B v xs) (hx : 0 < xs.length) : ∃ (g cap : Nat) (cur : List Value), v = .slice (some ⟨g, 0, none⟩) xs.length cap ∧ B ≤ g ∧ w.heap[g]? = some (.cells cur.toArray e (0, 0)) ∧ xs.length ≤ cap ∧ cap ≤ maxLen ∧ cur.length = cap * k ∧ cur.take (xs.length * k) = xs.flatMap enc := by
  rcases h.2 with ⟨_, hn⟩ | ⟨g, cap, cur, h1, h2, h3, h4, h5, h6, h7⟩
  · omega
  · exact ⟨g, cap, cur.toList, h1, h2, by simpa using h3, h4, h5, by simpa using h6, h7⟩
/-- s[lo:], whatever s. -/
theorem cut_any (T : StTy P t e k) (A : Option Addr) (n c lo : Nat) (hlo : lo ≤ n) (hc : n ≤ c) (kd : IntKind) (j : Int) (hj : j = (lo : Int)) : ∃ A' : Option Addr, ∀ W : World, (Instr.sliceAt t (.slice A n c) (some (.int kd j)) none none).run P W = .ok (.slice A' (n - lo) (c - lo)) W := by
  refine ⟨if c = lo then A else A.map (·.add (lo * k)), fun W => ?_⟩
  rw [hj, run_sliceAt_slice W t _ _ _ _ (sty_und T), run_slice_l W t A n c (sty_und T) kd lo (by omega) (by omega), st_sizeOf T]
  simp [sliced, Result.andThen]
theorem grown_below {w W : World} {row : Option Nat} (h : Below w.heap.size w W) : w.grownBy W row := ⟨h.os, h.tape, h.output, h.size, fun k hk _ => h.block k hk⟩
theorem grown_then {w W W' : World} {row : Option Nat} (h : w.grownBy W row) (hb : Below W.heap.size W W') : w.grownBy W' row :=
  ⟨hb.os.trans h.os, hb.tape.trans h.tape, hb.output.trans h.output, Nat.le_trans h.size hb.size, fun k hk hr => (hb.block k (Nat.lt_of_lt_of_le hk h.size)).trans (h.block k hk hr)⟩
theorem grown_set {w W W' : World} {g : Nat} {o : Obj} (h : w.grownBy W (some g)) (hs : Set1 W g o W') : w.grownBy W' (some g) :=
  ⟨hs.os.trans h.os, hs.tape.trans h.tape, hs.output.trans h.output, by rw [hs.size]; exact h.size, fun k hk hr => (hs.other k (fun e => hr (by rw [e]))).trans (h.block k hk hr)⟩
/-- append(s[:i], x...) where there is room: in place, from whatever is read (the same block too). -/
theorem append_in (T : StTy P t e k) {W : World} {g cap i m c' : Nat} {a : Addr} {cur cs : List Value} (hg : W.heap[g]? = some (.cells cur.toArray e (0, 0))) (hsrc : ∀ (j : Nat) (v : Value), cs[j]? = some v → W.cell? (a.add j) = some v) (hcs : cs.length = m * k) (hroom : i + m ≤ cap) (hl : i * k + cs.length ≤ cur.length) (h1 : ∀ v ∈ cs, v.oneCell' = true) (ty : TypeId) :
    ∃ W', (Builtin.append_ #[t, t] ty #[.slice (some ⟨g, 0, none⟩) i cap, .slice (some a) m c']).run P W = .ok (.slice (some ⟨g, 0, none⟩) (i + m) cap) W' ∧ Set1 W g (.cells (cur.take (i * k) ++ cs ++ cur.drop (i * k + cs.length)).toArray e (0, 0)) W' := by
  have hld := run_loadCells_list (P := P) W a cs hsrc
  have hst := run_storeCells_at (P := P) g (i * k) e cs 0 cur.toArray W hg (by simpa using hl) h1
  have hsz := T.size
  cases hq : P.info? e with
  | none => simp [hq] at hsz
  | some info =>
    have hi : info.size = k := by simpa [hq] using hsz
    refine ⟨_, ?_, set1_row (cs := (cur.take (i * k) ++ cs ++ cur.drop (i * k + cs.length)).toArray) hg⟩
    simp only [Nat.add_zero] at hst
    simp [Builtin.append_, run_underlying T.und, Builtin.lenOf, Builtin.firstCells, sizeOf, typeInfo, hq, hi, ← hcs, hld, hst, hroom, Go.Proofs.YtnkeijdpjcclcaaW.PrintWords.add_plain]
/-- s[lo:hi] of a block's row. -/
theorem cut_both (T : StTy P t e k) (g n c lo hi : Nat) (hlo : lo ≤ hi) (hh : hi ≤ c) (hc : lo < c) (kd kd2 : IntKind) (j j2 : Int) (hj : j = (lo : Int)) (hj2 : j2 = (hi : Int)) (W : World) :
    (Instr.sliceAt t (.slice (some ⟨g, 0, none⟩) n c) (some (.int kd j)) (some (.int kd2 j2)) none).run P W = .ok (.slice (some ⟨g, lo * k, none⟩) (hi - lo) (c - lo)) W := by
  rw [hj, hj2, run_sliceAt_slice W t _ _ _ _ (sty_und T), run_slice_lh W t _ n c (sty_und T) kd kd2 lo hi (by omega) (by omega) (by omega), st_sizeOf T]
  have h1 : ¬ (c = lo) := by omega
  simp [sliced, Result.andThen, h1, Go.Proofs.YtnkeijdpjcclcaaW.PrintWords.add_plain]
/-- s[lo:], the pointer where nothing is left too. -/
theorem cut_lo' (T : StTy P t e k) (g n c lo : Nat) (hlo : lo ≤ n) (hc : n ≤ c) (kd : IntKind) (j : Int) (hj : j = (lo : Int)) (W : World) :
    (Instr.sliceAt t (.slice (some ⟨g, 0, none⟩) n c) (some (.int kd j)) none none).run P W = .ok (.slice (some ⟨g, if c = lo then 0 else lo * k, none⟩) (n - lo) (c - lo)) W := by
  rw [hj, run_sliceAt_slice W t _ _ _ _ (sty_und T), run_slice_l W t _ n c (sty_und T) kd lo (by omega) (by omega), st_sizeOf T]
  by_cases h1 : c = lo
  · simp [sliced, Result.andThen, h1]
  · simp [sliced, Result.andThen, h1, Go.Proofs.YtnkeijdpjcclcaaW.PrintWords.add_plain]
/-- clear of a row's part. -/
theorem clear_run {bytes : Nat} {z : Value} (T : EType P t e k bytes z) {W : World} {g o m c : Nat} {cur : List Value} (hm : 0 < m) (hg : W.heap[g]? = some (.cells cur.toArray e (0, 0))) (hl : o + (Builtin.zeroCells z.cells m).toList.length ≤ cur.length) (h1 : ∀ v ∈ (Builtin.zeroCells z.cells m).toList, v.oneCell' = true) (ty : TypeId) :
    ∃ W', (Builtin.clear_ #[t] ty #[.slice (some ⟨g, o, none⟩) m c]).run P W = .ok (.tuple #[]) W' ∧ Set1 W g (.cells (cur.take o ++ (Builtin.zeroCells z.cells m).toList ++ cur.drop (o + (Builtin.zeroCells z.cells m).toList.length)).toArray e (0, 0)) W' := by
  have hst := run_storeCells_at (P := P) g o e (Builtin.zeroCells z.cells m).toList 0 cur.toArray W hg (by simpa using hl) h1
  have hin := T.info
  cases hq : P.info? e with
  | none => rw [hq] at hin; simp at hin
  | some info =>
    rw [hq] at hin
    simp only [Option.map_some, Option.some.injEq, Prod.mk.injEq] at hin
    refine ⟨_, ?_, set1_row (cs := (cur.take o ++ (Builtin.zeroCells z.cells m).toList ++ cur.drop (o + (Builtin.zeroCells z.cells m).toList.length)).toArray) hg⟩
    simp only [Nat.add_zero] at hst
    obtain ⟨m', rfl⟩ : ∃ m', m = m' + 1 := ⟨m - 1, by omega⟩
    simp [Builtin.clear_, run_underlying T.und, zeroValue, typeInfo, hq, hin.1, hst]
theorem run_clear_op {o : Oper} {l : List (Nat × Value)} {d : Operand} {ts : Array TypeId} {v v1 : Value} {w w1 : World} (ho : o.op = .call { callee := .builtin .clear, args := #[d], argTypes := ts }) (hd : lk l d = v)
    (hrun : (Builtin.clear_ ts o.type #[v]).run P w = .ok v1 w1) : (execOp (lk l) o).run P w = .ok (.value v1) w1 := by
  unfold execOp
  simp [ho, resolve, invoke, builtin, hd, hrun]
/-- A store of one cell, into a block. -/
theorem ob_store_blk {o : Oper} {x y : Operand} {ty : TypeId} {w : World} {dsts : List (Option Tmp)} {vs : Nat → Value} {a0 : Act} {R : Value → World → Prop} (l : List (Nat × Value)) {g i : Nat} {v : Value} {old : List Value} {t : TypeId} (hw : Wants o vs = true) (hv : Vs (rho dsts vs a0) l) (hc : covers o (l.map (·.1)) = true)
    (ho : o.op = .store ty x y) (hx : lk l x = .pointer (some ⟨g, i, none⟩)) (hy : lk l y = v) (hv1 : v.oneCell' = true) (hg : w.heap[g]? = some (.cells old.toArray t (0, 0))) (hl : i < old.length) (hi : (P.info? ty).map (·.size) = some 1)
    (hR : ∀ w', Set1 w g (.cells (old.set i v).toArray t (0, 0)) w' → R undef w') : Ob P dsts o vs a0 w R := by
  have hcell : w.cell? ⟨g, i, none⟩ = some old[i] := by simp [World.cell?, hg, hl]
  refine ob_store_cell l hw hv hc ho hx hy hv1 hcell (by simp [World.frozen?, hg]) hi (hR _ ?_)
  rw [setCell_eq_setRow w g i old.toArray t (0, 0) v hg, show old.toArray.setIfInBounds i v = (old.set i v).toArray by simp]
  exact set1_row hg
end
end Go.Proofs.Ytnkeijdpjcclcaa.Kit
