/- Words of this seat's own walks: rows of whole numbers that the call owns (append, literals), what is read kept; small facts. -/
import Derived.Test.YtnkeijdpjcclcaaProg
import Derived.Below
import Derived.Deep.Draws
import Derived.Deep.AppendLies
import Derived.Maps.AppendAt
import Derived.OwnWalk
import Derived.Laws.BytesArg
import Derived.Laws.MakeOwn
import Derived.Laws.OwnMore
import Derived.Deep.OwnRows
import Derived.Tactics
import Derived.Lib.ConvBytes
import Derived.Laws.Slices
import Derived.WalkKit
import Derived.KernelRfl
import Derived.RowKit3
import Derived.Deep.LoopGhost
import Derived.Deep.QuietTactic
import Derived.BigQuiet
import Derived.WideLaws
import Derived.Deep.DeepCutAuto
import Derived.Deep.CutBlock
import Derived.Deep.RegionHeld3
import Derived.Laws.Rows
import Derived.Lib.AppendStr
import Derived.ArgAppend
import Derived.Laws.IdiomCopy
import Derived.OrdersHeld
import Derived.Laws.BitsLemmas
import Derived.Laws.BitsAllLaws
import Derived.RowKit
import Derived.Outline
import Derived.Lib.Hide
import Derived.Lib.SlBytesConst
import Derived.Test.YtnkeijdpjcclcaaWWords
import Derived.Test.YtnkeijdpjcclcaaWLast
import Derived.Test.YtnkeijdpjcclcaaWTab
import Derived.Test.YtnkeijdpjcclcaaWFour
import Derived.Test.YtnkeijdpjcclcaaWMore
namespace Go.Proofs.Ytnkeijdpjcclcaa.Kit
set_option linter.unusedVariables false
open Go.RowKit Go.Proofs.YtnkeijdpjcclcaaW.PrintWords Go.Proofs.YtnkeijdpjcclcaaW.PrintLast Go.Proofs.YtnkeijdpjcclcaaW.PrintMore

theorem ret_int {k : IntKind} {a b : Int} (h : a = b) : Ending.returned (.int k a) = .returned (.int k b) := by rw [h]
theorem ret_bool {a b : Bool} (h : a = b) : Ending.returned (.bool a) = .returned (.bool b) := by rw [h]

/-- A slice type of one-cell elements, as the program's tables have it: z the element's zero. -/
structure SlTy (P : Program) (t e : TypeId) (z : Value) (bytes : Nat) : Prop where
  und : P.underlying t = some (.slice e)
  info : (P.info? e).map (fun i => (i.zero, i.size, i.bytes)) = some (some z, 1, bytes)
  one : z.cells.size = 1
  pos : 0 < bytes

theorem int_one (k : IntKind) : ∀ x : Int, (Value.int k x).oneCell' = true := fun _ => rfl
theorem str_one : ∀ x : ByteArray, (Value.string x).oneCell' = true := fun _ => rfl

/-- A row of one-cell elements of the call's own. -/
abbrev OwnE {α : Type} (enc : α → Value) (h1 : ∀ x, (enc x).oneCell' = true) (e : TypeId) (w : World) (B : Nat) (v : Value) (xs : List α) : Prop := Kd.R (Kd.scalar enc h1) e w B (fun _ => True) v xs
/-- .. that is read. -/
abbrev RdsE {α : Type} (enc : α → Value) (h1 : ∀ x, (enc x).oneCell' = true) (w : World) (A : Option Addr) (n : Nat) (xs : List α) : Prop := Kd.C (Kd.scalar enc h1) w A n xs
/-- Of whole numbers. -/
abbrev Own (k : IntKind) (e : TypeId) (w : World) (B : Nat) (v : Value) (xs : List Int) : Prop := OwnE (Value.int k) (int_one k) e w B v xs
abbrev Rds (k : IntKind) (w : World) (A : Option Addr) (n : Nat) (xs : List Int) : Prop := RdsE (Value.int k) (int_one k) w A n xs
/-- Of texts. -/
abbrev OwnS (e : TypeId) (w : World) (B : Nat) (v : Value) (xs : List ByteArray) : Prop := OwnE Value.string str_one e w B v xs
abbrev RdsS (w : World) (A : Option Addr) (n : Nat) (xs : List ByteArray) : Prop := RdsE Value.string str_one w A n xs

/-- What an append has done: it wrote the row's own block alone, or laid a new one. -/
structure Fr (W w1 : World) (v v1 : Value) : Prop where
  grown : W.grownBy w1 v.ownBlock
  at_ : v1.ownBlock = v.ownBlock ∨ ∃ b, v1.ownBlock = some b ∧ W.heap.size ≤ b
/-- Two rows lie apart. -/
structure Apart (u v : Value) : Prop where
  out : u.ownBlock = none ∨ v.ownBlock = none ∨ u.ownBlock ≠ v.ownBlock

section
variable {α β : Type} {enc : α → Value} {h1 : ∀ x, (enc x).oneCell' = true} {enc' : β → Value} {h1' : ∀ x, (enc' x).oneCell' = true}
theorem Apart.symm {u v : Value} (h : Apart u v) : Apart v u := ⟨by
  rcases h.out with h | h | h
  · exact .inr (.inl h)
  · exact .inl h
  · exact .inr (.inr (Ne.symm h))⟩
theorem Apart.nil (u : Value) : Apart u (.slice none 0 0) := ⟨.inr (.inl rfl)⟩
theorem Apart.ne {u v : Value} (h : Apart u v) : u.ownBlock = none ∨ u.ownBlock ≠ v.ownBlock := by
  rcases h.out with h | h | h
  · exact .inl h
  · rw [h]
    cases hu : u.ownBlock with
    | none => exact .inl rfl
    | some _ => exact .inr (by simp)
  · exact .inr h
theorem Fr.keep {W w1 : World} {v v1 u : Value} {e : TypeId} {B : Nat} {xs : List α} (h : Fr W w1 v v1) (hu : OwnE enc h1 e W B u xs) (ha : Apart u v) : OwnE enc h1 e w1 B u xs :=
  Kd.R_of_own (own_other (Kd.own_of_R hu) h.grown ha.ne) (fun _ _ => trivial)
theorem Fr.apart {W w1 : World} {v v1 u : Value} {e : TypeId} {B : Nat} {xs : List α} (h : Fr W w1 v v1) (hu : OwnE enc h1 e W B u xs) (ha : Apart u v) : Apart u v1 := ⟨by
  rcases h.at_ with h2 | ⟨b, hb, hle⟩
  · rw [h2]; exact ha.out
  · cases hk : u.ownBlock with
    | none => exact .inl rfl
    | some k =>
      have := own_lt (Kd.own_of_R hu) k hk
      exact .inr (.inr (by rw [hb]; intro he; injection he with he; omega))⟩
theorem Fr.size {W w1 : World} {v v1 : Value} (h : Fr W w1 v v1) : W.heap.size ≤ w1.heap.size := h.grown.size
/-- A row that was made behind another one lies apart from it. -/
theorem apart_new {W : World} {u v : Value} {e : TypeId} {B : Nat} {xs : List α} (hu : OwnE enc h1 e W B u xs) (hv : ∀ k, v.ownBlock = some k → W.heap.size ≤ k) : Apart u v := ⟨by
  cases hk : u.ownBlock with
  | none => exact .inl rfl
  | some k =>
    have := own_lt (Kd.own_of_R hu) k hk
    refine .inr (.inr fun he => ?_)
    have := hv k he.symm
    omega⟩
theorem own_e_nil (e : TypeId) (w : World) (B : Nat) : OwnE enc h1 e w B (.slice none 0 0) [] := Kd.R_nil _ _ _ _ _
theorem own_e_lit (e : TypeId) (w : World) (B : Nat) (xs : List α) (n : Nat) (hn : xs.length = n) (hB : B ≤ w.heap.size) (hm : xs.length ≤ 9223372036854775807) :
    OwnE enc h1 e (w.alloc (.cells (encs enc xs).toArray e)) B (.slice (some ⟨w.heap.size, 0, none⟩) n n) xs := by
  subst hn
  exact Kd.R_of_own (own_lit_of w B e xs hB hm) (fun _ _ => trivial)
theorem own_lower {e : TypeId} {w : World} {B B' : Nat} {v : Value} {xs : List α} (h : OwnE enc h1 e w B v xs) (hb : B' ≤ B) : OwnE enc h1 e w B' v xs := Kd.R_lower h hb
theorem own_below {e : TypeId} {w w' : World} {B : Nat} {v : Value} {xs : List α} (h : OwnE enc h1 e w B v xs) (hb : Below w.heap.size w w') : OwnE enc h1 e w' B v xs := Kd.R_below h hb
/-- What is owned, as a slice that is read. -/
theorem own_open {e : TypeId} {w : World} {B : Nat} {v : Value} {xs : List α} (h : OwnE enc h1 e w B v xs) :
    ∃ A n c, v = .slice A n c ∧ n ≤ c ∧ Hid (xs.length = n) ∧ n ≤ 9223372036854775807 ∧ RdsE enc h1 w A n xs := by
  obtain ⟨A, c, e1, h1, h2⟩ := Kd.R_reads h
  exact ⟨A, xs.length, c, e1, h1, Lib.hid rfl, Kd.C_max h2, h2⟩
/-- A row that isn't empty lies in a block of its own. -/
theorem own_form {e : TypeId} {w : World} {B : Nat} {v : Value} {xs : List α} (h : OwnE enc h1 e w B v xs) (hp : 0 < xs.length) :
    ∃ g n cap, v = .slice (some ⟨g, 0, none⟩) n cap ∧ Hid (xs.length = n) ∧ 0 < n ∧ n ≤ 9223372036854775807 ∧ n ≤ cap ∧ B ≤ g ∧ g < w.heap.size := by
  obtain ⟨g, cap, rfl, h2, h3, _⟩ := Kd.R_form h hp
  obtain ⟨_, h4, h5⟩ := Kd.R_reads' h
  exact ⟨g, xs.length, cap, rfl, Lib.hid rfl, hp, Kd.C_max h5, h4, h2, h3⟩
theorem own_cell (d : α) {e : TypeId} {w : World} {B g n cap : Nat} {xs : List α} (h : OwnE enc h1 e w B (.slice (some ⟨g, 0, none⟩) n cap) xs) (k : Nat) (hk : k < n) :
    w.cell? ⟨g, k, none⟩ = some (enc (xs.getD k d)) ∧ w.frozen? ⟨g, k, none⟩ = false := by
  have := Kd.R_celln d h (k : Int) (by omega) (by omega)
  rwa [Int.toNat_natCast] at this
theorem own_set {e : TypeId} {w : World} {B g n cap : Nat} {xs : List α} (h : OwnE enc h1 e w B (.slice (some ⟨g, 0, none⟩) n cap) xs) (k : Nat) (x : α) :
    OwnE enc h1 e (w.setCell ⟨g, k, none⟩ (enc x)) B (.slice (some ⟨g, 0, none⟩) n cap) (xs.set k x) := by
  have := Kd.R_putn h (k : Int) x
  rwa [Int.toNat_natCast] at this
/-- Another row lives on where a cell of this one is written. -/
theorem set_keep {e : TypeId} {w : World} {B g n cap k : Nat} {x : Value} {u : Value} {xs : List α} (h : OwnE enc h1 e w B u xs) (ha : Apart u (.slice (some ⟨g, 0, none⟩) n cap)) :
    OwnE enc h1 e (w.setCell ⟨g, k, none⟩ x) B u xs := by
  have hne : ∀ j, u.ownBlock = some j → j ≠ g := by
    intro j hj
    rcases ha.out with h2 | h2 | h2
    · rw [h2] at hj; cases hj
    · cases h2
    · rintro rfl; exact h2 hj
  exact Kd.R_of_own (own_move (Kd.own_of_R h) (fun j hj => Below.heap_setCell w ⟨g, k, none⟩ x j (hne j hj))) (fun _ _ => trivial)
theorem rds_nil (w : World) (A : Option Addr) : RdsE enc h1 w A 0 [] := ⟨rfl, by omega, fun h => absurd h (by omega)⟩
theorem rds_below {w w' : World} {A : Option Addr} {n : Nat} {xs : List α} (h : RdsE enc h1 w A n xs) (hb : Below w.heap.size w w') : RdsE enc h1 w' A n xs := Kd.C_below h hb
theorem rds_drewN {w : World} {A : Option Addr} {n : Nat} {xs : List α} (h : RdsE enc h1 w A n xs) (N : Nat) : RdsE enc h1 (w.drewN N) A n xs := Kd.C_drewN h N
theorem rds_take (d : α) {w : World} {A : Option Addr} {n : Nat} {xs : List α} (h : RdsE enc h1 w A n xs) (i : Nat) (hi : i ≤ n) : RdsE enc h1 w A i (xs.take i) := Kd.C_of_reads (d := d) ((Kd.reads_of_C h).take_ i hi)
theorem rds_drop (d : α) {w : World} {A : Option Addr} {n c : Nat} {xs : List α} (h : RdsE enc h1 w A n xs) (i : Nat) (hi : i ≤ n) (hc : n ≤ c) : RdsE enc h1 w (if c = i then A else A.map (·.add i)) (n - i) (xs.drop i) :=
  Kd.C_of_reads (d := d) ((Kd.reads_of_C h).drop_ i hi hc)
theorem rds_len {w : World} {A : Option Addr} {n : Nat} {xs : List α} (h : RdsE enc h1 w A n xs) : xs.length = n := h.1
theorem rds_max {w : World} {A : Option Addr} {n : Nat} {xs : List α} (h : RdsE enc h1 w A n xs) : n ≤ 9223372036854775807 := h.2.1
/-- One element that is read. -/
theorem rds_at (d : α) {w : World} {A : Option Addr} {n : Nat} {xs : List α} (h : RdsE enc h1 w A n xs) (k : Nat) (hk : k < n) : ∃ ad, A = some ad ∧ w.cell? (ad.add k) = some (enc (xs.getD k d)) := by
  obtain ⟨ad, e1, hc⟩ := (Kd.reads_of_C (d := d) h).2.2 (by omega)
  exact ⟨ad, e1, hc k hk⟩
/-- A slice of a block that the call has just laid. -/
theorem rds_lit (w : World) (t : TypeId) (fr : Nat × Nat) (d : α) (l : List α) (hn : l.length ≤ 9223372036854775807) (n : Nat) (hl : l.length = n) :
    RdsE enc h1 (w.alloc (.cells (encs enc l).toArray t fr)) (some ⟨w.heap.size, 0, none⟩) n l := by
  subst hl
  refine Kd.C_of_reads (d := d) ⟨rfl, hn, fun _ => ⟨_, rfl, fun j hj => ?_⟩⟩
  rw [add_plain, cell_of_row _ _ j (encs enc l).toArray t fr (heap_alloc_new w _)]
  simp [encs, List.getElem?_eq_getElem hj, List.getD_eq_getElem?_getD]
end

section
variable {P : Program} {ops : Array Oper} {rest : List Oper} {o : Oper} {a : Act} {Q : Exit → Act → World → Prop} {Kc : Act → World → Prop} {α : Type} {enc : α → Value} {h1 : ∀ x, (enc x).oneCell' = true} {z : Value} {t e : TypeId} {bytes : Nat}
/-- append(v, x...), behind at_builtin. -/
theorem app_row (d : α) (T : SlTy P t e z bytes) (hgd : o.guard = none) (s x : Operand) (ho : o.op = .call { callee := .builtin .append, args := #[s, x], argTypes := #[t, t] })
    {w0 W : World} {B : Nat} {v : Value} {xs : List α} {A : Option Addr} {m c : Nat} {ys : List α} (hs : a.eval s = v) (hx : a.eval x = .slice A m c)
    (HO : OwnE enc h1 e W B v xs) (HR : RdsE enc h1 W A m ys) (HB : Below B w0 W) (hbase : B ≤ W.heap.size) (hl : (xs.length + m) * bytes ≤ 140737488355328)
    (h : ∀ v1 w1, OwnE enc h1 e w1 B v1 (xs ++ ys) → Below B w0 w1 → B ≤ w1.heap.size → Fr W w1 v v1 → wpList P ops Q rest (a.put o.dst v1) w1) :
    wpList P ops Q (o :: rest) a W := by
  refine Kd.R_append_row (d := d) enc B hgd s x t e z bytes ho T.und T.info T.one T.pos v xs ys A m c (fun _ => True) hs hx (fun _ _ => trivial) HO HR HB hbase hl ?_
  intro v1 w1 h1 h2 h3 h4
  exact h v1 w1 h1 h2 (Nat.le_trans hbase h3.size) ⟨h3, h4⟩
/-- append(v, x) of one element: the box of the variadic has just been laid. -/
theorem app_one (T : SlTy P t e z bytes) (hgd : o.guard = none) (s x : Operand) (ho : o.op = .call { callee := .builtin .append, args := #[s, x], argTypes := #[t, t] })
    {w0 W : World} {B : Nat} {v : Value} {xs : List α} {p : α} (hs : a.eval s = v) (hx : a.eval x = .slice (some ⟨W.heap.size, 0, none⟩) 1 1)
    (HO : OwnE enc h1 e W B v xs) (HB : Below B w0 W) (hbase : B ≤ W.heap.size) (hl : (xs.length + 1) * bytes ≤ 140737488355328)
    (h : ∀ v1 w1, OwnE enc h1 e w1 B v1 (xs ++ [p]) → Below B w0 w1 → B ≤ w1.heap.size → Fr W w1 v v1 → wpList P ops Q rest (a.put o.dst v1) w1) :
    wpList P ops Q (o :: rest) a (W.alloc (.cells #[enc p] e)) := by
  refine Kd.R_append (Kd.scalar enc h1) (w0 := w0) B hgd s x t e z bytes ho T.und T.info T.one (show 0 < 1 by decide) T.pos v xs p [enc p] (fun _ => True) (fun _ => False) hs hx rfl (fun _ hk => hk.elim) (fun _ _ => trivial) HO HB hbase hl ?_
  intro v1 w1 h1 h2 h3 h4
  exact h v1 w1 h1 h2 (Nat.le_trans hbase h3.size) ⟨h3, h4⟩
/-- The same in a region that draws. -/
theorem app_one_step (T : SlTy P t e z bytes) (hw : Region.wanted o (yielded ops a.tmps) = true) (s x : Operand) (ho : o.op = .call { callee := .builtin .append, args := #[s, x], argTypes := #[t, t] })
    {w0 W : World} {B : Nat} {v : Value} {xs : List α} {p : α} (hs : a.eval s = v) (hx : a.eval x = .slice (some ⟨W.heap.size, 0, none⟩) 1 1)
    (HO : OwnE enc h1 e W B v xs) (HB : Below B w0 W) (hbase : B ≤ W.heap.size) (hl : (xs.length + 1) * bytes ≤ 140737488355328)
    (h : ∀ v1 w1, OwnE enc h1 e w1 B v1 (xs ++ [p]) → Below B w0 w1 → B ≤ w1.heap.size → Fr W w1 v v1 → Kc (a.put o.dst v1) w1) :
    if Region.wanted o (yielded ops a.tmps) = true then Oper.wp P o a (W.alloc (.cells #[enc p] e)) Kc Q else Kc (a.put o.dst undef) (W.alloc (.cells #[enc p] e)) := by
  refine Kd.R_append_step (Kd.scalar enc h1) (w0 := w0) B hw s x t e z bytes ho T.und T.info T.one (show 0 < 1 by decide) T.pos v xs p [enc p] (fun _ => True) (fun _ => False) hs hx rfl (fun _ hk => hk.elim) (fun _ _ => trivial) HO HB hbase hl ?_
  intro v1 w1 h1 h2 h3 h4
  exact h v1 w1 h1 h2 (Nat.le_trans hbase h3.size) ⟨h3, h4⟩
theorem app_row_step (d : α) (T : SlTy P t e z bytes) (hw : Region.wanted o (yielded ops a.tmps) = true) (s x : Operand) (ho : o.op = .call { callee := .builtin .append, args := #[s, x], argTypes := #[t, t] })
    {w0 W : World} {B : Nat} {v : Value} {xs : List α} {A : Option Addr} {m c : Nat} {ys : List α} (hs : a.eval s = v) (hx : a.eval x = .slice A m c)
    (HO : OwnE enc h1 e W B v xs) (HR : RdsE enc h1 W A m ys) (HB : Below B w0 W) (hbase : B ≤ W.heap.size) (hl : (xs.length + m) * bytes ≤ 140737488355328)
    (h : ∀ v1 w1, OwnE enc h1 e w1 B v1 (xs ++ ys) → Below B w0 w1 → B ≤ w1.heap.size → Fr W w1 v v1 → Kc (a.put o.dst v1) w1) :
    if Region.wanted o (yielded ops a.tmps) = true then Oper.wp P o a W Kc Q else Kc (a.put o.dst undef) W := by
  refine Kd.R_append_rows_step (Kd.scalar enc h1) (Rr := fun x cs => cs = [enc x]) (w0 := w0) B hw s x t e z bytes ho T.und T.info T.one (show 0 < 1 by decide) T.pos v xs ys A m c (fun _ => True) (fun _ => False) hs hx HO HR (fun _ _ hq => hq) (fun _ hk => hk.elim) (fun _ _ => trivial) HB hbase hl ?_
  intro v1 w1 h1 h2 h3 h4
  exact h v1 w1 h1 h2 (Nat.le_trans hbase h3.size) ⟨h3, h4⟩
/-- s[lo:], s[:hi], s[lo:hi]: an equation for every world, and what the cut reads. -/
theorem cut_from (d : α) (T : SlTy P t e z bytes) (A : Option Addr) (n c lo m : Nat) (hm : m + lo = n) (hc : n ≤ c) (j : Int) (hj : j = (lo : Int)) :
    ∃ A' : Option Addr, (∀ W : World, (Instr.slice t (.slice A n c) (some (.int .i64 j)) none none).run P W = .ok (.slice A' m (c - lo)) W) ∧ ∀ (w : World) (xs : List α), RdsE enc h1 w A n xs → RdsE enc h1 w A' m (xs.drop lo) := by
  obtain ⟨i0, hi, hzz⟩ := Option.map_eq_some_iff.1 T.info
  simp only [Prod.mk.injEq] at hzz
  obtain ⟨A', h1', h2'⟩ := print_cut_of (P := P) enc d t e .i64 T.und hi hzz.2.1 A n c lo (by omega)
  obtain rfl : m = n - lo := by omega
  exact ⟨A', fun W => by rw [hj]; exact h1' W, fun w xs h => Kd.C_of_reads (d := d) (h2' w xs hc (Kd.reads_of_C h))⟩
theorem cut_to (d : α) (T : SlTy P t e z bytes) (A : Option Addr) (n c hi : Nat) (hh : hi ≤ n) (hc : n ≤ c) (j : Int) (hj : j = (hi : Int)) :
    (∀ W : World, (Instr.slice t (.slice A n c) none (some (.int .i64 j)) none).run P W = .ok (.slice A hi c) W) ∧ ∀ (w : World) (xs : List α), RdsE enc h1 w A n xs → RdsE enc h1 w A hi (xs.take hi) := by
  obtain ⟨i0, hi0, hzz⟩ := Option.map_eq_some_iff.1 T.info
  simp only [Prod.mk.injEq] at hzz
  have hel : P.elem t = e := by simp [Program.elem, T.und]
  have hu : P.underlying t = some (.slice (P.elem t)) := by rw [hel]; exact T.und
  have ha : (A.map fun x => x.add 0) = A := by cases A <;> simp [Addr.add]
  refine ⟨fun W => ?_, fun w xs h => rds_take d h hi hh⟩
  rw [hj, run_slice_h W t A n c hu .i64 hi (by omega) (by omega), hel]
  simp [sizeOf, typeInfo, hi0, hzz.2.1, sliced, Result.andThen, ha]
theorem cut_mid (d : α) (T : SlTy P t e z bytes) (A : Option Addr) (n c lo hi m : Nat) (hm : m + lo = hi) (hh : hi ≤ n) (hc : n ≤ c) (j1 j2 : Int) (hj1 : j1 = (lo : Int)) (hj2 : j2 = (hi : Int)) :
    ∃ A' : Option Addr, (∀ W : World, (Instr.slice t (.slice A n c) (some (.int .i64 j1)) (some (.int .i64 j2)) none).run P W = .ok (.slice A' m (c - lo)) W) ∧ ∀ (w : World) (xs : List α), RdsE enc h1 w A n xs → RdsE enc h1 w A' m ((xs.take hi).drop lo) := by
  obtain ⟨i0, hi0, hzz⟩ := Option.map_eq_some_iff.1 T.info
  simp only [Prod.mk.injEq] at hzz
  have hel : P.elem t = e := by simp [Program.elem, T.und]
  have hu : P.underlying t = some (.slice (P.elem t)) := by rw [hel]; exact T.und
  obtain rfl : m = hi - lo := by omega
  refine ⟨if c = lo then A else A.map (·.add lo), fun W => ?_, fun w xs h => rds_drop d (c := c) (rds_take d h hi hh) lo (by omega) (by omega)⟩
  rw [hj1, hj2, run_slice_lh W t A n c hu .i64 .i64 lo hi (by omega) (by omega) (by omega), hel]
  simp [sizeOf, typeInfo, hi0, hzz.2.1, sliced, Result.andThen]
end
/-- make([]T, m): an equation for every world, and the row that it leaves. -/
theorem make_run {P : Program} {t e : TypeId} {z : Value} {bytes : Nat} (T : SlTy P t e z bytes) (hz : z.cells = #[z]) (m : Nat) (hm : m * bytes ≤ 281474976710656) :
    ∀ W : World, (Instr.makeSlice t (.int .i64 (m : Int)) (.int .i64 (m : Int))).run P W = .ok (.slice (some ⟨W.heap.size, 0, none⟩) m m) (W.alloc (.cells (madeCells #[z] m) e)) := print_make_of t e z bytes T.und T.info hz T.pos m hm
theorem own_of_make (k : IntKind) (e : TypeId) (W : World) (B m : Nat) (hb : B ≤ W.heap.size) (hm : m ≤ 9223372036854775807) :
    Own k e (W.alloc (.cells (madeCells #[.int k 0] m) e)) B (.slice (some ⟨W.heap.size, 0, none⟩) m m) (List.replicate m 0) :=
  Kd.R_of_own (own_made_of' (enc := Value.int k) (d := (0 : Int)) W B e m hb hm) (fun _ _ => trivial)
/-- x & (2^j - 1) of an int, whatever its sign. -/
theorem i64_mask (x : Int) (m : Nat) (hm : m < 9223372036854775808) : ∃ r : Nat, Go.bits .and .i64 x (m : Int) = (r : Int) ∧ r ≤ m := by
  have h1 : (BitVec.ofInt 64 (m : Int)).toNat = m := by rw [BitVec.ofInt_natCast, BitVec.toNat_ofNat]; exact Nat.mod_eq_of_lt (by omega)
  have h2 : (BitVec.ofInt 64 x &&& BitVec.ofInt 64 (m : Int)).toNat ≤ m := by
    rw [BitVec.toNat_and, h1]
    exact Nat.and_le_right
  refine ⟨(BitVec.ofInt 64 x &&& BitVec.ofInt 64 (m : Int)).toNat, ?_, h2⟩
  show IntKind.i64.wrap ((BitVec.ofInt 64 x &&& BitVec.ofInt 64 (m : Int)).toNat : Int) = _
  rw [IntKind.wrap_i64]
  omega
theorem mn_nat (a b : Nat) : mn (a : Int) (b : Int) = ((min a b : Nat) : Int) := by unfold mn; split <;> omega
theorem mx_nat (a b : Nat) : mx (a : Int) (b : Int) = ((max a b : Nat) : Int) := by unfold mx; split <;> omega
/-- min of two and of three, as an equation for every world: m is their least. -/
theorem run_min2 {P : Program} {ats : Array TypeId} {ty : TypeId} (a b : Int) (w : World) : (Builtin.min_ ats ty #[.int .i64 a, .int .i64 b]).run P w = .ok (.int .i64 (mn a b)) w := by
  rw [min_two, min2_int]; simp [mn]
theorem run_max2 {P : Program} {ats : Array TypeId} {ty : TypeId} (a b : Int) (w : World) : (Builtin.max_ ats ty #[.int .i64 a, .int .i64 b]).run P w = .ok (.int .i64 (mx a b)) w := by
  rw [max_two, max2_int]; simp [mx]
theorem run_min3 {P : Program} {ats : Array TypeId} {ty : TypeId} (a b c : Int) (w : World) : (Builtin.min_ ats ty #[.int .i64 a, .int .i64 b, .int .i64 c]).run P w = .ok (.int .i64 (mn (mn a b) c)) w := by
  rw [min_three, min2_int, pure_bind, min2_int]; rfl
/-- Contracts of quiet calls, as go_quiet asks for them. -/
theorem quiet_left {P : Program} {f : FuncId} {args : Array Value} {w : World} {n : Nat} {v : Value}
    (h : Calls P f args (w.drewN n) fun e w' => e = .returned v ∧ w.drewN n = w') : Calls P f args (w.drewN n) fun e w'' => e = .returned v ∧ ∃ m, w'' = w.drewN m :=
  h.mono fun _ _ ⟨he, hm⟩ => ⟨he, n, hm.symm⟩
theorem quiet_add_left {P : Program} {f : FuncId} {args : Array Value} {w : World} {a n : Nat} {v : Value}
    (h : Calls P f args (w.drewN (a + n)) fun e w' => e = .returned v ∧ w.drewN (a + n) = w') :
    Calls P f args (w.drewN (a + n)) fun e w'' => e = .returned v ∧ ∃ m, w'' = w.drewN (a + m) :=
  h.mono fun _ _ ⟨he, hm⟩ => ⟨he, n, hm.symm⟩
theorem below_drewN_ {B : Nat} {w W : World} (h : Below B w W) (n : Nat) : Below B w (W.drewN n) := pw_below_drewN h n
theorem own_lit_ (k : IntKind) (e : TypeId) (w : World) (B : Nat) (xs : List Int) (n : Nat) (hn : xs.length = n) (hB : B ≤ w.heap.size) (hm : xs.length ≤ 9223372036854775807) :
    Own k e (w.alloc (.cells (nums k xs).toArray e)) B (.slice (some ⟨w.heap.size, 0, none⟩) n n) xs := own_e_lit e w B xs n hn hB hm
/-- .. the block's number given. -/
theorem own_lit_at (k : IntKind) (e : TypeId) (w : World) (B : Nat) (xs : List Int) (n g : Nat) (hg : w.heap.size = g) (hn : xs.length = n) (hB : B ≤ w.heap.size) (hm : xs.length ≤ 9223372036854775807) :
    Own k e (w.alloc (.cells (nums k xs).toArray e)) B (.slice (some ⟨g, 0, none⟩) n n) xs := by subst hg; exact own_e_lit e w B xs n hn hB hm
theorem C_lit (w : World) (k : IntKind) (t : TypeId) (fr : Nat × Nat) (l : List Int) (hn : l.length ≤ 9223372036854775807) (n : Nat) (hl : l.length = n) :
    Rds k (w.alloc (.cells (nums k l).toArray t fr)) (some ⟨w.heap.size, 0, none⟩) n l := rds_lit w t fr 0 l hn n hl
end Go.Proofs.Ytnkeijdpjcclcaa.Kit
