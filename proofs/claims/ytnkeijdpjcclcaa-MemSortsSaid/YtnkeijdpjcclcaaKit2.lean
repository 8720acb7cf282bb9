/- More words of this seat's own walks. -/
import Derived.Test.YtnkeijdpjcclcaaKit
import Derived.Test.YtnkeijdpjcclcaaGr
import Derived.Test.YtnkeijdpjcclcaaWGuard
namespace Go.Proofs.Ytnkeijdpjcclcaa.Kit
set_option linter.unusedVariables false
open Go.RowKit Go.Proofs.YtnkeijdpjcclcaaW.PrintWords Go.Proofs.YtnkeijdpjcclcaaW.PrintLast Go.Proofs.YtnkeijdpjcclcaaW.PrintMore

section
variable {P : Program} {ops : Array Oper} {rest : List Oper} {o : Oper} {a : Act} {Q : Exit → Act → World → Prop} {Kc : Act → World → Prop} {α : Type} {enc : α → Value} {h1 : ∀ x, (enc x).oneCell' = true} {z : Value} {t e : TypeId} {bytes : Nat}
/-- append(v, x) of one element: the block's number given. -/
theorem app_one_at (T : SlTy P t e z bytes) (hgd : o.guard = none) (s x : Operand) (ho : o.op = .call { callee := .builtin .append, args := #[s, x], argTypes := #[t, t] })
    {w0 W : World} {B g : Nat} {v : Value} {xs : List α} {p : α} (hs : a.eval s = v) (hx : a.eval x = .slice (some ⟨g, 0, none⟩) 1 1) (hg : W.heap.size = g)
    (HO : OwnE enc h1 e W B v xs) (HB : Below B w0 W) (hbase : B ≤ W.heap.size) (hl : (xs.length + 1) * bytes ≤ 140737488355328)
    (h : ∀ v1 w1, OwnE enc h1 e w1 B v1 (xs ++ [p]) → Below B w0 w1 → B ≤ w1.heap.size → Fr W w1 v v1 → wpList P ops Q rest (a.put o.dst v1) w1) :
    wpList P ops Q (o :: rest) a (W.alloc (.cells #[enc p] e)) := by
  subst hg
  exact app_one T hgd s x ho hs hx HO HB hbase hl h
end
theorem rds_lit_at (k : IntKind) (w : World) (t : TypeId) (fr : Nat × Nat) (l : List Int) (n g : Nat) (hg : w.heap.size = g) (hn : l.length ≤ 9223372036854775807) (hl : l.length = n) :
    Rds k (w.alloc (.cells (nums k l).toArray t fr)) (some ⟨g, 0, none⟩) n l := by subst hg; exact C_lit w k t fr l hn n hl
theorem own_new {k : IntKind} {e : TypeId} {w : World} {B : Nat} {v : Value} {xs : List Int} (h : Own k e w B v xs) : ∀ j, v.ownBlock = some j → B ≤ j := fun j hj => own_base (Kd.own_of_R h) j hj
theorem own_le {k : IntKind} {e : TypeId} {w : World} {B n c : Nat} {A : Option Addr} {xs : List Int} (h : Own k e w B (.slice A n c) xs) : n ≤ c := (Kd.R_reads' h).2.1
theorem own_rds {k : IntKind} {e : TypeId} {w : World} {B n c : Nat} {A : Option Addr} {xs : List Int} (h : Own k e w B (.slice A n c) xs) : Rds k w A n xs := by
  obtain ⟨rfl, _, h2⟩ := Kd.R_reads' h
  exact h2
theorem own_at_base {k : IntKind} {e : TypeId} {w : World} {B n c g : Nat} {xs : List Int} (h : Own k e w B (.slice (some ⟨g, 0, none⟩) n c) xs) : B ≤ g := own_base (Kd.own_of_R h) g rfl
theorem Fr.refl (w : World) (v : Value) : Fr w w v v := ⟨World.grownBy.refl w _, .inl rfl⟩
theorem Fr.below {W w w' : World} {v v1 : Value} (h : Fr W w v v1) (hb : Below w.heap.size w w') : Fr W w' v v1 :=
  ⟨⟨hb.os.trans h.grown.os, hb.tape.trans h.grown.tape, hb.output.trans h.grown.output, Nat.le_trans h.grown.size hb.size, fun i hi hne => (hb.block i (Nat.lt_of_lt_of_le hi h.grown.size)).trans (h.grown.block i hi hne)⟩, h.at_⟩
theorem Fr.alloc {W w : World} {v v1 : Value} (h : Fr W w v v1) (o : Obj) : Fr W (w.alloc o) v v1 := h.below (below_alloc (Below.refl _ _) o)
theorem Fr.drew {W w : World} {v v1 : Value} (h : Fr W w v v1) : Fr W w.drew v v1 := h.below (below_drew (Below.refl _ _))
theorem Fr.trans {W w w' : World} {v v1 v2 : Value} (h : Fr W w v v1) (k : Fr w w' v1 v2) : Fr W w' v v2 := by
  refine ⟨⟨k.grown.os.trans h.grown.os, k.grown.tape.trans h.grown.tape, k.grown.output.trans h.grown.output, Nat.le_trans h.grown.size k.grown.size, fun i hi hne => ?_⟩, ?_⟩
  · refine (k.grown.block i (Nat.lt_of_lt_of_le hi h.grown.size) ?_).trans (h.grown.block i hi hne)
    rcases h.at_ with e | ⟨b, e, hb⟩
    · rw [e]; exact hne
    · rw [e]; intro he; injection he with he; omega
  · rcases k.at_ with e | ⟨b, e, hb⟩
    · rw [e]; exact h.at_
    · exact .inr ⟨b, e, Nat.le_trans h.grown.size hb⟩
/-- From an elder world: nothing of it but the row's block has turned. -/
theorem Fr.from {W0 W w : World} {v v1 : Value} (hb : Below W0.heap.size W0 W) (h : Fr W w v v1) : Fr W0 w v v1 := by
  refine ⟨⟨h.grown.os.trans hb.os, h.grown.tape.trans hb.tape, h.grown.output.trans hb.output, Nat.le_trans hb.size h.grown.size, fun i hi hne => (h.grown.block i (Nat.lt_of_lt_of_le hi hb.size) hne).trans (hb.block i hi)⟩, ?_⟩
  rcases h.at_ with e | ⟨b, e, hbb⟩
  · exact .inl e
  · exact .inr ⟨b, e, Nat.le_trans hb.size hbb⟩
/-- A row of the call's own that is being appended to, behind some steps: what it holds now, and that nothing else has turned. -/
structure App (k : IntKind) (E : TypeId) (w0 w wr : World) (v vr : Value) (xs : List Int) : Prop where
  own : Gr k E wr w0.heap.size vr xs
  bel : Below w0.heap.size w0 wr
  fr : Fr w wr v vr
/-- Bytes. -/
def isByte (l : List Int) : Prop := ∀ x ∈ l, 0 ≤ x ∧ x < 256
theorem wf_u8 {x : Int} (h : (Lit.int .u8 x).wf = true) : 0 ≤ x ∧ x < 256 := by
  simp [Lit.wf, IntKind.min, IntKind.max, IntKind.signed, IntKind.bits] at h
  omega
theorem wf_u32 {x : Int} (h : (Lit.int .u32 x).wf = true) : 0 ≤ x ∧ x < 4294967296 := by
  simp [Lit.wf, IntKind.min, IntKind.max, IntKind.signed, IntKind.bits] at h
  omega
theorem wf_u64 {x : Int} (h : (Lit.int .u64 x).wf = true) : 0 ≤ x ∧ x < 18446744073709551616 := by
  simp [Lit.wf, IntKind.min, IntKind.max, IntKind.signed, IntKind.bits] at h
  omega
theorem wf_i64 {x : Int} (h : (Lit.int .i64 x).wf = true) : -9223372036854775808 ≤ x ∧ x ≤ 9223372036854775807 := by
  simp [Lit.wf, IntKind.min, IntKind.max, IntKind.signed, IntKind.bits] at h
  omega
end Go.Proofs.Ytnkeijdpjcclcaa.Kit
