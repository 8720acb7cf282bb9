/- Loads of one cell, in regions. -/
import Derived.Test.YtnkeijdpjcclcaaWalk
namespace Go.Proofs.Ytnkeijdpjcclcaa.Kit
set_option linter.unusedVariables false
set_option linter.unusedSimpArgs false
open Go.RowKit Go.Proofs.YtnkeijdpjcclcaaW.PrintWords Go.Proofs.YtnkeijdpjcclcaaW.PrintLast Go.Proofs.YtnkeijdpjcclcaaW.PrintMore
def oneB : TypeDesc → Bool
  | .struct _ => false
  | .array _ _ => false
  | _ => true
theorem run_loadAt_cell {P : Program} (w : World) (ad : Addr) (ty : TypeId) (v : Value) (d : TypeDesc) (hu : P.underlying ty = some d) (hd : oneB d = true) (hc : w.cell? ad = some v) : (Instr.loadAt ty (.pointer (some ad))).run P w = .ok v w := by
  have hagg : (isAgg ty).run P w = .ok false w := by
    unfold isAgg
    rw [Sem.run_bind, run_underlying hu w]
    cases d <;> simp_all [oneB]
  simp only [Instr.loadAt, Instr.sureAddr, loadVar, Sem.run_bind, Sem.run_pure, Result.andThen_ok, hagg]
  go_simp
theorem run_load_cell {P : Program} {o : Oper} {l : List (Nat × Value)} {x : Operand} {t : TypeId} {p v : Value} {ad : Addr} {d : TypeDesc} {w : World} (ho : o.op = .load t x) (hx : lk l x = p) (hp : p = .pointer (some ad)) (hu : P.underlying t = some d) (hd : oneB d = true) (hc : w.cell? ad = some v) : (execOp (lk l) o).run P w = .ok (.value v) w := by
  subst hp
  exact run_load_op ho hx (run_loadAt_cell w ad t v d hu hd hc)
theorem run_int_add {P : Program} {o : Oper} {l : List (Nat × Value)} {x y : Operand} {t : TypeId} {m : Nat} {k : IntKind} {a b c : Int} {w : World} (ho : o.op = .binOp .add t x y m) (hx : lk l x = .int k a) (hy : lk l y = .int k b) (h : k.wrap (a + b) = c) : (execOp (lk l) o).run P w = .ok (.value (.int k c)) w := by
  subst h
  unfold execOp
  simp [ho, hx, hy, eqGuard, binOp, Op.intArith]
theorem run_int_sub {P : Program} {o : Oper} {l : List (Nat × Value)} {x y : Operand} {t : TypeId} {m : Nat} {k : IntKind} {a b c : Int} {w : World} (ho : o.op = .binOp .sub t x y m) (hx : lk l x = .int k a) (hy : lk l y = .int k b) (h : k.wrap (a - b) = c) : (execOp (lk l) o).run P w = .ok (.value (.int k c)) w := by
  subst h
  unfold execOp
  simp [ho, hx, hy, eqGuard, binOp, Op.intArith]
theorem i64_id {x : Int} (h0 : -9223372036854775808 ≤ x) (h1 : x ≤ 9223372036854775807) : IntKind.i64.wrap x = x := by rw [IntKind.wrap_i64]; omega
theorem run_len_sl {P : Program} {o : Oper} {l : List (Nat × Value)} {x : Operand} {t e : TypeId} {A : Option Addr} {n c : Nat} {m : Int} {w : World} (ho : o.op = .call { callee := .builtin .len, args := #[x], argTypes := #[t] }) (ht : P.underlying t = some (.slice e)) (hx : lk l x = .slice A n c) (hm : (n : Int) = m) : (execOp (lk l) o).run P w = .ok (.value (.int .i64 m)) w := by
  subst hm
  unfold execOp
  simp only [ho, resolve, invoke, builtin, hx, List.map_toArray, List.map_cons, List.map_nil, Sem.run_bind, Sem.run_pure, Result.andThen_ok]
  go_simp
/-- &s[i] -/
theorem run_index_cell {P : Program} {o : Oper} {l : List (Nat × Value)} {x ix : Operand} {t e : TypeId} {z : Value} {bytes : Nat} (T : SlTy P t e z bytes) {ad : Addr} {n c i : Nat} {j : Int} {k : IntKind} {w : World} (ho : o.op = .indexAddr t x ix) (hx : lk l x = .slice (some ad) n c) (hj : lk l ix = .int k j) (hi : j = (i : Int)) (hn : i < n) :
    (execOp (lk l) o).run P w = .ok (.value (.pointer (some (ad.add i)))) w := by
  subst hi
  obtain ⟨i0, hi0, hzz⟩ := Option.map_eq_some_iff.1 T.info
  simp only [Prod.mk.injEq] at hzz
  have hel : P.elem t = e := by simp [Program.elem, T.und]
  have hu := T.und
  have h0 : (0 : Int) ≤ (i : Int) := by omega
  have h1 : (i : Int) < (n : Int) := by omega
  unfold execOp
  simp only [ho, hx, hj]
  go_simp
  simp [sizeOf, typeInfo, hi0, hzz.2.1, Result.andThen]
theorem below_cell {w w' : World} {ad : Addr} {v : Value} (hb : Below w.heap.size w w') (h : w.cell? ad = some v) : w'.cell? ad = some v := by
  have hlt : ad.block < w.heap.size := by
    rcases Nat.lt_or_ge ad.block w.heap.size with g | g
    · exact g
    · simp [World.cell?, Array.getElem?_eq_none g] at h
  unfold World.cell? at h ⊢
  rw [hb.block _ hlt]
  exact h
end Go.Proofs.Ytnkeijdpjcclcaa.Kit
