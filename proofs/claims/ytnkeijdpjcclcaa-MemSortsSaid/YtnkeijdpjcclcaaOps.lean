/- More operations in regions: numbers multiplied, shifted, cut, turned to another kind; a literal of bytes; its text. -/
import Derived.Test.YtnkeijdpjcclcaaBox
import Derived.Great.BuildSlice
import Derived.Laws.StructEq
import Derived.ChangeKeysEq
namespace Go.Proofs.Ytnkeijdpjcclcaa.Kit
set_option linter.unusedVariables false
set_option linter.unusedSimpArgs false
open Go.RowKit Go.Proofs.YtnkeijdpjcclcaaW.PrintWords Go.Proofs.YtnkeijdpjcclcaaW.PrintLast Go.Proofs.YtnkeijdpjcclcaaW.PrintMore
section
variable {P : Program} {o : Oper} {l : List (Nat × Value)} {x y : Operand} {t t2 : TypeId} {m : Nat} {k k2 : IntKind} {a b c : Int} {w : World}
theorem op_mul (ho : o.op = .binOp .mul t x y m) (hx : lk l x = .int k a) (hy : lk l y = .int k b) (h : k.wrap (a * b) = c) : (execOp (lk l) o).run P w = .ok (.value (.int k c)) w := by
  subst h
  unfold execOp
  simp [ho, hx, hy, eqGuard, binOp, Op.intArith]
theorem op_rem (ho : o.op = .binOp .rem t x y m) (hx : lk l x = .int k a) (hy : lk l y = .int k b) (hb : b ≠ 0) (h : Int.tmod a b = c) : (execOp (lk l) o).run P w = .ok (.value (.int k c)) w := by
  subst h
  unfold execOp
  simp [ho, hx, hy, eqGuard, binOp, Op.intArith, Op.intDiv, hb]
theorem op_quo (ho : o.op = .binOp .quo t x y m) (hx : lk l x = .int k a) (hy : lk l y = .int k b) (hb : b ≠ 0) (h : k.wrap (Int.tdiv a b) = c) : (execOp (lk l) o).run P w = .ok (.value (.int k c)) w := by
  subst h
  unfold execOp
  simp [ho, hx, hy, eqGuard, binOp, Op.intArith, Op.intDiv, hb]
theorem op_shr (ho : o.op = .binOp .shr t x y m) (hx : lk l x = .int k a) (hy : lk l y = .int k2 b) (hb : 0 ≤ b) (h : a / 2 ^ min b.toNat k.bits = c) : (execOp (lk l) o).run P w = .ok (.value (.int k c)) w := by
  subst h
  unfold execOp
  simp [ho, hx, hy, eqGuard, binOp, shift_shr_any k k2 a b hb]
theorem op_shl (ho : o.op = .binOp .shl t x y m) (hx : lk l x = .int k a) (hy : lk l y = .int k2 b) (hb : 0 ≤ b) (h : k.wrap (a * 2 ^ min b.toNat k.bits) = c) : (execOp (lk l) o).run P w = .ok (.value (.int k c)) w := by
  subst h
  unfold execOp
  simp [ho, hx, hy, eqGuard, binOp, shift_shl_any k k2 a b hb]
theorem op_and (ho : o.op = .binOp .and t x y m) (hx : lk l x = .int k a) (hy : lk l y = .int k b) (h : Go.bits .and k a b = c) : (execOp (lk l) o).run P w = .ok (.value (.int k c)) w := by
  subst h
  unfold execOp
  have e : Op.intBits .and k a b = pure (.int k (Go.bits .and k a b)) := rfl
  simp [ho, hx, hy, eqGuard, binOp, Op.intArith, e]
theorem op_conv_int (ho : o.op = .convert t t2 x) (hs : P.underlying t = some (.int k)) (hd : P.underlying t2 = some (.int k2)) (hx : lk l x = .int k a) (h : k2.wrap a = c) : (execOp (lk l) o).run P w = .ok (.value (.int k2 c)) w := by
  subst h
  refine run_conv_op ho hx ?_
  unfold convert
  simp [run_underlying hs, run_underlying hd, Conv.intToInt]
end
section
variable {P : Program} {D : List (List Nat)} {L : List Nat} {dsts : List (Option Tmp)} {I J : World → Prop} {a0 : Act} {K : (Nat → Value) → World → Prop} {o : Oper} {r : List Oper} {k : Nat} {Fs : List FW} {t e : TypeId} {n bytes : Nat} {z : Int}
/-- []byte{..}: its bytes, as a row. -/
theorem w_lit (hL : k ∉ L) (l : List (Nat × Value)) (kd : IntKind) (cs : List Int) (ps : Array (Nat × Operand)) (T : SlTy P t e (.int kd z) bytes) (hv : ∀ vs w, Known Fs k (deps D L Fs k) vs w → Wants o vs = true ∧ Vs (rho (dsts.take k) vs a0) l) (hc : covers o (l.map (·.1)) = true)
    (ho : o.op = .buildSlice t n ps) (hn : cs.length = n) (hp : 0 < n) (h24 : n ≤ 16777216)
    (hps : (ps.toList.map fun p => (p.1, lk l p.2)) = (((cs.map (Value.int kd)).zipIdx 0).map fun x => (x.2, x.1)))
    (tl : Walk P D L dsts I J a0 K r (k + 1) (FW.row kd cs :: Fs)) : Walk P D L dsts I J a0 K (o :: r) k Fs := by
  refine w_any (FW.row kd cs) hL (fun vs w hI hK => ?_) tl
  obtain ⟨ie, hie, hz, hs, _⟩ := info_of T
  have hrun : (execOp (lk l) o).run P w = .ok (.value (.slice (some ⟨w.heap.size, 0, none⟩) n n)) (w.alloc (.cells (nums kd cs).toArray e)) := by
    unfold execOp
    simp only [ho, Sem.run_bind]
    have hpe : (ps.map fun (x : Nat × Operand) => (x.1, lk l x.2)).toList = (((cs.map (Value.int kd)).zipIdx 0).map fun x => (x.2, x.1)) := by rw [Array.toList_map]; exact hps
    have hfl : Instr.fill (fun i => some (i * 1, 1)) ((Array.range (n * 1)).map ((Value.int kd z).cells[· % (Value.int kd z).cells.size]!)) (ps.map fun (x : Nat × Operand) => (x.1, lk l x.2)).toList = some (nums kd cs).toArray := by
      rw [hpe]
      exact Great.fill_flat _ _ (fun v hv => by obtain ⟨n, _, rfl⟩ := List.mem_map.1 hv; rfl) (by simp [hn])
    rw [run_buildSlice w t e n _ (nums kd cs).toArray ie (.int kd z) T.und hie hz (by rw [hs]; omega) (by rw [hs]; omega) (by rw [hs]; exact hfl)]
    rfl
  refine ob_run l (hv vs w hK).1 (hv vs w hK).2 hc hrun ⟨below_alloc (Below.refl _ _) _, ?_⟩
  exact ⟨_, n, n, rfl, Nat.le_refl _, Lib.hid hn, by omega, rds_lit w e (0, 0) 0 cs (by omega) n hn⟩
/-- string(row). -/
theorem w_str {j d : Nat} {xs : List Int} {src dst : TypeId} (hL : k ∉ L) (hd : P.underlying dst = some .string) (he : P.underlying e = some (.int .u8)) (T : SlTy P src e (.int .u8 z) bytes) (ho : o.op = .convert src dst (.tmp d)) (hj : srcOf (dsts.take k) 0 d = some j) (hw : ∀ vs w, Known Fs k (deps D L Fs k) vs w → Wants o vs = true)
    (hF : ∀ vs w, Known Fs k (deps D L Fs k) vs w → IsRow .u8 xs (vs j) w) (tl : Walk P D L dsts I J a0 K r (k + 1) (FW.val (.string (strOfNums xs)) :: Fs)) : Walk P D L dsts I J a0 K (o :: r) k Fs := by
  refine w_any (FW.val (.string (strOfNums xs))) hL (fun vs w hI hK => ?_) tl
  obtain ⟨A, n, c, e1, h1, h2, h3, h4⟩ := hF vs w hK
  have hlk : lk [(d, .slice A n c)] (.tmp d) = .slice A n c := by simp [lk, lkT]
  have hcv : covers o ([(d, Value.slice A n c)].map (·.1)) = true := by simp [covers, ho, Op.operands]
  exact ob_run [(d, .slice A n c)] (hw vs w hK) ⟨rho_in hj e1, trivial⟩ hcv (run_conv_op ho hlk (conv_rds T he hd h4)) ⟨Below.refl _ _, rfl⟩
end
section
variable {P : Program} {o : Oper} {l : List (Nat × Value)} {x y : Operand} {t : TypeId} {m : Nat} {xs ys : Array Value} {r : Bool} {w : World}
theorem op_agg_eql (ho : o.op = .binOp .eql t x y m) (hx : lk l x = .agg xs) (hy : lk l y = .agg ys) (hm : P.eqGuardType P.depth t = false) (he : (Op.equalIn (9998 + 1 + 1) t (.agg xs) (.agg ys)).run P w = .ok r w) : (execOp (lk l) o).run P w = .ok (.value (.bool r)) w := by
  have e2 : (Op.equal t (.agg xs) (.agg ys)).run P w = .ok r w := he
  have e3 : (binOp .eql t (.agg xs) (.agg ys)).run P w = .ok (.bool r) w := by
    show ((do pure (.bool (← Op.equal t (.agg xs) (.agg ys))) : Sem Value)).run P w = _
    simp only [Sem.run_bind, e2, Result.andThen_ok, Sem.run_pure]
  unfold execOp
  simp only [ho, hx, hy, Sem.run_bind, run_eqGuard_agg w .eql t x y xs ys hm, Result.andThen_ok, e3, Sem.run_pure]
theorem op_agg_neq (ho : o.op = .binOp .neq t x y m) (hx : lk l x = .agg xs) (hy : lk l y = .agg ys) (hm : P.eqGuardType P.depth t = false) (he : (Op.equalIn (9998 + 1 + 1) t (.agg xs) (.agg ys)).run P w = .ok r w) : (execOp (lk l) o).run P w = .ok (.value (.bool (!r))) w := by
  have e2 : (Op.equal t (.agg xs) (.agg ys)).run P w = .ok r w := he
  have e3 : (binOp .neq t (.agg xs) (.agg ys)).run P w = .ok (.bool (!r)) w := by
    show ((do pure (.bool (!(← Op.equal t (.agg xs) (.agg ys)))) : Sem Value)).run P w = _
    simp only [Sem.run_bind, e2, Result.andThen_ok, Sem.run_pure]
  unfold execOp
  simp only [ho, hx, hy, Sem.run_bind, run_eqGuard_agg w .neq t x y xs ys hm, Result.andThen_ok, e3, Sem.run_pure]
end
/-- Arrays of whole numbers compared. -/
theorem eqItems_ints {P : Program} {e : TypeId} {k kd : IntKind} (he : P.underlying e = some (.int kd)) (hc : P.cellsOf e = 1) (d : Nat) (xs ys : List Int) (w : World) : ∀ is : List Nat, (∀ i ∈ is, i < xs.length ∧ i < ys.length) →
    (Op.eqItems (d + 1) e (P.cellsOf e) (nums k xs).toArray (nums k ys).toArray is).run P w = .ok (is.all fun i => xs.getD i 0 == ys.getD i 0) w
  | [], _ => by simp [Op.eqItems]
  | i :: is, h => by
    have ih := eqItems_ints (k := k) he hc d xs ys w is (fun j hj => h j (by simp [hj]))
    have hpk : P.plainKey e = true := by simp [Program.plainKey, he]
    obtain ⟨h1, h2⟩ := h i (by simp)
    have p1 : (part e (nums k xs).toArray (i * P.cellsOf e)).run P w = .ok (.int k (xs.getD i 0)) w := run_part_plain w hpk (by
      rw [hc, Nat.mul_one]
      simp [nums, List.getD_eq_getElem?_getD, List.getElem?_eq_getElem h1])
    have p2 : (part e (nums k ys).toArray (i * P.cellsOf e)).run P w = .ok (.int k (ys.getD i 0)) w := run_part_plain w hpk (by
      rw [hc, Nat.mul_one]
      simp [nums, List.getD_eq_getElem?_getD, List.getElem?_eq_getElem h2])
    simp only [Op.eqItems, Sem.run_bind, p1, p2, Result.andThen_ok, run_equalIn_int w d e k kd _ _ he, List.all_cons]
    cases hb : (xs.getD i 0 == ys.getD i 0)
    · simp
    · simpa using ih
theorem all_eq_lists (xs ys : List Int) (n : Nat) (hx : xs.length = n) (hy : ys.length = n) : ((List.range n).all fun i => xs.getD i 0 == ys.getD i 0) = decide (xs = ys) := by
  rw [Bool.eq_iff_iff, List.all_eq_true, decide_eq_true_iff]
  constructor
  · intro h
    apply List.ext_getElem (by omega)
    intro i h1 h2
    have := h i (by simp; omega)
    rw [beq_iff_eq, List.getD_eq_getElem?_getD, List.getD_eq_getElem?_getD, List.getElem?_eq_getElem h1, List.getElem?_eq_getElem h2] at this
    exact this
  · rintro rfl i _
    simp
theorem equalIn_ints {P : Program} {t e : TypeId} {n : Nat} {k kd : IntKind} (hu : P.underlying t = some (.array n e)) (he : P.underlying e = some (.int kd)) (hi : (P.info? e).isSome = true) (hc : P.cellsOf e = 1) (d : Nat) (xs ys : List Int) (hx : xs.length = n) (hy : ys.length = n) (w : World) :
    (Op.equalIn (d + 1 + 1) t (.agg (nums k xs).toArray) (.agg (nums k ys).toArray)).run P w = .ok (decide (xs = ys)) w := by
  obtain ⟨i, hi⟩ := Option.isSome_iff_exists.1 hi
  rw [run_equalIn_array w (d + 1) _ _ hu hi, eqItems_ints he hc d xs ys w (List.range n) (fun j hj => by have := List.mem_range.1 hj; omega), all_eq_lists xs ys n hx hy]
theorem rem_nat (p m : Nat) : Int.tmod (p : Int) (m : Int) = ((p % m : Nat) : Int) := by
  rw [Int.tmod_eq_emod_of_nonneg (Int.natCast_nonneg _)]
  exact (Int.natCast_emod p m).symm
theorem quo_nat (p m : Nat) : Int.tdiv (p : Int) (m : Int) = ((p / m : Nat) : Int) := by
  rw [Int.tdiv_eq_ediv_of_nonneg (Int.natCast_nonneg _)]
  exact (Int.natCast_ediv p m).symm
theorem u8_nat (n : Nat) (h : n < 256) : IntKind.u8.wrap (n : Int) = (n : Int) := by simp [IntKind.wrap, IntKind.signed, IntKind.bits]; omega
theorem u32_nat (n : Nat) (h : n < 4294967296) : IntKind.u32.wrap (n : Int) = (n : Int) := by simp [IntKind.wrap, IntKind.signed, IntKind.bits]; omega
theorem u64_nat (n : Nat) (h : n < 18446744073709551616) : IntKind.u64.wrap (n : Int) = (n : Int) := by simp [IntKind.wrap, IntKind.signed, IntKind.bits]; omega
end Go.Proofs.Ytnkeijdpjcclcaa.Kit
