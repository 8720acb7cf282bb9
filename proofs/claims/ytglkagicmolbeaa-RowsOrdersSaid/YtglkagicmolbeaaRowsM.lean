/- The look-up in a map of truth values that the call makes; the ten first bytes. -/
import Derived.Maps.Own
import Derived.Test.YtglkagicmolbeaaRowsL
namespace Go.Proofs.Ytglkagicmolbeaa.Rw
set_option linter.unusedVariables false
set_option linter.unusedSimpArgs false
open Go.Proofs.Ytglkagicmolbeaa.Kit Go.RowKit Go.Maps Go.Proofs.YtglkagicmolbeaaW.PrintWords Go.Proofs.YtglkagicmolbeaaW.PrintLast Go.Proofs.YtglkagicmolbeaaW.PrintMore
theorem plain_bool_inv {H : Type} {P : Program} {e : TypeId} (he : P.underlying e = some .bool) {v : Value} {z : DataW H × List MemPlace} (h : plainElem P e v = some z) : ∃ x, v = .bool x ∧ z = (.lit (.bool x), []) := by
  unfold plainElem at h
  rw [he] at h
  cases v <;> simp at h
  exact ⟨_, rfl, h.symm⟩
theorem lookup_bool {H : Type} {P : Program} {k t e : TypeId} {b n : Nat} {w : World} {D : DataW H} (h : w.ownsMap P k (plainElem P e) b n D) (K : Keyed P k) (ht : P.underlying t = some (.map k e)) (he : P.underlying e = some .bool) (hz : (zeroValue e).run P w = .ok (.bool false) w)
    {key : Value} {kl : Lit} (hkey : keyOf P k key = some kl) : ∃ x, (Instr.lookup t (.map (some b)) key false).run P w = .ok (.bool x) w ∧ D.atKey kl (.lit (.bool false)) = .lit (.bool x) := by
  obtain ⟨v, ps, hrun, hv⟩ := h.lookup K ht hz (plainElem_bool he false) hkey
  obtain ⟨c, rfl, hc⟩ := plain_bool_inv he hv
  simp only [Prod.mk.injEq] at hc
  exact ⟨c, hrun, hc.1⟩
theorem op_lookup_bool {H : Type} {P : Program} {o : Oper} {l : List (Nat × Value)} {m x : Operand} {k t e : TypeId} {b n : Nat} {w : World} {D : DataW H} {r : Bool} (ho : o.op = Op.lookup t m x false) (hm : lk l m = .map (some b)) (h : w.ownsMap P k (plainElem P e) b n D) (K : Keyed P k) (ht : P.underlying t = some (.map k e)) (he : P.underlying e = some .bool) (hz : (zeroValue e).run P w = .ok (.bool false) w)
    {key : Value} {kl : Lit} (hx : lk l x = key) (hkey : keyOf P k key = some kl) (hr : D.atKey kl (.lit (.bool false)) = .lit (.bool r)) : (execOp (lk l) o).run P w = .ok (.value (.bool r)) w := by
  obtain ⟨c, hrun, hc⟩ := lookup_bool h K ht he hz hkey
  rw [hr] at hc
  injection hc with hc
  injection hc with hc
  subst hc
  unfold execOp
  simp only [ho, hm, hx, Sem.run_bind, hrun, Result.andThen_ok, Sem.run_pure]
theorem wpList_lookup_bool {H : Type} {P : Program} (w : World) {ops : Array Oper} {rest : List Oper} {o : Oper} {a : Act} {Q : Exit → Act → World → Prop}
    (hg : o.guard = none) (m x : Operand) (t : TypeId) (hop : o.op = Op.lookup t m x false)
    (k e : TypeId) (K : Keyed P k) (ht : P.underlying t = some (.map k e)) (he : P.underlying e = some .bool) (hz : (zeroValue e).run P w = .ok (.bool false) w) (b n : Nat) (D : DataW H)
    (hm : a.eval m = .map (some b)) (hown : w.ownsMap P k (plainElem P e) b n D) (key : Value) (kl : Lit) (hx : a.eval x = key) (hkey : keyOf P k key = some kl) {r : Bool} (hr : D.atKey kl (.lit (.bool false)) = .lit (.bool r))
    (hK : wpList P ops Q rest (a.put o.dst (.bool r)) w) :
    wpList P ops Q (o :: rest) a w := by
  refine wpList_plain hg fun K' hK' => ?_
  obtain ⟨c, hrun, hc⟩ := lookup_bool hown K ht he hz hkey
  rw [hr] at hc
  injection hc with hc
  injection hc with hc
  subst hc
  unfold Oper.wp
  simp [execOp, hop, hm, hx, hrun, Result.andThen]
  exact hK' _ _ hK
/-- A literal of texts, as a row. -/
theorem w_lits {P : Program} {D : List (List Nat)} {L : List Nat} {dsts : List (Option Tmp)} {I J : World → Prop} {a0 : Act} {K : (Nat → Value) → World → Prop} {o : Oper} {r : List Oper} {k : Nat} {Fs : List FW} {t e : TypeId} {n bytes : Nat} (hL : k ∉ L) (l : List (Nat × Value)) (cs : List ByteArray) (ps : Array (Nat × Operand)) (T : SlTy P t e (.string ⟨#[]⟩) bytes) (hv : ∀ vs w, Known Fs k (deps D L Fs k) vs w → Wants o vs = true ∧ Vs (rho (dsts.take k) vs a0) l) (hc : covers o (l.map (·.1)) = true)
    (ho : o.op = .buildSlice t n ps) (hn : cs.length = n) (hp : 0 < n) (h24 : n ≤ 16777216)
    (hps : (ps.toList.map fun p => (p.1, lk l p.2)) = (((cs.map Value.string).zipIdx 0).map fun x => (x.2, x.1)))
    (B : Nat) (hB : ∀ w, I w → B ≤ w.heap.size)
    (tl : Walk P D L dsts I J a0 K r (k + 1) (FW.of (fun v w => ∃ g, v = .slice (some ⟨g, 0, none⟩) n n ∧ B ≤ g ∧ w.heap[g]? = some (.cells (encs Value.string cs).toArray e)) (fun _ _ _ h hb => h.elim fun g h => ⟨g, h.1, h.2.1, (hb.block g (mk_lt h.2.2)).trans h.2.2⟩) :: Fs)) : Walk P D L dsts I J a0 K (o :: r) k Fs := by
  refine w_any (FW.of (fun v w => ∃ g, v = .slice (some ⟨g, 0, none⟩) n n ∧ B ≤ g ∧ w.heap[g]? = some (.cells (encs Value.string cs).toArray e)) _) hL (fun vs w hI hK => ?_) tl
  obtain ⟨ie, hie, hz, hs, _⟩ := info_of T
  have hrun : (execOp (lk l) o).run P w = .ok (.value (.slice (some ⟨w.heap.size, 0, none⟩) n n)) (w.alloc (.cells (encs Value.string cs).toArray e)) := by
    unfold execOp
    simp only [ho, Sem.run_bind]
    have hpe : (ps.map fun (x : Nat × Operand) => (x.1, lk l x.2)).toList = (((cs.map Value.string).zipIdx 0).map fun x => (x.2, x.1)) := by rw [Array.toList_map]; exact hps
    have hfl : Instr.fill (fun i => some (i * 1, 1)) ((Array.range (n * 1)).map ((Value.string ⟨#[]⟩).cells[· % (Value.string ⟨#[]⟩).cells.size]!)) (ps.map fun (x : Nat × Operand) => (x.1, lk l x.2)).toList = some (encs Value.string cs).toArray := by
      rw [hpe]
      exact Great.fill_flat _ _ (fun v hv => by obtain ⟨n, _, rfl⟩ := List.mem_map.1 hv; rfl) (by simp [hn])
    rw [run_buildSlice w t e n _ (encs Value.string cs).toArray ie (.string ⟨#[]⟩) T.und hie hz (by rw [hs]; omega) (by rw [hs]; omega) (by rw [hs]; exact hfl)]
    rfl
  refine ob_run l (hv vs w hK).1 (hv vs w hK).2 hc hrun ⟨below_alloc (Below.refl _ _) _, ?_⟩
  exact ⟨_, rfl, hB w hI, heap_alloc_new w _⟩
/-- s[i] of a text. -/
theorem wpList_index_str {P : Program} {ops : Array Oper} {rest : List Oper} {o : Oper} {a : Act} {w : World} {Q : Exit → Act → World → Prop} (hgd : o.guard = none) (t : TypeId) (x y : Operand) (ho : o.op = .index t x y) (ht : P.underlying t = some .string) {s : ByteArray} {k : IntKind} {j c : Int} {i : Nat} (hx : a.eval x = .string s) (hy : a.eval y = .int k j) (hj : j = (i : Int)) (hi : i < s.size) (hc : (numsOf s).getD i 0 = c)
    (h : wpList P ops Q rest (a.put o.dst (.int .u8 c)) w) : wpList P ops Q (o :: rest) a w := by
  refine wpList_plain hgd fun K hK => ?_
  subst hj hc
  have h0 : (0 : Int) ≤ (i : Int) ∧ (i : Int) < (s.size : Int) := by omega
  have h1 := at_str s i hi
  unfold Oper.wp execOp
  simp only [ho, hx, hy, Sem.run_bind, run_index_string w t s k (i : Int) ht, dif_pos h0, Result.andThen_ok, Sem.run_pure]
  simp only [Int.toNat_natCast]
  rw [h1]
  exact hK _ _ h
/-- What the ten keys begin with. -/
def fb : List Int := [109, 119, 98, 116, 112, 104, 117, 99, 115, 114]
/-- The map behind so many of them. -/
def seen : Nat → DataW Unit
  | 0 => .map []
  | k + 1 => (seen k).put (.int .u8 (fb.getD k 0)) (.lit (.bool true))
theorem seen_not : ∀ k, k < 10 → (seen k).atKey (.int .u8 (fb.getD k 0)) (.lit (.bool false)) = .lit (.bool false)
  | 0, _ => rfl
  | 1, _ => rfl
  | 2, _ => rfl
  | 3, _ => rfl
  | 4, _ => rfl
  | 5, _ => rfl
  | 6, _ => rfl
  | 7, _ => rfl
  | 8, _ => rfl
  | 9, _ => rfl
  | n + 10, h => by omega
theorem fb_wf : ∀ k, k < 10 → (Lit.int .u8 (fb.getD k 0)).wf = true
  | 0, _ => rfl
  | 1, _ => rfl
  | 2, _ => rfl
  | 3, _ => rfl
  | 4, _ => rfl
  | 5, _ => rfl
  | 6, _ => rfl
  | 7, _ => rfl
  | 8, _ => rfl
  | 9, _ => rfl
  | n + 10, h => by omega
/-- Ten keys. -/
structure Ten (ks : List ByteArray) : Prop where
  len : ks.length = 10
  each : ∀ i, i < 10 → 0 < (ks.getD i default).size ∧ (ks.getD i default).size ≤ 128 ∧ (numsOf (ks.getD i default)).getD 0 0 = fb.getD i 0
theorem key_ok (c : UInt8) (t s : ByteArray) (hs : s = (⟨#[c]⟩ : ByteArray) ++ t) (ht : t.size ≤ 100) : 0 < s.size ∧ s.size ≤ 128 ∧ (numsOf s).getD 0 0 = ((c.toNat : Nat) : Int) := by
  have h1 : (⟨#[c]⟩ : ByteArray).size = 1 := rfl
  have h2 : numsOf (⟨#[c]⟩ : ByteArray) = [((c.toNat : Nat) : Int)] := by rw [numsOf_data]; rfl
  rw [hs, ByteArray.size_append, h1, numsOf_append, h2]
  refine ⟨by omega, by omega, rfl⟩
def keysOf (h : List Int) (x1 x2 x3 x4 x5 x6 x7 x8 x9 x10 x11 : Int) : List ByteArray :=
  [⟨#[109]⟩, ⟨#[119]⟩, (⟨#[98]⟩ : ByteArray) ++ F4 x1, (⟨#[116]⟩ : ByteArray) ++ strOfNums h, (⟨#[112]⟩ : ByteArray) ++ F4 x2 ++ F4 x3, (⟨#[104]⟩ : ByteArray) ++ strOfNums h ++ F4 x4 ++ F4 x5, (⟨#[117]⟩ : ByteArray) ++ strOfNums h ++ (strOfNums h ++ F4 x6), (⟨#[99]⟩ : ByteArray) ++ (strOfNums h ++ F4 x7), (⟨#[115]⟩ : ByteArray) ++ (strOfNums h ++ F4 x8), (⟨#[114]⟩ : ByteArray) ++ F4 x9 ++ F4 x10 ++ F4 x11]
theorem ten_keys (h : List Int) (hl : h.length = 32) (x1 x2 x3 x4 x5 x6 x7 x8 x9 x10 x11 : Int) : Ten (keysOf h x1 x2 x3 x4 x5 x6 x7 x8 x9 x10 x11) where
  len := rfl
  each := by
    have sz : ∀ t : ByteArray, t.size = 0 → t.size ≤ 100 := fun t h => by omega
    intro i hi
    match i, hi with
    | 0, _ => exact key_ok 109 ⟨#[]⟩ _ rfl (by decide)
    | 1, _ => exact key_ok 119 ⟨#[]⟩ _ rfl (by decide)
    | 2, _ => exact key_ok 98 _ _ rfl (by simp only [ByteArray.size_append, F4_size, strOfNums_size, hl]; omega)
    | 3, _ => exact key_ok 116 _ _ rfl (by simp only [ByteArray.size_append, F4_size, strOfNums_size, hl]; omega)
    | 4, _ => exact key_ok 112 (F4 x2 ++ F4 x3) _ (by show _ ++ _ ++ _ = _; simp only [ByteArray.append_assoc]) (by simp only [ByteArray.size_append, F4_size, strOfNums_size, hl]; omega)
    | 5, _ => exact key_ok 104 (strOfNums h ++ F4 x4 ++ F4 x5) _ (by show _ ++ _ ++ _ ++ _ = _; simp only [ByteArray.append_assoc]) (by simp only [ByteArray.size_append, F4_size, strOfNums_size, hl]; omega)
    | 6, _ => exact key_ok 117 (strOfNums h ++ (strOfNums h ++ F4 x6)) _ (by show _ ++ _ ++ _ = _; simp only [ByteArray.append_assoc]) (by simp only [ByteArray.size_append, F4_size, strOfNums_size, hl]; omega)
    | 7, _ => exact key_ok 99 _ _ rfl (by simp only [ByteArray.size_append, F4_size, strOfNums_size, hl]; omega)
    | 8, _ => exact key_ok 115 _ _ rfl (by simp only [ByteArray.size_append, F4_size, strOfNums_size, hl]; omega)
    | 9, _ => exact key_ok 114 (F4 x9 ++ F4 x10 ++ F4 x11) _ (by show _ ++ _ ++ _ ++ _ = _; simp only [ByteArray.append_assoc]) (by simp only [ByteArray.size_append, F4_size, strOfNums_size, hl]; omega)
    | n + 10, h => omega
end Go.Proofs.Ytglkagicmolbeaa.Rw
