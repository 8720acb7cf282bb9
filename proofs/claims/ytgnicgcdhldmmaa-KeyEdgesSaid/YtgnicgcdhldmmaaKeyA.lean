/- Contracts of package key: Compare, Check, Cmp. -/
import Derived.Test.YtgnicgcdhldmmaaNumAid
import Derived.Test.YtgnicgcdhldmmaaWalk2
import Derived.Test.YtgnicgcdhldmmaaGr2
import Derived.Lib.Bytealg
import Derived.Lib.Strings
namespace Go.Proofs.Ytgnicgcdhldmmaa.Key
set_option linter.unusedVariables false
set_option linter.unusedSimpArgs false
open Go.Proofs.Ytgnicgcdhldmmaa.Kit Go.Proofs.Ytgnicgcdhldmmaa.Num Go.RowKit Go.Proofs.YtgnicgcdhldmmaaW.PrintWords Go.Proofs.YtgnicgcdhldmmaaW.PrintLast Go.Proofs.YtgnicgcdhldmmaaW.PrintMore NumPure
/-- The order of texts. -/
def CB (a b : ByteArray) : Int := Lib.compareBytes a.data.toList b.data.toList
theorem cmpstr_any (a b : ByteArray) (w : World) : Calls Try.prog 29 #[.string a, .string b] w fun e w' => e = .returned (.int .i64 (CB a b)) ∧ w = w' := by
  go_enter Try.func29, Try.ntmps29
  go_wp2_with fail
  rw [run_callFunc_extern Try.func36 (by kernel_rfl) (by kernel_rfl) (by kernel_rfl) (e := Extern.BytealgCompare.compare) (by kernel_rfl), Lib.run_compareString]
  simp only [Result.andThen]
  rw [Oper.upon_value]
  go_wp2_with fail
  go_ret
  exact ⟨rfl, rfl⟩
theorem strcmp_any (a b : ByteArray) (w : World) : Calls Try.prog 18 #[.string a, .string b] w fun e w' => e = .returned (.int .i64 (CB a b)) ∧ w = w' := by
  have C1 := Lib.hid (cmpstr_any a b w)
  go_enter Try.func18, Try.ntmps18
  go_wp2_with fail
  refine C1.out.mono ?_
  rintro e w' ⟨rfl, rfl⟩
  go_wp2_with fail
  go_ret
  exact ⟨rfl, rfl⟩
theorem isEmpty_size (V : ByteArray) : V.toList.isEmpty = decide (V.size = 0) := by
  rw [ByteArray.toList_eq]
  have h : V.size = V.data.toList.length := rfl
  rw [h]
  cases V.data.toList <;> simp
/-- An entry. -/
structure Ent where
  key : ByteArray
  seq : Nat
  del : Bool
  val : ByteArray
def Ent.cells (x : Ent) : List Value := [.string x.key, .int .u64 x.seq, .bool x.del, .string x.val]
def Ent.ag (x : Ent) : Value := .agg x.cells.toArray
def Ent.check (x : Ent) : Nat := if x.key.size = 0 ∨ 72057594037927935 < x.seq ∨ (x.del = true ∧ x.val.size ≠ 0) then 1 else if 128 < x.key.size ∨ 65536 < x.val.size then 6 else 0
def Ent.cmp (x y : Ent) : Int := if CB x.key y.key ≠ 0 then CB x.key y.key else if y.seq < x.seq then -1 else if x.seq < y.seq then 1 else 0
def Ent.ok (x : Ent) : Prop := x.seq < 18446744073709551616 ∧ x.key.size ≤ 9223372036854775807 ∧ x.val.size ≤ 9223372036854775807
set_option maxHeartbeats 800000 in
theorem big_any (x : Ent) (hx : x.ok) (w : World) : Calls Try.prog 10 #[x.ag] w fun e w' => e = .returned (.bool (decide (300 < x.key.size ∨ 70000 < x.val.size))) ∧ Below w.heap.size w w' := by
  obtain ⟨K, s, d, V⟩ := x
  obtain ⟨h1, h2, h3⟩ := hx
  simp only [Ent.ag, Ent.cells] at h1 h2 h3 ⊢
  by_cases g1 : 300 < K.size
  · have t1 : decide ((300 : Int) < (K.size : Int)) = true := decide_eq_true (by omega)
    have H : Hid (decide (300 < K.size ∨ 70000 < V.size) = true) := Lib.hid (decide_eq_true (.inl g1))
    clear h1
    go_enter Try.func10, Try.ntmps10
    go_wp2_with fail
    go_ret
    exact ⟨by rw [H.out]; rfl, below_alloc (Below.refl _ _) _⟩
  · have t1 : decide ((300 : Int) < (K.size : Int)) = false := decide_eq_false (by omega)
    have H : Hid (decide (300 < K.size ∨ 70000 < V.size) = decide ((70000 : Int) < (V.size : Int))) := Lib.hid (decide_eq_decide.2 ⟨fun h => by omega, fun h => by omega⟩)
    clear h1
    generalize hz : decide ((70000 : Int) < (V.size : Int)) = z at H
    have HZ := Lib.hid hz
    go_enter Try.func10, Try.ntmps10
    go_wp2_with fail
    go_ret
    exact ⟨by rw [H.out]; rfl, below_alloc (Below.refl _ _) _⟩
set_option maxHeartbeats 1600000 in
theorem check_any (x : Ent) (hx : x.ok) (w : World) : Calls Try.prog 11 #[x.ag] w fun e w' => e = .returned (.int .i64 x.check) ∧ Below w.heap.size w w' := by
  obtain ⟨K, s, d, V⟩ := x
  obtain ⟨h1, h2, h3⟩ := hx
  simp only [Ent.ag, Ent.cells] at h1 h2 h3 ⊢
  by_cases g1 : K.size = 0
  · have t1 : ((K.size : Int) == 0) = true := by rw [g1]; rfl
    have H : Hid ((Ent.mk K s d V).check = 1) := Lib.hid (if_pos (.inl g1))
    clear h1
    go_enter Try.func11, Try.ntmps11
    go_wp2_with fail
    go_ret
    exact ⟨by rw [H.out]; rfl, below_alloc (Below.refl _ _) _⟩
  have t1 : ((K.size : Int) == 0) = false := by rw [beq_eq_false_iff_ne]; omega
  by_cases g2 : 72057594037927935 < s
  · have I2 : (72057594037927935 : Int) < (s : Int) ↔ True := ⟨fun _ => trivial, fun _ => by omega⟩
    have H : Hid ((Ent.mk K s d V).check = 1) := Lib.hid (if_pos (.inr (.inl g2)))
    clear h1 g2
    go_enter Try.func11, Try.ntmps11
    go_wp2_with fail
    go_ret
    exact ⟨by rw [H.out]; rfl, below_alloc (Below.refl _ _) _⟩
  have I2 : (72057594037927935 : Int) < (s : Int) ↔ False := ⟨fun h => by omega, fun h => h.elim⟩
  have hve : (!V.toList.isEmpty) = !decide (V.size = 0) := by rw [isEmpty_size V]
  cases d
  · clear hve
    by_cases g5 : 128 < K.size
    · have t5 : decide ((128 : Int) < (K.size : Int)) = true := decide_eq_true (by omega)
      have H : Hid ((Ent.mk K s false V).check = 6) := Lib.hid (by unfold Ent.check; rw [if_neg (fun h => h.elim g1 (fun h => h.elim g2 (fun h => by cases h.1))), if_pos (.inl g5)])
      clear h1 g2
      go_enter Try.func11, Try.ntmps11
      go_wp2_with fail
      go_ret
      exact ⟨by rw [H.out]; rfl, below_alloc (Below.refl _ _) _⟩
    have t5 : decide ((128 : Int) < (K.size : Int)) = false := decide_eq_false (by omega)
    by_cases g6 : 65536 < V.size
    · have t6 : decide ((65536 : Int) < (V.size : Int)) = true := decide_eq_true (by omega)
      have H : Hid ((Ent.mk K s false V).check = 6) := Lib.hid (by unfold Ent.check; rw [if_neg (fun h => h.elim g1 (fun h => h.elim g2 (fun h => by cases h.1))), if_pos (.inr g6)])
      clear h1 g2
      go_enter Try.func11, Try.ntmps11
      go_wp2_with fail
      go_ret
      exact ⟨by rw [H.out]; rfl, below_alloc (Below.refl _ _) _⟩
    have t6 : decide ((65536 : Int) < (V.size : Int)) = false := decide_eq_false (by omega)
    have H : Hid ((Ent.mk K s false V).check = 0) := Lib.hid (by unfold Ent.check; rw [if_neg (fun h => h.elim g1 (fun h => h.elim g2 (fun h => by cases h.1))), if_neg (fun h => h.elim g5 g6)])
    clear h1 g2
    go_enter Try.func11, Try.ntmps11
    go_wp2_with fail
    go_ret
    exact ⟨by rw [H.out]; rfl, below_alloc (Below.refl _ _) _⟩
  · by_cases g3 : V.size = 0
    · rw [decide_eq_true g3] at hve
      by_cases g5 : 128 < K.size
      · have t5 : decide ((128 : Int) < (K.size : Int)) = true := decide_eq_true (by omega)
        have H : Hid ((Ent.mk K s true V).check = 6) := Lib.hid (by unfold Ent.check; rw [if_neg (fun h => h.elim g1 (fun h => h.elim g2 (fun h => h.2 g3))), if_pos (.inl g5)])
        clear h1 g2
        go_enter Try.func11, Try.ntmps11
        go_wp2_with fail
        go_ret
        exact ⟨by rw [H.out]; rfl, below_alloc (Below.refl _ _) _⟩
      have t5 : decide ((128 : Int) < (K.size : Int)) = false := decide_eq_false (by omega)
      by_cases g6 : 65536 < V.size
      · exact absurd g6 (by omega)
      have t6 : decide ((65536 : Int) < (V.size : Int)) = false := decide_eq_false (by omega)
      have H : Hid ((Ent.mk K s true V).check = 0) := Lib.hid (by unfold Ent.check; rw [if_neg (fun h => h.elim g1 (fun h => h.elim g2 (fun h => h.2 g3))), if_neg (fun h => h.elim g5 g6)])
      clear h1 g2
      go_enter Try.func11, Try.ntmps11
      go_wp2_with fail
      go_ret
      exact ⟨by rw [H.out]; rfl, below_alloc (Below.refl _ _) _⟩
    · rw [decide_eq_false g3] at hve
      have H : Hid ((Ent.mk K s true V).check = 1) := Lib.hid (if_pos (.inr (.inr ⟨rfl, g3⟩)))
      clear h1 g2
      go_enter Try.func11, Try.ntmps11
      go_wp2_with fail
      go_ret
      exact ⟨by rw [H.out]; rfl, below_alloc (Below.refl _ _) _⟩
set_option maxHeartbeats 1600000 in
theorem cmp_any (x y : Ent) (hx : x.ok) (hy : y.ok) (w : World) : Calls Try.prog 12 #[x.ag, y.ag] w fun e w' => e = .returned (.int .i64 (x.cmp y)) ∧ Below w.heap.size w w' := by
  obtain ⟨K, s, d, V⟩ := x
  obtain ⟨K2, s2, d2, V2⟩ := y
  obtain ⟨h1, h2, h3⟩ := hx
  obtain ⟨j1, j2, j3⟩ := hy
  simp only [Ent.ag, Ent.cells] at h1 h2 h3 j1 j2 j3 ⊢
  have C1 := Lib.hid (fun w => strcmp_any K K2 w)
  have HB : Hid (∀ a b, Below w.heap.size w ((w.alloc a).alloc b)) := Lib.hid (fun a b => below_alloc (below_alloc (Below.refl _ _) _) _)
  have HC : Hid (Ent.cmp ⟨K, s, d, V⟩ ⟨K2, s2, d2, V2⟩ = if CB K K2 ≠ 0 then CB K K2 else if s2 < s then -1 else if s < s2 then 1 else 0) := Lib.hid rfl
  generalize CB K K2 = q at C1 HC
  clear h1 j1
  by_cases g1 : q = 0
  · subst g1
    rw [if_neg (by simp)] at HC
    rcases Nat.lt_trichotomy s s2 with g | g | g
    · have t1 : decide ((s2 : Int) < (s : Int)) = false := decide_eq_false (by omega)
      have t2 : decide ((s : Int) < (s2 : Int)) = true := decide_eq_true (by omega)
      rw [if_neg (by omega), if_pos g] at HC
      go_enter Try.func12, Try.ntmps12
      go_wp2_with fail
      refine (C1.out _).mono ?_
      rintro e w' ⟨rfl, rfl⟩
      go_wp2_with fail
      go_ret
      exact ⟨by rw [HC.out]; rfl, HB.out _ _⟩
    · subst g
      have t1 : decide ((s : Int) < (s : Int)) = false := by simp
      rw [if_neg (by omega), if_neg (by omega)] at HC
      go_enter Try.func12, Try.ntmps12
      go_wp2_with fail
      refine (C1.out _).mono ?_
      rintro e w' ⟨rfl, rfl⟩
      go_wp2_with fail
      go_ret
      exact ⟨by rw [HC.out]; rfl, HB.out _ _⟩
    · have t1 : decide ((s2 : Int) < (s : Int)) = true := decide_eq_true (by omega)
      rw [if_pos g] at HC
      go_enter Try.func12, Try.ntmps12
      go_wp2_with fail
      refine (C1.out _).mono ?_
      rintro e w' ⟨rfl, rfl⟩
      go_wp2_with fail
      go_ret
      exact ⟨by rw [HC.out]; rfl, HB.out _ _⟩
  · have t1 : (q == 0) = false := by simpa using g1
    rw [if_pos g1] at HC
    go_enter Try.func12, Try.ntmps12
    go_wp2_with fail
    refine (C1.out _).mono ?_
    rintro e w' ⟨rfl, rfl⟩
    go_wp2_with fail
    go_ret
    exact ⟨by rw [HC.out]; rfl, HB.out _ _⟩
end Go.Proofs.Ytgnicgcdhldmmaa.Key

