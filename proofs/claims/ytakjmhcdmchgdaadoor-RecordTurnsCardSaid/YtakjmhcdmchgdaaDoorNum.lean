/- Contracts of package num: each call's answer by the plain functions of NumPure. -/
import Derived.Test.YtakjmhcdmchgdaaDoorKit2
import Derived.Test.YtakjmhcdmchgdaaDoorNumPure
namespace Go.Proofs.YtakjmhcdmchgdaaDoor.Num
set_option linter.unusedVariables false
open Go.Proofs.YtakjmhcdmchgdaaDoor.Kit Go.RowKit Go.Proofs.YtakjmhcdmchgdaaDoorW.PrintWords Go.Proofs.YtakjmhcdmchgdaaDoorW.PrintLast Go.Proofs.YtakjmhcdmchgdaaDoorW.PrintMore NumPure

theorem infob : (Tryd.prog.info? 5).map (fun i => (i.zero, i.size, i.bytes)) = some (some (.int .u8 0), 1, 1) := by kernel_rfl
theorem tb : SlTy Tryd.prog 22 5 (.int .u8 0) 1 := ⟨Tryd.underlying22, infob, rfl, by decide⟩
abbrev GrB (w : World) (B : Nat) (v : Value) (xs : List Int) : Prop := Gr .u8 5 w B v xs
abbrev OwnB (w : World) (B : Nat) (v : Value) (xs : List Int) : Prop := Own .u8 5 w B v xs
abbrev AppB (w0 w wr : World) (v vr : Value) (xs : List Int) : Prop := App .u8 5 w0 w wr v vr xs
theorem getD_nat {l : List Int} (h : Byte l) (i : Nat) : ∃ a : Nat, l.getD i 0 = (a : Int) ∧ a < 256 := by
  rw [List.getD_eq_getElem?_getD]
  cases hi : l[i]? with
  | none => exact ⟨0, rfl, by omega⟩
  | some x =>
    have := h x (List.mem_of_getElem? hi)
    exact ⟨x.toNat, by simp; omega, by omega⟩
theorem div_pow (n k : Nat) : n / 256 ^ (k + 1) = n / 256 ^ k / 256 := by rw [Nat.pow_succ, Nat.div_div_eq_div_mul]
set_option maxHeartbeats 800000 in
theorem little_any (n s : Nat) (hn : n < 18446744073709551616) (hs : s ≤ 8) (v : Value) (xs : List Int) (w0 w : World) (HO : GrB w w0.heap.size v xs) (HB : Below w0.heap.size w0 w) (hl : xs.length + 8 ≤ 140737488355328) :
    Calls Tryd.prog 31 #[v, .int .u64 (n : Nat), .int .i64 (s : Nat)] w fun e w' => ∃ v', e = .returned v' ∧ AppB w0 w w' v v' (xs ++ le n s) := by
  have hR0 : AppB w0 w w v v (xs ++ le n 0) := ⟨by rw [le_zero, List.append_nil]; exact HO, HB, Fr.refl _ _⟩
  clear HO HB
  go_enter Tryd.func31, Tryd.ntmps31
  go_wp2_with fail
  go_loopw [0, 1, 8] (fun b m i wr => ∃ k : Nat, k ≤ s ∧ i = .int .i64 k ∧ m = .int .u64 ((n / 256 ^ k : Nat) : Int) ∧ AppB w0 w wr v b (xs ++ le n k)) (fun _ _ i _ => s - (intOf i).toNat)
  case atStart => exact ⟨0, Nat.zero_le _, rfl, by simp, hR0⟩
  case round =>
    obtain ⟨k, hk, rfl, rfl, hR⟩ := hrel
    clear hR0
    have hq : n / 256 ^ k < 18446744073709551616 := Nat.lt_of_le_of_lt (Nat.div_le_self _ _) hn
    have hsn := le_succ n k
    have hd := div_pow n k
    generalize n / 256 ^ k = q at hq hsn hd
    have hm : ((q % 256 : Nat) : Int) = (q : Int) % 256 := by omega
    rw [hm] at hsn
    have hd2 : ((n / 256 ^ (k + 1) : Nat) : Int) = (q : Int) / 256 := by rw [hd]; exact Int.natCast_ediv q 256
    have HS := Lib.hid hsn
    have HD := Lib.hid hd2
    have HR := Lib.hid hR
    clear hsn hd hd2 hm hR
    by_cases hlt : k < s
    · go_wp2_with (at_builtin; refine gapp_one tb rfl (.tmp 10) (.tmp 13) rfl rfl rfl HR.out.own HR.out.bel HR.out.bel.size ?cL ?_; (case cL => rw [List.length_append, le_length]; omega); intro v1 w1 ho hb hs1 hf; rw [List.append_assoc, ← HS.out] at ho; have hR1 : AppB w0 w w1 v v1 (xs ++ le n (k + 1)) := ⟨ho, hb, HR.out.fr.trans hf⟩; clear ho hb hs1 hf)
      go_roundw
      case rel => exact ⟨k + 1, by omega, by go_num, by rw [HD.out], hR1⟩
      case measure => simp [intOf]; omega
    · obtain rfl : k = s := by omega
      go_wp2_with fail
      go_ret
      exact ⟨_, rfl, HR.out⟩
set_option maxHeartbeats 800000 in
theorem putLittle_any (n : Nat) (size : Int) (hn : n < 18446744073709551616) (v : Value) (xs : List Int) (w0 w : World) (HO : GrB w w0.heap.size v xs) (HB : Below w0.heap.size w0 w) (hl : xs.length + 8 ≤ 140737488355328) :
    Calls Tryd.prog 29 #[v, .int .u64 (n : Nat), .int .i64 size] w fun e w' => ∃ v', e = .returned v' ∧ AppB w0 w w' v v' (xs ++ le n (min size.toNat 8)) := by
  have h1 : mx 0 (mn size 8) = ((min size.toNat 8 : Nat) : Int) := by unfold mx mn; split <;> split <;> omega
  have hmin : ∀ W : World, (Builtin.min_ #[3, 3] 3 #[.int .i64 size, .int .i64 8]).run Tryd.prog W = .ok (.int .i64 (mn size 8)) W := fun W => run_min2 _ _ W
  generalize mn size 8 = m at h1 hmin
  have hmax : ∀ W : World, (Builtin.max_ #[3, 3] 3 #[.int .i64 0, .int .i64 m]).run Tryd.prog W = .ok (.int .i64 ((min size.toNat 8 : Nat) : Int)) W := fun W => by rw [run_max2, h1]
  have hs : min size.toNat 8 ≤ 8 := by omega
  clear h1
  generalize min size.toNat 8 = s at hmax hs ⊢
  have C := Lib.hid (little_any n s hn hs v xs w0 w HO HB hl)
  clear HO HB
  go_enter Tryd.func29, Tryd.ntmps29
  go_wp2_with fail
  refine C.out.mono ?_
  rintro e w' ⟨v', rfl, hA⟩
  have HA := Lib.hid hA
  clear hA
  go_wp2_with fail
  go_ret
  exact ⟨_, rfl, HA.out⟩
theorem or_add (a x c : Nat) (hx : x < 256) (ha : a < 72057594037927936) : Go.bits .or .u64 ((a : Int) * 256) (x : Int) = ((x + 256 * a : Nat) : Int) := by
  have h := u64_or_nat (a * 256) x (by omega) (by omega)
  have h2 : a * 256 ||| x = x + 256 * a := by
    rw [Nat.mul_comm, show (256 : Nat) * a = 2 ^ 8 * a from rfl, ← Nat.two_pow_add_eq_or_of_lt hx]
    omega
  rw [h2] at h
  rw [← h]
  simp
set_option maxHeartbeats 800000 in
theorem little_val (A : Option Addr) (n c : Nat) (l : List Int) (w : World) (hr : Rds .u8 w A n l) (hl : l.length = n) (hn : n ≤ 9223372036854775807) (hb : Byte l) :
    Calls Tryd.prog 30 #[.slice A n c] w fun e w' => e = .returned (.int .u64 (leVal (l.take 8) : Nat)) ∧ w = w' := by
  have hmin : ∀ W : World, (Builtin.min_ #[3, 3] 3 #[.int .i64 (n : Int), .int .i64 8]).run Tryd.prog W = .ok (.int .i64 ((min n 8 : Nat) : Int)) W := fun W => by rw [run_min2, show (8 : Int) = ((8 : Nat) : Int) from rfl, mn_nat]
  have hL : (l.take 8).length = min n 8 := by rw [List.length_take, hl]; omega
  have hbt := hb.take 8
  have hg : ∀ k, k < min n 8 → (l.take 8).getD k 0 = l.getD k 0 := fun k hk => by
    rw [List.getD_eq_getElem?_getD, List.getD_eq_getElem?_getD, List.getElem?_take, if_pos (by omega)]
  have hm8 : min n 8 ≤ 8 := by omega
  have hmn : min n 8 ≤ n := by omega
  generalize min n 8 = m at hmin hL hg hm8 hmn
  generalize l.take 8 = t at hL hbt hg ⊢
  have HG := Lib.hid hg
  have HL := Lib.hid hL
  have hz : leVal (t.drop m) = 0 := by rw [List.drop_eq_nil_of_le (by omega)]; rfl
  have HZ := Lib.hid hz
  clear hg hL hl hz
  go_enter Tryd.func30, Tryd.ntmps30
  go_wp2_with fail
  go_loop [3, 4] (fun r i => ∃ p : Int, -1 ≤ p ∧ p < m ∧ i = .int .i64 p ∧ r = .int .u64 ((leVal (t.drop (p + 1).toNat) : Nat) : Int)) (fun _ i => (intOf i + 1).toNat)
  case atStart => exact ⟨(m : Int) - 1, by omega, by omega, rfl, by rw [show ((m : Int) - 1 + 1).toNat = m by omega, HZ.out]; rfl⟩
  case round =>
    obtain ⟨p, hp1, hp2, rfl, rfl⟩ := hrel
    by_cases h0 : 0 ≤ p
    · obtain ⟨k, rfl⟩ := Int.eq_ofNat_of_zero_le h0
      obtain ⟨ad, e1, hc⟩ := rds_at 0 hr k (by omega)
      subst e1
      obtain ⟨x, hx, hxl⟩ := getD_nat hb k
      have hd := leVal_drop t k (by rw [HL.out]; omega)
      rw [HG.out k (by omega), hx, Int.toNat_natCast] at hd
      rw [hx] at hc
      have hlt : leVal (t.drop (k + 1)) < 72057594037927936 := by
        have h1 := leVal_lt (hbt.drop (k + 1))
        rw [List.length_drop, HL.out] at h1
        have h2 : 256 ^ (m - (k + 1)) ≤ 256 ^ 7 := Nat.pow_le_pow_right (by omega) (by omega)
        have h3 : 256 ^ 7 = 72057594037927936 := by decide
        omega
      rw [show ((k : Int) + 1).toNat = k + 1 by omega]
      generalize leVal (t.drop (k + 1)) = q at hd hlt ⊢
      have hor := or_add q x 0 hxl hlt
      have HD := Lib.hid hd
      have i0 : (0 : Int) ≤ (k : Int) := Int.natCast_nonneg _
      have i1 : (k : Int) < (n : Int) := by omega
      clear hd
      go_wp2_with fail
      go_round
      case rel => exact ⟨(k : Int) - 1, by omega, by omega, rfl, by rw [show ((k : Int) - 1 + 1).toNat = k by omega, HD.out]; go_num⟩
      case measure => simp [intOf]
    · obtain rfl : p = -1 := by omega
      go_wp2_with fail
      go_ret
      exact ⟨rfl, rfl⟩
end Go.Proofs.YtakjmhcdmchgdaaDoor.Num
