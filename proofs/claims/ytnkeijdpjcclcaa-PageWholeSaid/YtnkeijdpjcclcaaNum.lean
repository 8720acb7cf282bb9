/- Contracts of package num: each call's answer by the plain functions of NumPure. -/
import Derived.Test.YtnkeijdpjcclcaaKit2
import Derived.Test.YtnkeijdpjcclcaaNumPure
namespace Go.Proofs.Ytnkeijdpjcclcaa.Num
set_option linter.unusedVariables false
open Go.Proofs.Ytnkeijdpjcclcaa.Kit Go.RowKit Go.Proofs.YtnkeijdpjcclcaaW.PrintWords Go.Proofs.YtnkeijdpjcclcaaW.PrintLast Go.Proofs.YtnkeijdpjcclcaaW.PrintMore NumPure

theorem infob : (Try.prog.info? 5).map (fun i => (i.zero, i.size, i.bytes)) = some (some (.int .u8 0), 1, 1) := by kernel_rfl
theorem tb : SlTy Try.prog 25 5 (.int .u8 0) 1 := ⟨Try.underlying25, infob, rfl, by decide⟩
abbrev GrB (w : World) (B : Nat) (v : Value) (xs : List Int) : Prop := Gr .u8 5 w B v xs
abbrev OwnB (w : World) (B : Nat) (v : Value) (xs : List Int) : Prop := Own .u8 5 w B v xs
abbrev AppB (w0 w wr : World) (v vr : Value) (xs : List Int) : Prop := App .u8 5 w0 w wr v vr xs
theorem getD_nat {l : List Int} (h : Byte l) (i : Nat) : ∃ a : Nat, l.getD i 0 = (a : Int) ∧ a < 256 := by
  rw [List.getD_eq_getElem?_getD]
  cases hi : l[i]? with
  | none => exact ⟨0, rfl, by omega⟩
  | some x =>
    have := h x (List.mem_of_getElem? hi)
    exact ⟨x.toNat, by simp; omega, by omega⟩
theorem div_pow (n k : Nat) : n / 256 ^ (k + 1) = n / 256 ^ k / 256 := by rw [Nat.pow_succ, Nat.div_div_eq_div_mul]
set_option maxHeartbeats 800000 in
theorem little_any (n s : Nat) (hn : n < 18446744073709551616) (hs : s ≤ 8) (v : Value) (xs : List Int) (w0 w : World) (HO : GrB w w0.heap.size v xs) (HB : Below w0.heap.size w0 w) (hl : xs.length + 8 ≤ 140737488355328) :
    Calls Try.prog 46 #[v, .int .u64 (n : Nat), .int .i64 (s : Nat)] w fun e w' => ∃ v', e = .returned v' ∧ AppB w0 w w' v v' (xs ++ le n s) := by
  have hR0 : AppB w0 w w v v (xs ++ le n 0) := ⟨by rw [le_zero, List.append_nil]; exact HO, HB, Fr.refl _ _⟩
  clear HO HB
  go_enter Try.func46, Try.ntmps46
  go_wp2_with fail
  go_loopw [0, 1, 8] (fun b m i wr => ∃ k : Nat, k ≤ s ∧ i = .int .i64 k ∧ m = .int .u64 ((n / 256 ^ k : Nat) : Int) ∧ AppB w0 w wr v b (xs ++ le n k)) (fun _ _ i _ => s - (intOf i).toNat)
  case atStart => exact ⟨0, Nat.zero_le _, rfl, by simp, hR0⟩
  case round =>
    obtain ⟨k, hk, rfl, rfl, hR⟩ := hrel
    clear hR0
    have hq : n / 256 ^ k < 18446744073709551616 := Nat.lt_of_le_of_lt (Nat.div_le_self _ _) hn
    have hsn := le_succ n k
    have hd := div_pow n k
    generalize n / 256 ^ k = q at hq hsn hd
    have hm : ((q % 256 : Nat) : Int) = (q : Int) % 256 := by omega
    rw [hm] at hsn
    have hd2 : ((n / 256 ^ (k + 1) : Nat) : Int) = (q : Int) / 256 := by rw [hd]; exact Int.natCast_ediv q 256
    have HS := Lib.hid hsn
    have HD := Lib.hid hd2
    have HR := Lib.hid hR
    clear hsn hd hd2 hm hR
    by_cases hlt : k < s
    · go_wp2_with (at_builtin; refine gapp_one tb rfl (.tmp 10) (.tmp 13) rfl rfl rfl HR.out.own HR.out.bel HR.out.bel.size ?cL ?_; (case cL => rw [List.length_append, le_length]; omega); intro v1 w1 ho hb hs1 hf; rw [List.append_assoc, ← HS.out] at ho; have hR1 : AppB w0 w w1 v v1 (xs ++ le n (k + 1)) := ⟨ho, hb, HR.out.fr.trans hf⟩; clear ho hb hs1 hf)
      go_roundw
      case rel => exact ⟨k + 1, by omega, by go_num, by rw [HD.out], hR1⟩
      case measure => simp [intOf]; omega
    · obtain rfl : k = s := by omega
      go_wp2_with fail
      go_ret
      exact ⟨_, rfl, HR.out⟩
set_option maxHeartbeats 800000 in
theorem putLittle_any (n : Nat) (size : Int) (hn : n < 18446744073709551616) (v : Value) (xs : List Int) (w0 w : World) (HO : GrB w w0.heap.size v xs) (HB : Below w0.heap.size w0 w) (hl : xs.length + 8 ≤ 140737488355328) :
    Calls Try.prog 17 #[v, .int .u64 (n : Nat), .int .i64 size] w fun e w' => ∃ v', e = .returned v' ∧ AppB w0 w w' v v' (xs ++ le n (min size.toNat 8)) := by
  have h1 : mx 0 (mn size 8) = ((min size.toNat 8 : Nat) : Int) := by unfold mx mn; split <;> split <;> omega
  have hmin : ∀ W : World, (Builtin.min_ #[3, 3] 3 #[.int .i64 size, .int .i64 8]).run Try.prog W = .ok (.int .i64 (mn size 8)) W := fun W => run_min2 _ _ W
  generalize mn size 8 = m at h1 hmin
  have hmax : ∀ W : World, (Builtin.max_ #[3, 3] 3 #[.int .i64 0, .int .i64 m]).run Try.prog W = .ok (.int .i64 ((min size.toNat 8 : Nat) : Int)) W := fun W => by rw [run_max2, h1]
  have hs : min size.toNat 8 ≤ 8 := by omega
  clear h1
  generalize min size.toNat 8 = s at hmax hs ⊢
  have C := Lib.hid (little_any n s hn hs v xs w0 w HO HB hl)
  clear HO HB
  go_enter Try.func17, Try.ntmps17
  go_wp2_with fail
  refine C.out.mono ?_
  rintro e w' ⟨v', rfl, hA⟩
  have HA := Lib.hid hA
  clear hA
  go_wp2_with fail
  go_ret
  exact ⟨_, rfl, HA.out⟩
theorem or_add (a x c : Nat) (hx : x < 256) (ha : a < 72057594037927936) : Go.bits .or .u64 ((a : Int) * 256) (x : Int) = ((x + 256 * a : Nat) : Int) := by
  have h := u64_or_nat (a * 256) x (by omega) (by omega)
  have h2 : a * 256 ||| x = x + 256 * a := by
    rw [Nat.mul_comm, show (256 : Nat) * a = 2 ^ 8 * a from rfl, ← Nat.two_pow_add_eq_or_of_lt hx]
    omega
  rw [h2] at h
  rw [← h]
  simp
set_option maxHeartbeats 800000 in
theorem little_val (A : Option Addr) (n c : Nat) (l : List Int) (w : World) (hr : Rds .u8 w A n l) (hl : l.length = n) (hn : n ≤ 9223372036854775807) (hb : Byte l) :
    Calls Try.prog 22 #[.slice A n c] w fun e w' => e = .returned (.int .u64 (leVal (l.take 8) : Nat)) ∧ w = w' := by
  have hmin : ∀ W : World, (Builtin.min_ #[3, 3] 3 #[.int .i64 (n : Int), .int .i64 8]).run Try.prog W = .ok (.int .i64 ((min n 8 : Nat) : Int)) W := fun W => by rw [run_min2, show (8 : Int) = ((8 : Nat) : Int) from rfl, mn_nat]
  have hL : (l.take 8).length = min n 8 := by rw [List.length_take, hl]; omega
  have hbt := hb.take 8
  have hg : ∀ k, k < min n 8 → (l.take 8).getD k 0 = l.getD k 0 := fun k hk => by
    rw [List.getD_eq_getElem?_getD, List.getD_eq_getElem?_getD, List.getElem?_take, if_pos (by omega)]
  have hm8 : min n 8 ≤ 8 := by omega
  have hmn : min n 8 ≤ n := by omega
  generalize min n 8 = m at hmin hL hg hm8 hmn
  generalize l.take 8 = t at hL hbt hg ⊢
  have HG := Lib.hid hg
  have HL := Lib.hid hL
  have hz : leVal (t.drop m) = 0 := by rw [List.drop_eq_nil_of_le (by omega)]; rfl
  have HZ := Lib.hid hz
  clear hg hL hl hz
  go_enter Try.func22, Try.ntmps22
  go_wp2_with fail
  go_loop [3, 4] (fun r i => ∃ p : Int, -1 ≤ p ∧ p < m ∧ i = .int .i64 p ∧ r = .int .u64 ((leVal (t.drop (p + 1).toNat) : Nat) : Int)) (fun _ i => (intOf i + 1).toNat)
  case atStart => exact ⟨(m : Int) - 1, by omega, by omega, rfl, by rw [show ((m : Int) - 1 + 1).toNat = m by omega, HZ.out]; rfl⟩
  case round =>
    obtain ⟨p, hp1, hp2, rfl, rfl⟩ := hrel
    by_cases h0 : 0 ≤ p
    · obtain ⟨k, rfl⟩ := Int.eq_ofNat_of_zero_le h0
      obtain ⟨ad, e1, hc⟩ := rds_at 0 hr k (by omega)
      subst e1
      obtain ⟨x, hx, hxl⟩ := getD_nat hb k
      have hd := leVal_drop t k (by rw [HL.out]; omega)
      rw [HG.out k (by omega), hx, Int.toNat_natCast] at hd
      rw [hx] at hc
      have hlt : leVal (t.drop (k + 1)) < 72057594037927936 := by
        have h1 := leVal_lt (hbt.drop (k + 1))
        rw [List.length_drop, HL.out] at h1
        have h2 : 256 ^ (m - (k + 1)) ≤ 256 ^ 7 := Nat.pow_le_pow_right (by omega) (by omega)
        have h3 : 256 ^ 7 = 72057594037927936 := by decide
        omega
      rw [show ((k : Int) + 1).toNat = k + 1 by omega]
      generalize leVal (t.drop (k + 1)) = q at hd hlt ⊢
      have hor := or_add q x 0 hxl hlt
      have HD := Lib.hid hd
      have i0 : (0 : Int) ≤ (k : Int) := Int.natCast_nonneg _
      have i1 : (k : Int) < (n : Int) := by omega
      clear hd
      go_wp2_with fail
      go_round
      case rel => exact ⟨(k : Int) - 1, by omega, by omega, rfl, by rw [show ((k : Int) - 1 + 1).toNat = k by omega, HD.out]; go_num⟩
      case measure => simp [intOf]
    · obtain rfl : p = -1 := by omega
      go_wp2_with fail
      go_ret
      exact ⟨rfl, rfl⟩
theorem beVal_take (t : List Int) (k : Nat) (h : k < t.length) : beVal (t.take (k + 1)) = beVal (t.take k) * 256 + (t.getD k 0).toNat := by
  rw [List.take_succ_eq_append_getElem h, beVal_snoc, List.getD_eq_getElem?_getD, List.getElem?_eq_getElem h]
  rfl
set_option maxHeartbeats 800000 in
theorem big_val (A : Option Addr) (n c : Nat) (l : List Int) (w : World) (hr : Rds .u8 w A n l) (hl : l.length = n) (hn : n ≤ 9223372036854775807) (hc : n ≤ c) (hb : Byte l) :
    Calls Try.prog 60 #[.slice A n c] w fun e w' => e = .returned (.int .u64 (beVal (l.take 8) : Nat)) ∧ w = w' := by
  have hmin : ∀ W : World, (Builtin.min_ #[3, 3] 3 #[.int .i64 (n : Int), .int .i64 8]).run Try.prog W = .ok (.int .i64 ((min n 8 : Nat) : Int)) W := fun W => by rw [run_min2, show (8 : Int) = ((8 : Nat) : Int) from rfl, mn_nat]
  have hL : (l.take 8).length = min n 8 := by rw [List.length_take, hl]; omega
  have hbt := hb.take 8
  have hg : ∀ k, k < min n 8 → (l.take 8).getD k 0 = l.getD k 0 := fun k hk => by
    rw [List.getD_eq_getElem?_getD, List.getD_eq_getElem?_getD, List.getElem?_take, if_pos (by omega)]
  have hm8 : min n 8 ≤ 8 := by omega
  have hmn : min n 8 ≤ n := by omega
  generalize min n 8 = m at hmin hL hg hm8 hmn
  generalize l.take 8 = t at hL hbt hg ⊢
  obtain ⟨hcut, _⟩ := cut_to (enc := Value.int .u8) (h1 := int_one .u8) 0 tb A n c m hmn hc (m : Int) rfl
  have HG := Lib.hid hg
  have HL := Lib.hid hL
  clear hg hL hl
  go_enter Try.func60, Try.ntmps60
  go_wp2_with fail
  go_loop [3, 12] (fun r i => ∃ k : Nat, k ≤ m ∧ i = .int .i64 k ∧ r = .int .u64 ((beVal (t.take k) : Nat) : Int)) (fun _ i => m - (intOf i).toNat)
  case atStart => exact ⟨0, Nat.zero_le _, rfl, rfl⟩
  case round =>
    obtain ⟨k, hk, rfl, rfl⟩ := hrel
    by_cases hlt : k < m
    · obtain ⟨ad, e1, hc⟩ := rds_at 0 hr k (by omega)
      subst e1
      obtain ⟨x, hx, hxl⟩ := getD_nat hb k
      have hd := beVal_take t k (by rw [HL.out]; omega)
      rw [HG.out k hlt, hx, Int.toNat_natCast] at hd
      rw [hx] at hc
      have hlt7 : beVal (t.take k) < 72057594037927936 := by
        have h1 := beVal_lt (hbt.take k)
        have h2 : 256 ^ (t.take k).length ≤ 256 ^ 7 := Nat.pow_le_pow_right (by omega) (by rw [List.length_take, HL.out]; omega)
        have h3 : 256 ^ 7 = 72057594037927936 := by decide
        omega
      generalize beVal (t.take k) = q at hd hlt7 ⊢
      have hor := or_add q x 0 hxl hlt7
      have hd2 : ((beVal (t.take (k + 1)) : Nat) : Int) = (x + 256 * q : Nat) := by rw [hd]; omega
      have HD := Lib.hid hd2
      have i0 : (0 : Int) ≤ (k : Int) := Int.natCast_nonneg _
      have i1 : (k : Int) < (n : Int) := by omega
      clear hd hd2
      go_wp2_with fail
      go_round
      case rel => exact ⟨k + 1, by omega, by go_num, by rw [HD.out]; go_num⟩
      case measure => simp [intOf]; omega
    · obtain rfl : k = m := by omega
      rw [List.take_of_length_le (by rw [HL.out]; omega)]
      go_wp2_with fail
      go_ret
      exact ⟨rfl, rfl⟩
theorem or_128 (m : Nat) : Go.bits .or .u8 ((m : Int) % 256) 128 = ((m % 128 + 128 : Nat) : Int) := by
  have h := u8_or_nat (m % 256) 128 (by omega) (by omega)
  have h2 : m % 256 ||| 128 = m % 128 + 128 := by
    have hx : m % 256 < 256 := by omega
    have key : ∀ x, x < 256 → x ||| 128 = x % 128 + 128 := by decide +kernel
    rw [key _ hx]
    omega
  rw [h2] at h
  rw [← h]
  rfl
structure PutRel (w0 w wr : World) (v b : Value) (xs : List Int) (n m : Nat) : Prop where
  app : ∃ done : List Int, AppB w0 w wr v b (xs ++ done) ∧ done ++ put7 m = put7 n
  lt : m < 18446744073709551616
set_option maxRecDepth 20000 in
set_option maxHeartbeats 800000 in
theorem put_any (n : Nat) (hn : n < 18446744073709551616) (v : Value) (xs : List Int) (w0 w : World) (HO : GrB w w0.heap.size v xs) (HB : Below w0.heap.size w0 w) (hl : xs.length + 10 ≤ 140737488355328) :
    Calls Try.prog 18 #[v, .int .u64 (n : Nat)] w fun e w' => ∃ v', e = .returned v' ∧ AppB w0 w w' v v' (xs ++ put7 n) := by
  have hR0 : PutRel w0 w w v v xs n n := ⟨⟨[], ⟨by rw [List.append_nil]; exact HO, HB, Fr.refl _ _⟩, rfl⟩, hn⟩
  have HN := Lib.hid hn
  clear HO HB hn
  go_enter Try.func18, Try.ntmps18
  go_wp2_with fail
  go_loopw [0, 1] (fun b m wr => ∃ q : Nat, m = .int .u64 (q : Int) ∧ PutRel w0 w wr v b xs n q) (fun _ m _ => (intOf m).toNat)
  case atStart => exact ⟨n, rfl, hR0⟩
  case round =>
    obtain ⟨q, rfl, ⟨done, hA, hd⟩, hq⟩ := hrel
    clear hR0
    have hlen : done.length + (put7 q).length ≤ 10 := by rw [← List.length_append, hd]; exact put7_len10 HN.out
    have hp := put7_pos q
    have HQ := Lib.hid hq
    clear hq
    by_cases hb : q < 128
    · have hm : (q : Int) % 256 = (q : Int) := by omega
      rw [put7_small hb] at hd
      have HD := Lib.hid hd
      have HA := Lib.hid hA
      clear hd hA
      go_wp2_with (at_builtin; refine gapp_one tb rfl (.tmp 15) (.tmp 18) rfl rfl rfl HA.out.own HA.out.bel HA.out.bel.size ?cL ?_; (case cL => rw [List.length_append]; omega); intro v1 w1 ho hb1 hs1 hf; rw [List.append_assoc, HD.out] at ho; have hR1 : AppB w0 w w1 v v1 (xs ++ put7 n) := ⟨ho, hb1, HA.out.fr.trans hf⟩; clear ho hb1 hs1 hf)
      go_ret
      exact ⟨_, rfl, hR1⟩
    · have ho128 := or_128 q
      rw [put7_big hb] at hd
      rw [show done ++ ((q % 128 + 128 : Nat) : Int) :: put7 (q / 128) = (done ++ [((q % 128 + 128 : Nat) : Int)]) ++ put7 (q / 128) by simp] at hd
      have hdv : ((q / 128 : Nat) : Int) = (q : Int) / 128 := Int.natCast_ediv q 128
      generalize hgg : ((q % 128 + 128 : Nat) : Int) = g at ho128 hd
      have HD := Lib.hid hd
      have HA := Lib.hid hA
      have HV := Lib.hid hdv
      clear hd hA hdv hgg
      go_wp2_with (at_builtin; refine gapp_one tb rfl (.tmp 7) (.tmp 11) rfl rfl rfl HA.out.own HA.out.bel HA.out.bel.size ?cL ?_; (case cL => rw [List.length_append]; omega); intro v1 w1 ho hb1 hs1 hf; rw [List.append_assoc] at ho; have hR1 : PutRel w0 w w1 v v1 xs n (q / 128) := ⟨⟨_, ⟨ho, hb1, HA.out.fr.trans hf⟩, HD.out⟩, Nat.lt_of_le_of_lt (Nat.div_le_self _ _) HQ.out⟩; clear ho hb1 hs1 hf)
      go_roundw
      case rel => exact ⟨q / 128, by rw [HV.out], hR1⟩
      case measure => simp [intOf]; omega
theorem be_drop (n s p : Nat) (hp : p < s) : ∃ done : List Int, be n s = done ++ be n (p + 1) ∧ done.length + (p + 1) = s := by
  refine ⟨(be n s).take (s - (p + 1)), ?_, ?_⟩
  · induction s with
    | zero => omega
    | succ s ih =>
      by_cases h : p = s
      · subst h; simp
      · have := ih (by omega)
        rw [be_succ, show s + 1 - (p + 1) = (s - (p + 1)) + 1 by omega, List.take_succ_cons, List.cons_append, ← this]
  · rw [List.length_take, be_length]; omega
structure BigRel (w0 w wr : World) (v b : Value) (xs : List Int) (n s j : Nat) : Prop where
  app : ∃ done : List Int, AppB w0 w wr v b (xs ++ done) ∧ done ++ be n j = be n s
  le : j ≤ s
set_option maxRecDepth 20000 in
set_option maxHeartbeats 800000 in
theorem putBig_any (n : Nat) (size : Int) (hn : n < 18446744073709551616) (v : Value) (xs : List Int) (w0 w : World) (HO : GrB w w0.heap.size v xs) (HB : Below w0.heap.size w0 w) (hl : xs.length + 8 ≤ 140737488355328) :
    Calls Try.prog 71 #[v, .int .u64 (n : Nat), .int .i64 size] w fun e w' => ∃ v', e = .returned v' ∧ AppB w0 w w' v v' (xs ++ be n (min size.toNat 8)) := by
  have h1 : mx 0 (mn size 8) = ((min size.toNat 8 : Nat) : Int) := by unfold mx mn; split <;> split <;> omega
  have hmin : ∀ W : World, (Builtin.min_ #[3, 3] 3 #[.int .i64 size, .int .i64 8]).run Try.prog W = .ok (.int .i64 (mn size 8)) W := fun W => run_min2 _ _ W
  generalize mn size 8 = m at h1 hmin
  have hmax : ∀ W : World, (Builtin.max_ #[3, 3] 3 #[.int .i64 0, .int .i64 m]).run Try.prog W = .ok (.int .i64 ((min size.toNat 8 : Nat) : Int)) W := fun W => by rw [run_max2, h1]
  have hs : min size.toNat 8 ≤ 8 := by omega
  clear h1
  generalize min size.toNat 8 = s at hmax hs ⊢
  have hR0 : BigRel w0 w w v v xs n s s := ⟨⟨[], ⟨by rw [List.append_nil]; exact HO, HB, Fr.refl _ _⟩, rfl⟩, Nat.le_refl _⟩
  have HN := Lib.hid hn
  clear HO HB hn
  go_enter Try.func71, Try.ntmps71
  go_wp2_with fail
  go_loopw [0, 7] (fun b i wr => ∃ p : Int, -1 ≤ p ∧ p < s ∧ i = .int .i64 p ∧ BigRel w0 w wr v b xs n s (p + 1).toNat) (fun _ i _ => (intOf i + 1).toNat)
  case atStart => exact ⟨(s : Int) - 1, by omega, by omega, rfl, by rw [show ((s : Int) - 1 + 1).toNat = s by omega]; exact hR0⟩
  case round =>
    obtain ⟨p, hp1, hp2, rfl, ⟨done, hA, hd⟩, hle⟩ := hrel
    clear hR0
    by_cases h0 : 0 ≤ p
    · obtain ⟨k, rfl⟩ := Int.eq_ofNat_of_zero_le h0
      rw [show ((k : Int) + 1).toNat = k + 1 by omega, be_succ, show done ++ ((n / 256 ^ k % 256 : Nat) : Int) :: be n k = (done ++ [((n / 256 ^ k % 256 : Nat) : Int)]) ++ be n k by simp] at hd
      have hlen : done.length + 1 + k = s := by have := congrArg List.length hd; simp [be_length] at this; omega
      have hsh : (n : Int) / 2 ^ (8 * k) % 256 = ((n / 256 ^ k % 256 : Nat) : Int) := by
        rw [show (256 : Nat) = 2 ^ 8 from rfl, ← Nat.pow_mul]
        simp
      generalize ((n / 256 ^ k % 256 : Nat) : Int) = g at hd hsh
      have HD := Lib.hid hd
      have HA := Lib.hid hA
      have hlen2 : done.length < s := by omega
      clear hd hA hlen
      go_wp2_with (at_builtin; refine gapp_one tb rfl (.tmp 16) (.tmp 22) rfl rfl rfl HA.out.own HA.out.bel HA.out.bel.size ?cL ?_; (case cL => rw [List.length_append]; omega); intro v1 w1 ho hb1 hs1 hf; rw [List.append_assoc] at ho; have hR1 : BigRel w0 w w1 v v1 xs n s k := ⟨⟨_, ⟨ho, hb1, HA.out.fr.trans hf⟩, HD.out⟩, by omega⟩; clear ho hb1 hs1 hf)
      go_roundw
      case rel => exact ⟨(k : Int) - 1, by omega, by omega, rfl, by rw [show ((k : Int) - 1 + 1).toNat = k by omega]; exact hR1⟩
      case measure => simp [intOf]
    · obtain rfl : p = -1 := by omega
      have hd2 : done = be n s := by rw [← hd]; simp [be, le]
      rw [hd2] at hA
      have HA := Lib.hid hA
      clear hA hd hd2
      go_wp2_with fail
      go_ret
      exact ⟨_, rfl, HA.out⟩
theorem and_127 (x : Nat) (h : x < 256) : Go.bits .and .u8 (x : Int) 127 = ((x % 128 : Nat) : Int) := by
  have h1 := u8_and_nat x 127 h (by omega)
  rw [show ((127 : Nat) : Int) = 127 from rfl] at h1
  rw [h1]
  congr 1
  exact Nat.and_two_pow_sub_one_eq_mod x 7
theorem get_step (i acc x : Nat) (hi : i ≤ 9) (h9 : i = 9 → x ≤ 1) (hx : x < 256) (ha : acc < 2 ^ (7 * i)) :
    x % 128 * 2 ^ (7 * i) < 18446744073709551616 ∧ acc + x % 128 * 2 ^ (7 * i) < 2 ^ (7 * (i + 1)) ∧ Go.bits .or .u64 (acc : Int) ((x % 128 * 2 ^ (7 * i) : Nat) : Int) = ((acc + x % 128 * 2 ^ (7 * i) : Nat) : Int) ∧ (i < 9 ∨ acc + x % 128 * 2 ^ (7 * i) < 18446744073709551616) := by
  have hp : 2 ^ (7 * i) ≤ 2 ^ 63 := Nat.pow_le_pow_right (by omega) (by omega)
  have h63 : 2 ^ 63 = 9223372036854775808 := by decide
  have hs : 2 ^ (7 * (i + 1)) = 128 * 2 ^ (7 * i) := by rw [show 7 * (i + 1) = 7 + 7 * i by omega, Nat.pow_add]
  have h1 : x % 128 * 2 ^ (7 * i) < 18446744073709551616 := by
    by_cases h : i = 9
    · have := h9 h
      subst h
      omega
    · have hp2 : 2 ^ (7 * i) ≤ 2 ^ 56 := Nat.pow_le_pow_right (by omega) (by omega)
      have h56 : 2 ^ 56 = 72057594037927936 := by decide
      have h3 : x % 128 * 2 ^ (7 * i) ≤ 127 * 2 ^ (7 * i) := Nat.mul_le_mul_right _ (by omega)
      omega
  have h2 : acc + x % 128 * 2 ^ (7 * i) < 2 ^ (7 * (i + 1)) := by
    have h3 : x % 128 * 2 ^ (7 * i) ≤ 127 * 2 ^ (7 * i) := Nat.mul_le_mul_right _ (by omega)
    omega
  have h4 : acc + x % 128 * 2 ^ (7 * i) < 18446744073709551616 := by
    by_cases h : i = 9
    · have := h9 h
      subst h
      omega
    · have hp2 : 2 ^ (7 * (i + 1)) ≤ 2 ^ 63 := Nat.pow_le_pow_right (by omega) (by omega)
      omega
  refine ⟨h1, h2, ?_, .inr h4⟩
  rw [u64_or_nat acc _ (by omega) h1]
  congr 1
  rw [Nat.mul_comm, Nat.or_comm, ← Nat.two_pow_add_eq_or_of_lt ha]
  omega
theorem wrap_nat (p : Nat) (h : p < 18446744073709551616) : IntKind.u64.wrap (p : Int) = (p : Int) := by
  have h1 : IntKind.u64.wrap (p : Int) = (p : Int) % 18446744073709551616 := by simp [IntKind.wrap, IntKind.bits, IntKind.signed]
  rw [h1]
  omega
/-- What a call answers: three numbers. -/
def three (a b e : Int) : Ending := .returned (.tuple #[.int .u64 a, .int .i64 b, .int .i64 e])
set_option maxRecDepth 20000 in
set_option maxHeartbeats 1600000 in
theorem get_any (A : Option Addr) (n c : Nat) (l : List Int) (w : World) (hr : Rds .u8 w A n l) (hl : l.length = n) (hn : n ≤ 9223372036854775807) (hb : Byte l) :
    Calls Try.prog 67 #[.slice A n c] w fun e w' => e = three ((get l).1 : Nat) ((get l).2.1 : Nat) ((get l).2.2 : Nat) ∧ w = w' := by
  have HL := Lib.hid hl
  clear hl
  go_enter Try.func67, Try.ntmps67
  go_wp2_with fail
  go_loop [5, 10] (fun r i => ∃ k acc : Nat, k ≤ n ∧ k ≤ 9 ∧ i = .int .i64 k ∧ r = .int .u64 (acc : Int) ∧ Hid (acc < 2 ^ (7 * k)) ∧ Hid (getAt k acc (l.drop k) = get l)) (fun _ i => n - (intOf i).toNat)
  case atStart => exact ⟨0, 0, Nat.zero_le _, by omega, rfl, rfl, Lib.hid (by omega), Lib.hid rfl⟩
  case round =>
    obtain ⟨k, acc, hk, hk9, rfl, rfl, HA, HG⟩ := hrel
    by_cases hlt : k < n
    · obtain ⟨ad, e1, hc⟩ := rds_at 0 hr k hlt
      subst e1
      obtain ⟨x, hx, hxl⟩ := getD_nat hb k
      have hg := HG.out
      rw [List.drop_eq_getElem_cons (by rw [HL.out]; exact hlt)] at hg
      have hx2 : l[k]'(by rw [HL.out]; exact hlt) = (x : Int) := by rw [← hx, List.getD_eq_getElem?_getD, List.getElem?_eq_getElem]; rfl
      rw [hx2] at hg
      rw [hx] at hc
      have i0 : (0 : Int) ≤ (k : Int) := Int.natCast_nonneg _
      have i1 : (k : Int) < (n : Int) := by omega
      have HGG := Lib.hid hg
      clear hg hx hx2 HG
      by_cases h9 : k = 9 ∧ 1 < x
      · obtain ⟨h9a, h9b⟩ := h9
        have t1 : ((k : Int) == 9) = true := by simp; omega
        have t2 : decide ((1 : Int) < (x : Int)) = true := by simp; omega
        have hf : get l = (0, 0, 2) := by rw [← HGG.out]; simp only [getAt]; rw [if_pos ⟨h9a, by omega⟩]
        have HF := Lib.hid hf
        clear hf h9a
        go_wp2_with fail
        go_ret3
        exact ⟨by rw [HF.out]; rfl, rfl⟩
      · have hn9 : k = 9 → x ≤ 1 := fun h => by omega
        obtain ⟨g1, g2, g3, _⟩ := get_step k acc x hk9 hn9 hxl HA.out
        have ha := and_127 x hxl
        have hy : x % 128 < 128 := Nat.mod_lt _ (by omega)
        have hxy : x < 128 → x = x % 128 := fun h => by omega
        have HGY : Hid (get l = if (x : Int) < 128 then (if (x : Int) = 0 ∧ 0 < k then (0, 0, 2) else (acc + x % 128 * 2 ^ (7 * k), k + 1, 0)) else getAt (k + 1) (acc + x % 128 * 2 ^ (7 * k)) (l.drop (k + 1))) := Lib.hid (by
          rw [← HGG.out]; simp only [getAt]; rw [if_neg (by omega), Int.toNat_natCast])
        clear HGG
        generalize x % 128 = y at g1 g2 g3 ha hy hxy HGY
        have HXY := Lib.hid hxy
        have hn9' : x ≤ 1 ∨ k ≠ 9 := by omega
        clear hxy hn9 h9
        have hsh : IntKind.u64.wrap ((y : Int) * 2 ^ (7 * k)) = ((y * 2 ^ (7 * k) : Nat) : Int) := by
          rw [show (y : Int) * 2 ^ (7 * k) = ((y * 2 ^ (7 * k) : Nat) : Int) by simp]
          exact wrap_nat _ g1
        generalize y * 2 ^ (7 * k) = P at g1 g2 g3 HGY hsh
        have HB2 := Lib.hid g2
        clear g1 g2
        generalize acc + P = a2 at g3 HB2 HGY
        have i2 : (k : Int) + 1 ≤ 10 := by omega
        have h9 : k = 9 ∧ decide ((1 : Int) < (x : Int)) = false ∨ ((k : Int) == 9) = false := by
          by_cases h : k = 9
          · exact .inl ⟨h, by simp; omega⟩
          · exact .inr (by simp; omega)
        have hx0 : ((x : Int) == 0) = true ∨ ((x : Int) == 0) = false := by cases ((x : Int) == 0) <;> simp
        have hk0 : k = 0 ∨ 0 < k := by omega
        have h128 : x < 128 ∨ (128 ≤ x ∧ k < 9) := by omega
        rcases h128 with h128 | ⟨h128, hk8⟩
        · rcases hx0 with hx0 | hx0
          · have hxz : x = 0 := by simpa using hx0
            rcases hk0 with hk0 | hk0
            · have hf : get l = (a2, 1, 0) := by rw [HGY.out, if_pos (by omega), if_neg (by omega), hk0]
              have HF := Lib.hid hf
              have hk9' : ((k : Int) == 9) = false := by simp; omega
              have hkz : decide ((0 : Int) < (k : Int)) = false := by simp; omega
              have hkz2 : decide (0 < k) = false := by simp; omega
              have hkz3 : ¬ 0 < k := by omega
              have H0 := Lib.hid hk0
              clear hf hxz h9 hk0 hn9'
              go_wp2_with fail
              go_ret3
              exact ⟨by rw [HF.out, H0.out]; rfl, rfl⟩
            · have hf : get l = (0, 0, 2) := by rw [HGY.out, if_pos (by omega), if_pos (by omega)]
              have HF := Lib.hid hf
              have hkz : decide ((0 : Int) < (k : Int)) = true := by simp; omega
              clear hf hxz hn9'
              rcases h9 with ⟨h9, t2⟩ | t1
              · have t1 : ((k : Int) == 9) = true := by simp; omega
                have H9 := Lib.hid h9
                clear h9
                go_wp2_with fail
                go_ret3
                exact ⟨by rw [HF.out]; rfl, rfl⟩
              · go_wp2_with fail
                go_ret3
                exact ⟨by rw [HF.out]; rfl, rfl⟩
          · have hxz : x ≠ 0 := by simpa using hx0
            have hf : get l = (a2, k + 1, 0) := by rw [HGY.out, if_pos (by omega), if_neg (by omega)]
            have HF := Lib.hid hf
            clear hf hxz hn9'
            rcases h9 with ⟨h9, t2⟩ | t1
            · have t1 : ((k : Int) == 9) = true := by simp; omega
              have H9 := Lib.hid h9
              clear h9
              go_wp2_with fail
              go_ret3
              exact ⟨by rw [HF.out]; rfl, rfl⟩
            · go_wp2_with fail
              go_ret3
              exact ⟨by rw [HF.out]; rfl, rfl⟩
        · have HG2 : Hid (getAt (k + 1) a2 (l.drop (k + 1)) = get l) := Lib.hid (by rw [HGY.out, if_neg (by omega)])
          have t1 : ((k : Int) == 9) = false := by simp; omega
          clear h9 hx0 hn9' hk0
          go_wp2_with fail
          go_round
          case rel => exact ⟨k + 1, a2, by omega, by omega, by go_num, rfl, HB2, HG2⟩
          case measure => simp [intOf]; omega
    · obtain rfl : k = n := by omega
      have hf : get l = (0, 0, 8) := by rw [← HG.out, List.drop_eq_nil_of_le (by rw [HL.out]; omega)]; rfl
      have HF := Lib.hid hf
      clear hf
      go_wp2_with fail
      go_ret3
      exact ⟨by rw [HF.out]; rfl, rfl⟩
end Go.Proofs.Ytnkeijdpjcclcaa.Num
