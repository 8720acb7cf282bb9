/- The walk of the law CrcLinear. -/
import Derived.Test.YtakjmhcdmchgdaaDoorCrcMores
namespace Go.Proofs.YtakjmhcdmchgdaaDoor.Crc
set_option linter.unusedVariables false
open Go.Proofs.YtakjmhcdmchgdaaDoor.Kit Go.RowKit Go.Proofs.YtakjmhcdmchgdaaDoorW.PrintWords Go.Proofs.YtakjmhcdmchgdaaDoorW.PrintLast Go.Proofs.YtakjmhcdmchgdaaDoorW.PrintMore

/-- bytes turned by others, the first k. -/
def turned (l t : List Int) (k : Nat) : List Int := (List.range k).map fun i => Go.bits .xor .u8 (l.getD i 0) (t.getD i 0)
theorem turned_zero (l t : List Int) : turned l t 0 = [] := rfl
theorem turned_succ (l t : List Int) (k : Nat) : turned l t (k + 1) = turned l t k ++ [Go.bits .xor .u8 (l.getD k 0) (t.getD k 0)] := by simp [turned, List.range_succ]
theorem turned_length (l t : List Int) (k : Nat) : (turned l t k).length = k := by simp [turned]

theorem getD_byte {l : List Int} (h : isByte l) (i : Nat) : ∃ a : Nat, l.getD i 0 = (a : Int) ∧ a < 256 := by
  rw [List.getD_eq_getElem?_getD]
  cases hi : l[i]? with
  | none => exact ⟨0, rfl, by omega⟩
  | some x =>
    have := h x (List.mem_of_getElem? hi)
    exact ⟨x.toNat, by simp; omega, by omega⟩
theorem xor_byte {l t : List Int} (hb : isByte l) (hb' : isByte t) (i : Nat) : Go.bits .xor .u8 (l.getD i 0) (t.getD i 0) = (((l.getD i 0).toNat ^^^ (t.getD i 0).toNat : Nat) : Int) := by
  obtain ⟨a, ha, ha'⟩ := getD_byte hb i
  obtain ⟨c, hc, hc'⟩ := getD_byte hb' i
  rw [ha, hc, u8_xor_nat a c ha' hc']
  rfl
theorem turned_byt (l t : List Int) (k : Nat) (h1 : k ≤ l.length) (h2 : k ≤ t.length) (hb : isByte l) (hb' : isByte t) : byt (turned l t k) = List.zipWith (· ^^^ ·) (byt (l.take k)) (byt (t.take k)) := by
  unfold byt turned
  apply List.ext_getElem
  · simp; omega
  · intro i hi1 hi2
    simp only [List.length_map, List.length_range] at hi1
    simp only [List.getElem_map, List.getElem_range, List.getElem_zipWith, List.getElem_take]
    rw [xor_byte hb hb' i, Int.toNat_natCast]
    rw [List.getD_eq_getElem?_getD, List.getD_eq_getElem?_getD, List.getElem?_eq_getElem (by omega), List.getElem?_eq_getElem (by omega)]
    rfl
theorem isByte_turned {l t : List Int} (hb : isByte l) (hb' : isByte t) (k : Nat) : isByte (turned l t k) := by
  intro x hx
  obtain ⟨i, _, rfl⟩ := List.mem_map.1 hx
  rw [xor_byte hb hb' i]
  obtain ⟨a, ha, ha'⟩ := getD_byte hb i
  obtain ⟨c, hc, hc'⟩ := getD_byte hb' i
  have := Nat.xor_lt_two_pow (n := 8) (x := (l.getD i 0).toNat) (y := (t.getD i 0).toNat) (by omega) (by omega)
  omega
theorem inv_xor (a b : Nat) : inv (a ^^^ b) = inv a ^^^ b := by rw [inv_eq, inv_eq, Nat.xor_assoc]
/-- The check is affine: what is turned turns it alike. -/
theorem sum_turned (l t : List Int) (k : Nat) (h1 : k ≤ l.length) (h2 : k ≤ t.length) (hb : isByte l) (hb' : isByte t) : sum (turned l t k) = sum (l.take k) ^^^ CrcPure.bytes 0 (byt (t.take k)) := by
  unfold sum more
  rw [turned_byt l t k h1 h2 hb hb', ← inv_xor, ← CrcPure.bytes_xor _ _ (by simp [byt]; omega), Nat.xor_zero]
theorem xor_self_cancel (a b : Nat) : a ^^^ (a ^^^ b) = b := by rw [← Nat.xor_assoc, Nat.xor_self, Nat.zero_xor]
theorem linear_eq (l1 l2 t : List Int) (k : Nat) (h1 : k ≤ l1.length) (h2 : k ≤ l2.length) (h3 : k ≤ t.length) (hb1 : isByte l1) (hb2 : isByte l2) (hb3 : isByte t) :
    Go.bits .xor .u32 ((sum (l1.take k) : Nat) : Int) ((sum (turned l1 t k) : Nat) : Int) = Go.bits .xor .u32 ((sum (l2.take k) : Nat) : Int) ((sum (turned l2 t k) : Nat) : Int) := by
  rw [u32_xor_nat _ _ (sum_lt (isByte_take hb1 k)) (sum_lt (isByte_turned hb1 hb3 k)), u32_xor_nat _ _ (sum_lt (isByte_take hb2 k)) (sum_lt (isByte_turned hb2 hb3 k))]
  rw [sum_turned l1 t k h1 h3 hb1 hb3, sum_turned l2 t k h2 h3 hb2 hb3, xor_self_cancel, xor_self_cancel]
structure LinRel (w wr : World) (l1 l2 lt : List Int) (k : Nat) (x y : Value) : Prop where
  ox : Own .u8 5 wr w.heap.size x (turned l1 lt k)
  oy : Own .u8 5 wr w.heap.size y (turned l2 lt k)
  ap : Apart x y
  bel : Below w.heap.size w wr

set_option maxRecDepth 100000 in
set_option maxHeartbeats 1600000 in
theorem linear_any (A1 : Option Addr) (n1 c1 : Nat) (l1 : List Int) (A2 : Option Addr) (n2 c2 : Nat) (l2 : List Int) (A3 : Option Addr) (n3 c3 : Nat) (l3 : List Int) (w : World) (hT : Halves w)
    (hr1 : Rds .u8 w A1 n1 l1) (hl1 : l1.length = n1) (hm1 : n1 * 1 ≤ 140737488351232) (hw1 : ∀ x ∈ l1, (Lit.int .u8 x).wf = true) (hc1 : n1 ≤ c1)
    (hr2 : Rds .u8 w A2 n2 l2) (hl2 : l2.length = n2) (hm2 : n2 * 1 ≤ 140737488351232) (hw2 : ∀ x ∈ l2, (Lit.int .u8 x).wf = true) (hc2 : n2 ≤ c2)
    (hr3 : Rds .u8 w A3 n3 l3) (hl3 : l3.length = n3) (hm3 : n3 * 1 ≤ 140737488351232) (hw3 : ∀ x ∈ l3, (Lit.int .u8 x).wf = true) (hc3 : n3 ≤ c3) :
    Calls Tryd.prog 6 #[.slice A1 n1 c1, .slice A2 n2 c2, .slice A3 n3 c3] w fun e w' => e = .returned (.bool true) ∧ Below w.heap.size w w' := by
  have hb1 := isByte_wf hw1
  have hb2 := isByte_wf hw2
  have hb3 := isByte_wf hw3
  clear hw1 hw2 hw3
  have Hl1 := Lib.hid hl1
  have Hl2 := Lib.hid hl2
  have Hl3 := Lib.hid hl3
  clear hl1 hl2 hl3
  obtain ⟨m, hm, hmin⟩ : ∃ m : Nat, mn (mn (n1 : Int) (n2 : Int)) (n3 : Int) = (m : Int) ∧ m = min (min n1 n2) n3 := ⟨_, by rw [mn_nat, mn_nat], rfl⟩
  have hrun : ∀ W : World, (Builtin.min_ #[3, 3, 3] 3 #[.int .i64 (n1 : Int), .int .i64 (n2 : Int), .int .i64 (n3 : Int)]).run Tryd.prog W = .ok (.int .i64 (m : Int)) W := fun W => by rw [run_min3, hm]
  have g1 : m ≤ n1 := by omega
  have g2 : m ≤ n2 := by omega
  have g3 : m ≤ n3 := by omega
  clear hm hmin
  by_cases hle : m ≤ 2000
  · go_enter Tryd.func6, Tryd.ntmps6
    go_wp2_with fail
    refine (head_any w hT).mono ?_
    rintro e w1 ⟨rfl, hB1⟩
    have HB1 := Lib.hid hB1
    have HT1 := Lib.hid (hT.below hB1)
    clear hB1
    go_wp2_with fail
    go_loopw [8, 9, 10] (fun x y i wr => ∃ k : Nat, k ≤ m ∧ i = .int .i64 k ∧ LinRel w wr l1 l2 l3 k x y) (fun _ _ i _ => m - (intOf i).toNat)
    case atStart => 
      refine ⟨0, Nat.zero_le _, rfl, ?_⟩
      have b1 := below_alloc HB1.out (.cells #[] 5)
      have o1 := own_lit_ .u8 5 w1 w.heap.size [] 0 rfl HB1.out.size (by simp)
      have o2 := own_lit_at .u8 5 (w1.alloc (.cells #[] 5)) w.heap.size [] 0 (w1.heap.size + 1) (by simp) rfl b1.size (by simp)
      exact ⟨Kd.R_alloc o1 _, o2, apart_new o1 (fun k hk => by simp [Value.ownBlock] at hk; simp; omega), below_alloc b1 _⟩
    case round =>
      obtain ⟨k, hk, rfl, hR⟩ := hrel
      by_cases hlt : k < m
      · obtain ⟨ad1, e1, c1⟩ := rds_at 0 hr1 k (by omega)
        obtain ⟨ad2, e2, c2⟩ := rds_at 0 hr2 k (by omega)
        obtain ⟨ad3, e3, c3⟩ := rds_at 0 hr3 k (by omega)
        subst e1 e2 e3
        have s1 := turned_succ l1 l3 k
        have s2 := turned_succ l2 l3 k
        generalize l1.getD k 0 = a1 at c1 s1
        generalize l2.getD k 0 = a2 at c2 s2
        generalize l3.getD k 0 = a3 at c3 s1 s2
        have S1 := Lib.hid s1
        have S2 := Lib.hid s2
        have C1 := Lib.hid c1
        have C2 := Lib.hid c2
        have C3 := Lib.hid c3
        clear s1 s2 c1 c2 c3
        have d1 := pw_cell_below hR.bel C1.out
        have d3 := pw_cell_below hR.bel C3.out
        have i0 : (0 : Int) ≤ (k : Int) := Int.natCast_nonneg _
        have i1 : (k : Int) < (n1 : Int) := by omega
        have i2 : (k : Int) < (n2 : Int) := by omega
        have i3 : (k : Int) < (n3 : Int) := by omega
        go_wp2_with fail
        go_region_held3 (fun w' => w'.cell? (ad1.add k) = some (.int .u8 a1) ∧ w'.cell? (ad3.add k) = some (.int .u8 a3))
          (first
            | go_keep
            | exact ⟨pw_cell_below hbA C1.out, pw_cell_below hbA C3.out⟩)
          ((refine app_one_step tb (by rfl) (.tmp 29) (.tmp 39) (by rfl) (by rfl) (by rfl) (Kd.R_drew hR.ox) (below_drew hR.bel) hR.bel.size ?cL ?_; (case cL => rw [turned_length]; omega); intro vA wA hoA hbA hsA hfA))
        go_wp2_with fail
        have oy := hfA.keep (Kd.R_drew hR.oy) hR.ap.symm
        have apA := hfA.apart (Kd.R_drew hR.oy) hR.ap.symm
        have HY := Lib.hid oy
        have HX := Lib.hid hoA
        have HAP := Lib.hid apA
        have HBA := Lib.hid hbA
        have d2 := pw_cell_below hbA C2.out
        have d3' := pw_cell_below hbA C3.out
        clear d1 d3 oy hoA apA hfA
        go_region_held3 (fun w' => w'.cell? (ad2.add k) = some (.int .u8 a2) ∧ w'.cell? (ad3.add k) = some (.int .u8 a3))
          (first
            | go_keep
            | exact ⟨pw_cell_below hbB C2.out, pw_cell_below hbB C3.out⟩)
          ((refine app_one_step tb (by rfl) (.tmp 41) (.tmp 51) (by rfl) (by rfl) (by rfl) (Kd.R_drew HY.out) (below_drew HBA.out) HBA.out.size ?cL ?_; (case cL => rw [turned_length]; omega); intro vB wB hoB hbB hsB hfB))
        have ox := hfB.keep (Kd.R_drew HX.out) HAP.out.symm
        have apB := hfB.apart (Kd.R_drew HX.out) HAP.out.symm
        rw [← S1.out] at ox
        rw [← S2.out] at hoB
        have hR' : LinRel w wB l1 l2 l3 (k + 1) vA vB := ⟨ox, hoB, apB, hbB⟩
        clear ox hoB apB hbB hfB hR d2 d3'
        go_wp2_with fail
        go_roundw
        case rel => exact ⟨k + 1, by omega, by go_num, hR'⟩
        case measure => simp [intOf]; omega
      · obtain rfl : k = m := by omega
        obtain ⟨ox, oy, _, bel⟩ := hR
        obtain ⟨A4, n4, c4, rfl, _, HL4, hm4, hC4⟩ := own_open ox
        obtain ⟨A5, n5, c5, rfl, _, HL5, hm5, hC5⟩ := own_open oy
        have hT4 := hT.below bel
        have S1 := Lib.hid (fun N => quiet_left (sum_any A1 k c1 (l1.take k) (wr.drewN N) (hT4.drewN N) (rds_drewN (rds_take 0 (rds_below hr1 bel) k g1) N) (by rw [List.length_take, Hl1.out]; omega) (by omega) (isByte_take hb1 k)))
        have S2 := Lib.hid (fun N => quiet_left (sum_any A4 n4 c4 _ (wr.drewN N) (hT4.drewN N) (rds_drewN hC4 N) HL4.out hm4 (isByte_turned hb1 hb3 k)))
        have S3 := Lib.hid (fun N => quiet_left (sum_any A2 k c2 (l2.take k) (wr.drewN N) (hT4.drewN N) (rds_drewN (rds_take 0 (rds_below hr2 bel) k g2) N) (by rw [List.length_take, Hl2.out]; omega) (by omega) (isByte_take hb2 k)))
        have S4 := Lib.hid (fun N => quiet_left (sum_any A5 n5 c5 _ (wr.drewN N) (hT4.drewN N) (rds_drewN hC5 N) HL5.out hm5 (isByte_turned hb2 hb3 k)))
        have hx := linear_eq l1 l2 l3 k (by rw [Hl1.out]; exact g1) (by rw [Hl2.out]; exact g2) (by rw [Hl3.out]; exact g3) hb1 hb2 hb3
        generalize sum (l1.take k) = t1 at S1 hx
        generalize sum (turned l1 l3 k) = t2 at S2 hx
        generalize sum (l2.take k) = t3 at S3 hx
        generalize sum (turned l2 l3 k) = t4 at S4 hx
        have HX := Lib.hid hx
        have HBE := Lib.hid (fun N => below_drewN_ bel N)
        clear hC4 hC5 hT4 ox oy hx
        go_wp2_with fail
        go_quiet (first | (with_reducible exact S1.out _) | (with_reducible exact S2.out _) | (with_reducible exact S3.out _) | (with_reducible exact S4.out _))
        go_wp2_with fail
        go_ret
        exact ⟨ret_bool (by rw [HX.out]; simp), HBE.out _⟩
  · go_enter Tryd.func6, Tryd.ntmps6
    go_wp2_with fail
    refine (head_any w hT).mono ?_
    rintro e w1 ⟨rfl, hB1⟩
    have HB1 := Lib.hid hB1
    clear hB1
    go_wp2_with fail
    go_ret
    exact ⟨rfl, HB1.out⟩
end Go.Proofs.YtakjmhcdmchgdaaDoor.Crc
