/- The walk of the law NumLines. -/
import Derived.Test.YtglkagicmolbeaaNumHead
namespace Go.Proofs.Ytglkagicmolbeaa.Num
set_option linter.unusedVariables false
set_option linter.unusedSimpArgs false
open Go.Proofs.Ytglkagicmolbeaa.Kit Go.RowKit Go.Proofs.YtglkagicmolbeaaW.PrintWords Go.Proofs.YtglkagicmolbeaaW.PrintLast Go.Proofs.YtglkagicmolbeaaW.PrintMore NumPure
def flat7 (l : List Int) : List Int := l.flatMap fun x => put7 x.toNat
def flatc (l : List Int) : List Int := l.flatMap fun x => compact x.toNat
theorem take_snoc {l : List Int} {k n : Nat} (hk : k < n) (hl : l.length = n) : l.take (k + 1) = l.take k ++ [l.getD k 0] := by
  rw [List.take_succ_eq_append_getElem (by omega), List.getD_eq_getElem?_getD, List.getElem?_eq_getElem (by omega)]
  rfl
theorem drop_cons {l : List Int} {k n : Nat} (hk : k < n) (hl : l.length = n) : l.drop k = l.getD k 0 :: l.drop (k + 1) := by
  rw [List.drop_eq_getElem_cons (by omega), List.getD_eq_getElem?_getD, List.getElem?_eq_getElem (by omega)]
  rfl
theorem flat7_snoc (l : List Int) (x : Nat) : flat7 (l ++ [(x : Int)]) = flat7 l ++ put7 x := by simp [flat7]
theorem flatc_snoc (l : List Int) (x : Nat) : flatc (l ++ [(x : Int)]) = flatc l ++ compact x := by simp [flatc]
theorem flat7_cons (l : List Int) (x : Nat) : flat7 ((x : Int) :: l) = put7 x ++ flat7 l := by simp [flat7]
theorem flatc_cons (l : List Int) (x : Nat) : flatc ((x : Int) :: l) = compact x ++ flatc l := by simp [flatc]
def U64 (l : List Int) : Prop := ∀ x ∈ l, 0 ≤ x ∧ x < 18446744073709551616
theorem flat7_len (l : List Int) (h : U64 l) : (flat7 l).length ≤ 10 * l.length := by
  induction l with
  | nil => simp [flat7]
  | cons x r ih =>
    have hx := h x (by simp)
    obtain ⟨m, rfl⟩ : ∃ m : Nat, x = (m : Int) := ⟨x.toNat, by omega⟩
    have h1 := put7_len10 (n := m) (by omega)
    have h2 := ih (fun y hy => h y (by simp [hy]))
    rw [flat7_cons, List.length_append, List.length_cons]
    omega
theorem flatc_len (l : List Int) : (flatc l).length ≤ 9 * l.length := by
  induction l with
  | nil => simp [flatc]
  | cons x r ih =>
    have h1 := compact_len x.toNat
    have : flatc (x :: r) = compact x.toNat ++ flatc r := by simp [flatc]
    rw [this, List.length_append, List.length_cons]
    omega
theorem flat7_byte (l : List Int) : Byte (flat7 l) := by
  intro y hy
  obtain ⟨x, _, hx⟩ := List.mem_flatMap.1 hy
  exact put7_byte _ y hx
theorem flatc_byte (l : List Int) : Byte (flatc l) := by
  intro y hy
  obtain ⟨x, _, hx⟩ := List.mem_flatMap.1 hy
  exact compact_byte y hx
theorem u64_getD {l : List Int} {n k : Nat} (h : U64 l) (hl : l.length = n) (hk : k < n) : ∃ m : Nat, l.getD k 0 = (m : Int) ∧ m < 18446744073709551616 := by
  rw [List.getD_eq_getElem?_getD, List.getElem?_eq_getElem (by omega)]
  have hx := h _ (List.getElem_mem (l := l) (n := k) (by omega))
  exact ⟨(l[k]'(by omega)).toNat, by simp only [Option.getD_some]; omega, by omega⟩
structure LineRel (w wr : World) (a b : Value) (l : List Int) (k : Nat) : Prop where
  oa : GrB wr w.heap.size a (flat7 (l.take k))
  ob : GrB wr w.heap.size b (flatc (l.take k))
  ap : Apart a b
  bel : Below w.heap.size w wr
structure CutRel (w wr : World) (a b : Value) (l : List Int) (k : Nat) : Prop where
  oa : ∃ A n c, a = .slice A n c ∧ n ≤ c ∧ Rds .u8 wr A n (flat7 (l.drop k))
  ob : ∃ A n c, b = .slice A n c ∧ n ≤ c ∧ Rds .u8 wr A n (flatc (l.drop k))
  bel : Below w.heap.size w wr
set_option maxRecDepth 20000 in
set_option maxHeartbeats 3200000 in
theorem lines_any (A : Option Addr) (n c : Nat) (l : List Int) (w : World) (hr : Rds .u64 w A n l) (hl : l.length = n) (hm : n * 8 ≤ 140737488351232) (hw : ∀ x ∈ l, (Lit.int .u64 x).wf = true) (hc : n ≤ c) :
    Calls Try.prog 13 #[.slice A n c] w fun e w' => e = .returned (.bool true) ∧ Below w.heap.size w w' := by
  have HU : Hid (U64 l) := Lib.hid (fun x hx => wf_u64 (hw x hx))
  clear hw
  have HL := Lib.hid hl
  have HR := Lib.hid hr
  clear hl hr
  have CH := Lib.hid (head_any w)
  by_cases g : n ≤ 40
  · go_enter Try.func13, Try.ntmps13
    go_wp2_with fail
    refine CH.out.mono ?_
    rintro e w1 ⟨rfl, hB1⟩
    have HB1 := Lib.hid hB1
    clear hB1 CH
    have ha0 : GrB ((w1.alloc (.cells #[] 5)).alloc (.cells #[] 5)) w.heap.size (.slice (some ⟨w1.heap.size, 0, none⟩) 0 0) [] := .inl (own_below (own_lit_ .u8 5 w1 w.heap.size [] 0 rfl HB1.out.size (by simp)) (below_alloc (Below.refl _ _) _))
    have hb0 : GrB ((w1.alloc (.cells #[] 5)).alloc (.cells #[] 5)) w.heap.size (.slice (some ⟨w1.heap.size + 1, 0, none⟩) 0 0) [] := .inl (own_lit_at .u8 5 (w1.alloc (.cells #[] 5)) w.heap.size [] 0 (w1.heap.size + 1) (by simp) rfl (Nat.le_trans HB1.out.size (by simp)) (by simp))
    have hR0 : LineRel w ((w1.alloc (.cells #[] 5)).alloc (.cells #[] 5)) (.slice (some ⟨w1.heap.size, 0, none⟩) 0 0) (.slice (some ⟨w1.heap.size + 1, 0, none⟩) 0 0) l 0 :=
      ⟨ha0, hb0, ⟨.inr (.inr (by simp [Value.ownBlock]))⟩, below_alloc (below_alloc HB1.out _) _⟩
    clear ha0 hb0
    go_wp2_with fail
    go_loopw [3, 4, 24] (fun a b i wr => ∃ k : Nat, k ≤ n ∧ i = .int .i64 k ∧ LineRel w wr a b l k) (fun _ _ i _ => n - (intOf i).toNat)
    case atStart => exact ⟨0, Nat.zero_le _, rfl, hR0⟩
    case round =>
      obtain ⟨k, hk, rfl, hoa, hob, hap, hbl⟩ := hrel
      clear hR0
      have HOA := Lib.hid hoa
      have HOB := Lib.hid hob
      have HAP := Lib.hid hap
      have HB := Lib.hid hbl
      clear hoa hob hap hbl
      by_cases hlt : k < n
      · have t0 : decide ((k : Int) < (n : Int)) = true := decide_eq_true (by omega)
        obtain ⟨ad, e1, hcell⟩ := rds_at 0 (rds_below HR.out HB.out) k hlt
        subst e1
        obtain ⟨m, hm1, hm2⟩ := u64_getD HU.out HL.out hlt
        rw [hm1] at hcell
        have hi : (0 : Int) ≤ (k : Int) := by omega
        have hi2 : (k : Int) < (n : Int) := by omega
        have HM := Lib.hid hm2
        have ht := take_snoc hlt HL.out
        rw [hm1] at ht
        have HT := Lib.hid ht
        have hl7 : (flat7 (l.take k)).length + 10 ≤ 140737488355328 := by
          have := flat7_len (l.take k) (fun x hx => HU.out x (List.mem_of_mem_take hx))
          rw [List.length_take, HL.out] at this
          omega
        have hlc : (flatc (l.take k)).length + 9 ≤ 140737488355328 := by
          have := flatc_len (l.take k)
          rw [List.length_take, HL.out] at this
          omega
        have CA := Lib.hid (put_any m hm2 _ _ w wr HOA.out HB.out hl7)
        clear hm1 hm2 ht
        go_wp2_with fail
        refine CA.out.mono ?_
        rintro e w2 ⟨v2, rfl, hA⟩
        have HA := Lib.hid hA
        have hob2 := hA.fr.keep_gr HOB.out HAP.out.symm
        have CB := Lib.hid (compact_any m HM.out _ _ w w2 hob2 hA.bel hlc)
        have HAP2 := Lib.hid (hA.fr.apart_gr HOB.out HAP.out.symm)
        clear hA hob2 CA
        go_wp2_with fail
        refine CB.out.mono ?_
        rintro e w3 ⟨v3, rfl, hC⟩
        have hR1 : LineRel w w3 v2 v3 l (k + 1) := by
          have h7 := hC.fr.keep_gr HA.out.own HAP2.out.symm
          rw [← flat7_snoc, ← HT.out] at h7
          have hc := hC.own
          rw [← flatc_snoc, ← HT.out] at hc
          exact ⟨h7, hc, hC.fr.apart_gr HA.out.own HAP2.out.symm, hC.bel⟩
        clear hC CB
        go_wp2_with fail
        go_roundw
        case rel => exact ⟨k + 1, by omega, by go_num, hR1⟩
        case measure => simp [intOf]; omega
      · obtain rfl : k = n := by omega
        have ht : l.take k = l := List.take_of_length_le (by rw [HL.out]; omega)
        obtain ⟨A7, n7, c7, rfl, h7c, HL7, h7m, hr7⟩ := gr_open HOA.out
        obtain ⟨Ac, nc, cc, rfl, hcc, HLc, hcm, hrc⟩ := gr_open HOB.out
        have hR2 : CutRel w wr (.slice A7 n7 c7) (.slice Ac nc cc) l 0 := ⟨⟨A7, n7, c7, rfl, h7c, by rw [ht] at hr7; exact hr7⟩, ⟨Ac, nc, cc, rfl, hcc, by rw [ht] at hrc; exact hrc⟩, HB.out⟩
        clear HOA HOB HAP HL7 HLc hr7 hrc ht
        go_wp2_with fail
        obtain ⟨wo, rfl⟩ : ∃ wo : World, wo = wr := ⟨_, rfl⟩
        clear HB
        go_loopw [3, 4, 37] (fun a b i wr => ∃ j : Nat, j ≤ k ∧ i = .int .i64 j ∧ CutRel w wr a b l j) (fun _ _ i _ => k - (intOf i).toNat)
        case atStart => exact ⟨0, Nat.zero_le _, rfl, hR2⟩
        case round =>
          obtain ⟨j, hj, rfl, ⟨A7', n7', c7', rfl, h7c', hr7⟩, ⟨Ac', nc', cc', rfl, hcc', hrc⟩, hbl⟩ := hrel
          clear hR2 h7c hcc h7m hcm
          have HB := Lib.hid hbl
          by_cases hlt : j < k
          · have t0 : decide ((j : Int) < (k : Int)) = true := decide_eq_true (by omega)
            obtain ⟨ad, e1, hcell⟩ := rds_at 0 (rds_below HR.out hbl) j hlt
            subst e1
            obtain ⟨m, hm1, hm2⟩ := u64_getD HU.out HL.out hlt
            rw [hm1] at hcell
            have hi : (0 : Int) ≤ (j : Int) := by omega
            have hi2 : (j : Int) < (k : Int) := by omega
            have hd := drop_cons hlt HL.out
            rw [hm1] at hd
            rw [hd, flat7_cons] at hr7
            rw [hd, flatc_cons] at hrc
            have hl7 := rds_len hr7
            have hlc := rds_len hrc
            have C7 := Lib.hid (get_any A7' n7' c7' _ wr hr7 hl7 (rds_max hr7) (Byte.append (put7_byte m) (flat7_byte _)))
            rw [get_put7 hm2] at C7
            have CC := Lib.hid (expand_any Ac' nc' cc' _ wr hrc hlc (rds_max hrc) hcc' (Byte.append compact_byte (flatc_byte _)))
            rw [expand_compact hm2] at CC
            rw [List.length_append] at hl7 hlc
            obtain ⟨B7, hcut7, hC7⟩ := cut_from (enc := Value.int .u8) (h1 := int_one .u8) 0 tb A7' n7' c7' (put7 m).length ((flat7 (l.drop (j + 1))).length) (by omega) h7c' ((put7 m).length : Int) rfl
            obtain ⟨Bc, hcutc, hCc⟩ := cut_from (enc := Value.int .u8) (h1 := int_one .u8) 0 tb Ac' nc' cc' (compact m).length ((flatc (l.drop (j + 1))).length) (by omega) hcc' ((compact m).length : Int) rfl
            have h7' := fun w9 (hb : Below wr.heap.size wr w9) => hC7 w9 _ (rds_below hr7 hb)
            have hc' := fun w9 (hb : Below wr.heap.size wr w9) => hCc w9 _ (rds_below hrc hb)
            rw [show (put7 m ++ flat7 (l.drop (j + 1))).drop (put7 m).length = flat7 (l.drop (j + 1)) from List.drop_left] at h7'
            rw [show (compact m ++ flatc (l.drop (j + 1))).drop (compact m).length = flatc (l.drop (j + 1)) from List.drop_left] at hc'
            have H7 := Lib.hid h7'
            have HC := Lib.hid hc'
            have hle7 : (put7 m).length ≤ n7' := by omega
            have hlec : (compact m).length ≤ nc' := by omega
            have hc7 : (flat7 (l.drop (j + 1))).length ≤ c7' - (put7 m).length := by omega
            have hc8 : (flatc (l.drop (j + 1))).length ≤ cc' - (compact m).length := by omega
            have HC7 := Lib.hid hc7
            have HC8 := Lib.hid hc8
            clear hr7 hrc hl7 hlc h7' hc' hC7 hCc hd hm1 hm2 hc7 hc8 hbl
            generalize (put7 m).length = p7 at C7 hcut7 hle7 HC7
            generalize (compact m).length = pc at CC hcutc hlec HC8
            generalize hq7 : (flat7 (l.drop (j + 1))).length = q7 at hcut7 H7 HC7
            generalize hqc : (flatc (l.drop (j + 1))).length = qc at hcutc HC HC8
            clear hq7 hqc
            go_wp2_with fail
            refine C7.out.mono ?_
            rintro e w' ⟨rfl, rfl⟩
            clear C7
            unfold three
            go_wp2_with fail
            refine CC.out.mono ?_
            rintro e w2 ⟨rfl, hb2⟩
            clear CC
            unfold three
            have hR1 : CutRel w w2 (.slice B7 q7 (c7' - p7)) (.slice Bc qc (cc' - pc)) l (j + 1) := ⟨⟨_, _, _, rfl, HC7.out, H7.out _ hb2⟩, ⟨_, _, _, rfl, HC8.out, HC.out _ hb2⟩, below_then HB.out HB.out.size hb2⟩
            clear hb2
            have e0 : ((0 : Nat) : Int) = 0 := rfl
            simp only [e0]
            clear e0
            go_wp2_with fail
            exact ⟨⟨j + 1, by omega, by go_num, hR1⟩, by simp [intOf]; omega⟩
          · obtain rfl : j = k := by omega
            have hd : l.drop j = [] := List.drop_eq_nil_of_le (by rw [HL.out]; omega)
            rw [hd] at hr7 hrc
            obtain rfl : n7' = 0 := (rds_len hr7).symm
            obtain rfl : nc' = 0 := (rds_len hrc).symm
            clear hr7 hrc hd hbl
            go_wp2_with fail
            go_ret
            exact ⟨rfl, HB.out⟩
  · go_enter Try.func13, Try.ntmps13
    go_wp2_with fail
    refine CH.out.mono ?_
    rintro e w1 ⟨rfl, hB1⟩
    have HB1 := Lib.hid hB1
    clear hB1 CH
    go_wp2_with fail
    go_ret
    exact ⟨rfl, HB1.out⟩
end Go.Proofs.Ytglkagicmolbeaa.Num
