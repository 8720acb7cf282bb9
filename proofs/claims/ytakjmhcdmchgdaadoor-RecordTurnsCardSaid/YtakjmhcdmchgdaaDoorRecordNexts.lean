/- The walk of the law RecordNexts. -/
import Derived.Test.YtakjmhcdmchgdaaDoorRecordPuts
import Derived.Test.YtakjmhcdmchgdaaDoorCrcBursts
namespace Go.Proofs.YtakjmhcdmchgdaaDoor.Rec
set_option linter.unusedVariables false
set_option linter.unusedSimpArgs false
open Go.Proofs.YtakjmhcdmchgdaaDoor.Kit Go.Proofs.YtakjmhcdmchgdaaDoor.Num Go.RowKit Go.Proofs.YtakjmhcdmchgdaaDoorW.PrintWords Go.Proofs.YtakjmhcdmchgdaaDoorW.PrintLast Go.Proofs.YtakjmhcdmchgdaaDoorW.PrintMore NumPure
open Crc (Halves sum mask sum_any mask_any mask_lt sum_lt refsum_any refmask_any own_rds_)
theorem run_str_neq {P : Program} {o : Oper} {l : List (Nat × Value)} {x y : Operand} {t : TypeId} {m : Nat} {a b : ByteArray} {w : World} (ho : o.op = .binOp .neq t x y m) (hx : lk l x = .string a) (hy : lk l y = .string b) (h : a ≠ b) : (execOp (lk l) o).run P w = .ok (.value (.bool true)) w := by
  unfold execOp
  simp [ho, hx, hy, eqGuard, binOp, Op.stringOp]
  intro e
  apply h
  exact ByteArray.ext (Array.toList_inj.1 (by rw [← ByteArray.toList_eq, ← ByteArray.toList_eq]; exact e))
theorem str_inj' {xs ys : List Int} (hx : Byte xs) (hy : Byte ys) (h : strOfNums xs = strOfNums ys) : xs = ys := str_inj hx hy (by rw [h])
theorem str_ne {xs ys : List Int} (hx : Byte xs) (hy : Byte ys) (h : xs ≠ ys) : strOfNums xs ≠ strOfNums ys := fun e => h (str_inj' hx hy e)
theorem le4_iff {x : List Int} {K : Nat} (hb : Byte x) (hl : x.length = 4) (hK : K < 4294967296) : leVal x = K ↔ x = le K 4 := by
  constructor
  · intro h
    have := le_leVal x hb
    rw [hl, h] at this
    exact this.symm
  · intro h
    rw [h]
    exact leVal_le _ _ (by have hp : (256 : Nat) ^ 4 = 4294967296 := by decide
                           omega)
/-- Why there is no record. -/
inductive Why (l : List Int) : List Int → Nat → Nat → Prop
  | short (h : l.length < 12) : Why l [] 0 8
  | head (h : 12 ≤ l.length) (h1 : (l.take 8).drop 4 ≠ le (mask (sum (l.take 4))) 4) : Why l [] 0 12
  | much (h : 12 ≤ l.length) (h1 : (l.take 8).drop 4 = le (mask (sum (l.take 4))) 4) (h2 : 1048576 < leVal (l.take 4)) : Why l [] 0 12
  | cut (h : 12 ≤ l.length) (h1 : (l.take 8).drop 4 = le (mask (sum (l.take 4))) 4) (h2 : leVal (l.take 4) ≤ 1048576) (h3 : l.length < 12 + leVal (l.take 4)) : Why l [] 0 8
  | bad (h : 12 ≤ l.length) (h1 : (l.take 8).drop 4 = le (mask (sum (l.take 4))) 4) (h2 : leVal (l.take 4) ≤ 1048576) (h3 : 12 + leVal (l.take 4) ≤ l.length) (h4 : (l.take 12).drop 8 ≠ le (mask (sum ((l.take (12 + leVal (l.take 4))).drop 12))) 4) : Why l [] 0 12
  | ok (h : 12 ≤ l.length) (h1 : (l.take 8).drop 4 = le (mask (sum (l.take 4))) 4) (h2 : leVal (l.take 4) ≤ 1048576) (h3 : 12 + leVal (l.take 4) ≤ l.length) (h4 : (l.take 12).drop 8 = le (mask (sum ((l.take (12 + leVal (l.take 4))).drop 12))) 4) : Why l ((l.take (12 + leVal (l.take 4))).drop 12) (12 + leVal (l.take 4)) 0
theorem why (l : List Int) (hb : Byte l) : Why l (next l).1 (next l).2.1 (next l).2.2 := by
  by_cases h12 : l.length < 12
  · have : next l = ([], 0, 8) := by unfold next; rw [if_pos h12]
    rw [this]; exact .short h12
  have hl8 : ((l.take 8).drop 4).length = 4 := by rw [List.length_drop, List.length_take]; omega
  have hl12 : ((l.take 12).drop 8).length = 4 := by rw [List.length_drop, List.length_take]; omega
  have i1 := le4_iff ((hb.take 8).drop 4) hl8 (mask_lt (sum (l.take 4)))
  have i2 := le4_iff ((hb.take 12).drop 8) hl12 (mask_lt (sum ((l.take (12 + leVal (l.take 4))).drop 12)))
  by_cases c1 : (l.take 8).drop 4 = le (mask (sum (l.take 4))) 4
  · have d1 := i1.2 c1
    by_cases c2 : 1048576 < leVal (l.take 4)
    · have : next l = ([], 0, 12) := by unfold next; rw [if_neg h12, if_pos (.inr c2)]
      rw [this]; exact .much (by omega) c1 c2
    · by_cases c3 : l.length < 12 + leVal (l.take 4)
      · have : next l = ([], 0, 8) := by unfold next; rw [if_neg h12, if_neg (by simp only [d1, ne_eq, not_true, false_or]; exact c2), if_pos c3]
        rw [this]; exact .cut (by omega) c1 (by omega) c3
      · by_cases c4 : (l.take 12).drop 8 = le (mask (sum ((l.take (12 + leVal (l.take 4))).drop 12))) 4
        · have d4 := i2.2 c4
          have : next l = ((l.take (12 + leVal (l.take 4))).drop 12, 12 + leVal (l.take 4), 0) := by unfold next; rw [if_neg h12, if_neg (by simp only [d1, ne_eq, not_true, false_or]; exact c2), if_neg c3, if_neg (by simp only [d4, ne_eq, not_true, not_false_eq_true])]
          rw [this]; exact .ok (by omega) c1 (by omega) (by omega) c4
        · have d4 : leVal ((l.take 12).drop 8) ≠ mask (sum ((l.take (12 + leVal (l.take 4))).drop 12)) := fun h => c4 (i2.1 h)
          have : next l = ([], 0, 12) := by unfold next; rw [if_neg h12, if_neg (by simp only [d1, ne_eq, not_true, false_or]; exact c2), if_neg c3, if_pos d4]
          rw [this]; exact .bad (by omega) c1 (by omega) (by omega) c4
  · have d1 : leVal ((l.take 8).drop 4) ≠ mask (sum (l.take 4)) := fun h => c1 (i1.1 h)
    have : next l = ([], 0, 12) := by unfold next; rw [if_neg h12, if_pos (.inl d1)]
    rw [this]; exact .head (by omega) c1
theorem why_err {l d : List Int} {m ex : Nat} (h : Why l d m ex) (he : 0 < ex) : d = [] ∧ m = 0 := by
  cases h with
  | ok _ _ _ _ _ => exact absurd he (Nat.lt_irrefl 0)
  | _ => exact ⟨rfl, rfl⟩
theorem why_err4 {l d : List Int} {m ex : Nat} (h : Why l d m ex) (he : 0 < ex) (hl : 12 ≤ l.length) : (ex = 12 ∧ (l.take 8).drop 4 ≠ le (mask (sum (l.take 4))) 4) ∨ (ex = 12 ∧ (l.take 8).drop 4 = le (mask (sum (l.take 4))) 4 ∧ 1048576 < leVal (l.take 4)) ∨ (ex = 8 ∧ (l.take 8).drop 4 = le (mask (sum (l.take 4))) 4 ∧ leVal (l.take 4) ≤ 1048576 ∧ l.length < 12 + leVal (l.take 4)) ∨ (ex = 12 ∧ (l.take 8).drop 4 = le (mask (sum (l.take 4))) 4 ∧ leVal (l.take 4) ≤ 1048576 ∧ 12 + leVal (l.take 4) ≤ l.length ∧ (l.take 12).drop 8 ≠ le (mask (sum ((l.take (12 + leVal (l.take 4))).drop 12))) 4) := by
  cases h with
  | short h => exact absurd h (by omega)
  | head h h1 => exact .inl ⟨rfl, h1⟩
  | much h h1 h2 => exact .inr (.inl ⟨rfl, h1, h2⟩)
  | cut h h1 h2 h3 => exact .inr (.inr (.inl ⟨rfl, h1, h2, h3⟩))
  | bad h h1 h2 h3 h4 => exact .inr (.inr (.inr ⟨rfl, h1, h2, h3, h4⟩))
  | ok h h1 h2 h3 h4 => exact absurd he (Nat.lt_irrefl 0)
theorem why_ok {l d : List Int} {m : Nat} (h : Why l d m 0) : d = (l.take (12 + leVal (l.take 4))).drop 12 ∧ m = 12 + leVal (l.take 4) ∧ (l.take 8).drop 4 = le (mask (sum (l.take 4))) 4 ∧ leVal (l.take 4) ≤ 1048576 ∧ 12 + leVal (l.take 4) ≤ l.length ∧ (l.take 12).drop 8 = le (mask (sum ((l.take (12 + leVal (l.take 4))).drop 12))) 4 := by
  cases h with
  | ok h h1 h2 h3 h4 => exact ⟨rfl, rfl, h1, h2, h3, h4⟩
/-- The copy that is turned, beside what Next told. -/
structure Turn (w wr : World) (B : Nat) (v vd : Value) (n : Nat) (d : List Int) : Prop where
  own : ∃ xs, Own .u8 5 wr w.heap.size v xs ∧ xs.length = n
  data : GrB wr B vd d
  bel : Below w.heap.size w wr
theorem turn_set {w wr : World} {B g n c k : Nat} {vd : Value} {d : List Int} {x : Int} (h : Turn w wr B (.slice (some ⟨g, 0, none⟩) n c) vd n d) (hg : w.heap.size ≤ g) (hgB : g < B) : Turn w (wr.setCell ⟨g, k, none⟩ (.int .u8 x)) B (.slice (some ⟨g, 0, none⟩) n c) vd n d := by
  obtain ⟨⟨xs, h1, h2⟩, h3, h4⟩ := h
  exact ⟨⟨_, own_set h1 k x, by rw [List.length_set]; exact h2⟩, gr_move h3 (fun j hj => Below.heap_setCell wr ⟨g, k, none⟩ _ j (by have := gr_base h3 j hj; show j ≠ g; omega)), h4.setCell hg _⟩
theorem reg_10_13 : RegOk (opsOf Tryd.f10 13) [[], [0], [0, 1], [0, 1, 2], [0, 1, 2, 3], [0, 1, 2, 3, 4], [0, 1, 2, 3, 4, 5]] [] [some 38, some 39, some 40, some 41, some 42, some 43, some 44] := regOk (by kernel_rfl)
theorem reg_10_22 : RegOk (opsOf Tryd.f10 22) [[], [0], [0, 1], [], [3], [3, 4], [3, 4, 5], [3, 4, 5, 6], [3, 4, 5, 6, 7], [0, 1, 2, 3, 4, 5, 6, 7, 8], [0, 1, 2, 3, 4, 5, 6, 7, 8, 9], [0, 1, 2, 3, 4, 5, 6, 7, 8, 9, 10], [0, 1, 2, 3, 4, 5, 6, 7, 8, 9, 10, 11], [0, 1, 2, 3, 4, 5, 6, 7, 8, 9, 10, 11, 12]] [] [some 62, some 63, some 64, some 65, some 66, some 67, some 68, some 69, some 70, some 71, some 72, some 73, some 74, some 75] := regOk (by kernel_rfl)
theorem reg_10_26 : RegOk (opsOf Tryd.f10 26) [[], [0], [0, 1], [], [], [4], [3, 4, 5], [3, 4, 5, 6], [3, 4, 5, 6, 7], [3, 4, 5, 6, 7, 8], [3, 4, 5, 6, 7, 8, 9], [0, 1, 2, 3, 4, 5, 6, 7, 8, 9, 10]] [] [some 85, some 86, some 87, some 88, some 89, some 90, some 91, some 92, some 93, some 94, some 95, some 96] := regOk (by kernel_rfl)
theorem reg_10_28 : RegOk (opsOf Tryd.f10 28) [[], [0], [0, 1], [0, 1, 2], [0, 1, 2], [0, 1, 2, 4], [0, 1, 2, 3, 4, 5], [0, 1, 2, 3, 4, 5, 6], [0, 1, 2, 3, 4, 5, 6, 7], [0, 1, 2, 3, 4, 5, 6, 7, 8], [0, 1, 2, 3, 4, 5, 6, 7, 8, 9], [0, 1, 2, 3, 4, 5, 6, 7, 8], [0, 1, 2, 3, 4, 5, 6, 7, 8], [0, 1, 2, 3, 4, 5, 6, 7, 8, 12], [0, 1, 2, 3, 4, 5, 6, 7, 8, 11, 12, 13], [0, 1, 2, 3, 4, 5, 6, 7, 8, 11, 12, 13, 14], [0, 1, 2, 3, 4, 5, 6, 7, 8, 9, 10, 11, 12, 13, 14, 15], [0, 1, 2, 3, 4, 5, 6, 7, 8, 9, 10, 11, 12, 13, 14, 15, 16], [0, 1, 2, 3, 4, 5, 6, 7, 8, 9, 10, 11, 12, 13, 14, 15, 16, 17]] [] [some 99, some 100, some 101, some 102, some 103, some 104, some 105, some 106, some 107, some 108, some 109, some 110, some 111, some 112, some 113, some 114, some 115, some 116, some 2] := regOk (by kernel_rfl)
set_option maxRecDepth 20000 in
set_option maxHeartbeats 6400000 in
theorem nexts_any (A : Option Addr) (n c : Nat) (l : List Int) (w : World) (hT : Halves w) (hr : Rds .u8 w A n l) (hl : l.length = n) (hm : n * 1 ≤ 140737488351232) (hw : ∀ x ∈ l, (Lit.int .u8 x).wf = true) (hc : n ≤ c) :
    Calls Tryd.prog 10 #[.slice A n c] w fun e w' => e = .returned (.bool true) ∧ Below w.heap.size w w' := by
  have HB := Lib.hid (byte_wf' hw)
  have HR := Lib.hid hr
  have HL := Lib.hid hl
  have HT := Lib.hid hT
  have HWHY := Lib.hid (why l HB.out)
  clear hw hr hl hT
  have C0 := Lib.hid (head_any w HT.out)
  go_enter Tryd.func10, Tryd.ntmps10
  go_wp2_with fail
  refine C0.out.mono ?_
  rintro e w1 ⟨rfl, hb1⟩
  have HW1 := Lib.hid hb1
  clear hb1 C0
  go_upto_region 3 with fail
  rcases Nat.lt_or_ge 400 n with g1 | g1
  · have t1 : decide ((400 : Int) < (n : Int)) = true := decide_eq_true (by omega)
    go_wp2_with fail
    go_ret
    exact ⟨rfl, HW1.out⟩
  have t1 : decide ((400 : Int) < (n : Int)) = false := decide_eq_false (by omega)
  have o0 := Lib.hid (own_lit_ .u8 5 w1 w.heap.size [] 0 rfl HW1.out.size (by simp))
  have b0 := Lib.hid (below_alloc HW1.out (.cells #[] 5))
  rcases Nat.eq_zero_or_pos n with hn0 | hn0
  · subst hn0
    obtain rfl : l = [] := List.length_eq_zero_iff.1 HL.out
    go_wp2_with (at_builtin; refine app_row 0 tb rfl (.tmp 15) (.tmp 16) rfl rfl rfl o0.out (rds_below HR.out b0.out) b0.out b0.out.size ?cL ?_; (case cL => simp); intro v2 w2 ho2 hb2 hs2 _; obtain ⟨A2, n2, c2, e2, h2c, HL2, h2m, hr2⟩ := gr_open (.inl ho2 : GrB w2 w.heap.size v2 _); subst e2; have hn2 : n2 = 0 := (by rw [← HL2.out]; rfl); subst hn2; have HR2 := Lib.hid hr2; have HB2 := Lib.hid hb2; clear ho2 hb2 hs2 hr2)
    have C1 := Lib.hid (recNext_any A2 0 c2 _ w2 (halves_of HT.out HB2.out) HR2.out (by intro x hx; cases hx) h2c (by omega))
    refine C1.out.mono ?_
    rintro e w3 ⟨v3, rfl, ho3, hb3⟩
    have hnx : next ([] ++ []) = ([], 0, 8) := rfl
    rw [hnx] at ho3 ⊢
    obtain ⟨A3, n3, c3, rfl, h3c, HL3, h3m, hr3⟩ := gr_open ho3
    have hn3 : n3 = 0 := by rw [← HL3.out]; rfl
    subst hn3
    have HW3 := Lib.hid (below_then HB2.out HB2.out.size hb3)
    clear ho3 hr3 hb3 C1 HWHY
    go_wp2_with fail
    go_loopw [26] (fun i wr => i = .int .i64 0 ∧ wr = w3) (fun _ _ => 0)
    case atStart => exact ⟨rfl, rfl⟩
    case round =>
      obtain ⟨rfl, rfl⟩ := hrel
      go_wp2_with fail
      go_ret
      exact ⟨rfl, HW3.out⟩
  go_wp2_with (at_builtin; refine app_row 0 tb rfl (.tmp 15) (.tmp 16) rfl rfl rfl o0.out (rds_below HR.out b0.out) b0.out b0.out.size ?cL ?_; (case cL => simp; omega); intro v2 w2 ho2 hb2 hs2 _; rw [List.nil_append] at ho2; obtain ⟨g, n2, c2, e2, HL2, hp2, hm2, hc2, hgb, hgl⟩ := own_form ho2 (by rw [HL.out]; exact hn0); subst e2; have hn2 : n2 = n := (by rw [← HL2.out, HL.out]); subst hn2; have HO2 := Lib.hid ho2; have HB2 := Lib.hid hb2; clear ho2 hb2 hs2)
  have C1 := Lib.hid (recNext_any (some ⟨g, 0, none⟩) n2 c2 l w2 (halves_of HT.out HB2.out) (own_rds_ HO2.out) HB.out hc2 (by omega))
  refine C1.out.mono ?_
  rintro e w3 ⟨v3, rfl, ho3, hb3⟩
  have hwhy := HWHY.out
  generalize next l = nx at hwhy ho3 ⊢
  obtain ⟨d, m, ex⟩ := nx
  simp only at hwhy ho3 ⊢
  obtain ⟨A3, n3, c3, rfl, h3c, HL3, h3m, hr3⟩ := gr_open ho3
  have hR0 : Turn w w3 w2.heap.size (.slice (some ⟨g, 0, none⟩) n2 c2) (.slice A3 n3 c3) n2 d := ⟨⟨l, by
    have := HO2.out
    exact Kd.R_of_own (own_move (Kd.own_of_R this) (fun j hj => hb3.block j (own_lt (Kd.own_of_R this) j hj))) (fun _ _ => trivial), HL.out⟩, ho3, below_then HB2.out HB2.out.size hb3⟩
  have HR0 := Lib.hid hR0
  have HWHY2 := Lib.hid hwhy
  clear ho3 hr3 hb3 C1 HWHY hR0 hwhy HO2 o0 b0
  go_wp2_with fail
  go_loopw [26] (fun i wr => ∃ k : Nat, k ≤ n2 ∧ i = .int .i64 k ∧ Turn w wr w2.heap.size (.slice (some ⟨g, 0, none⟩) n2 c2) (.slice A3 n3 c3) n2 d) (fun i _ => n2 - (intOf i).toNat)
  case atStart => exact ⟨0, Nat.zero_le _, rfl, HR0.out⟩
  case round =>
    obtain ⟨k, hk, rfl, hR⟩ := hrel
    clear HR0
    by_cases hlt : k < n2
    · obtain ⟨xs, hox, hxl⟩ := hR.own
      obtain ⟨hc1', hf1⟩ := own_cell 0 hox k hlt
      have d1 : decide ((k : Int) < (n2 : Int)) = true := by simp; omega
      have HRR := Lib.hid hR
      clear hR hox hxl
      go_wp2_with fail
      go_roundw
      case rel => exact ⟨k + 1, by omega, by go_num, turn_set HRR.out hgb hgl⟩
      case measure => simp [intOf]; omega
    · obtain rfl : k = n2 := by omega
      have d1 : decide ((k : Int) < (k : Int)) = false := by simp
      have HBW := Lib.hid hR.bel
      have HD := Lib.hid hR.data
      clear hR
      obtain ⟨wo, rfl⟩ : ∃ wo : World, wo = wr := ⟨_, rfl⟩
      have hwhy := HWHY2.out
      have HRO := Lib.hid (rds_below HR.out HBW.out)
      clear HWHY2 HR HW1 HB2
      by_cases h12 : k < 12
      · have t2 : decide ((k : Int) < 12) = true := decide_eq_true (by omega)
        have h12' : l.length < 12 := by rw [HL.out]; exact h12
        generalize hdd : d = d' at hwhy
        generalize hee : ex = ex' at hwhy
        generalize hmm : m = m' at hwhy
        cases hwhy with
        | short h => 
          subst hmm hee
          have hn3 : n3 = 0 := by rw [← HL3.out, hdd]; rfl
          subst hn3
          clear hdd HL3
          go_wp2_with fail
          go_ret
          exact ⟨rfl, HBW.out⟩
        | _ => exfalso; omega
      · have t2 : decide ((k : Int) < 12) = false := decide_eq_false (by omega)
        have hl4 : (l.take 4).length = 4 := by rw [List.length_take, HL.out]; omega
        have hb4 : Byte (l.take 4) := HB.out.take 4
        have hb8 : Byte ((l.take 8).drop 4) := (HB.out.take 8).drop 4
        have hb12 : Byte ((l.take 12).drop 8) := (HB.out.take 12).drop 8
        obtain ⟨hcut4, hC4⟩ := cut_to (enc := Value.int .u8) (h1 := int_one .u8) 0 tb A k c 4 (by omega) hc 4 rfl
        obtain ⟨A8, hcut8, hC8⟩ := cut_mid (enc := Value.int .u8) (h1 := int_one .u8) 0 tb A k c 4 8 4 (by omega) (by omega) hc 4 8 rfl rfl
        obtain ⟨A12, hcut12, hC12⟩ := cut_mid (enc := Value.int .u8) (h1 := int_one .u8) 0 tb A k c 8 12 4 (by omega) (by omega) hc 8 12 rfl rfl
        have HC4 := Lib.hid (fun wq (h : Below wo.heap.size wo wq) => hC4 wq _ (rds_below HRO.out h))
        have HC8 := Lib.hid (fun wq (h : Below wo.heap.size wo wq) => hC8 wq _ (rds_below HRO.out h))
        have HC12 := Lib.hid (fun wq (h : Below wo.heap.size wo wq) => hC12 wq _ (rds_below HRO.out h))
        clear hC4 hC8 hC12
        have HDD : Hid (∀ N : Nat, 12 + N ≤ k → ∃ AD, (∀ W : World, (Instr.slice 22 (.slice A k c) (some (.int .i64 12)) (some (.int .i64 (12 + (N : Int)))) none).run Tryd.prog W = .ok (.slice AD N (c - 12)) W) ∧ (∀ wq, Below wo.heap.size wo wq → Rds .u8 wq AD N ((l.take (12 + N)).drop 12)) ∧ ((l.take (12 + N)).drop 12).length = N ∧ Byte ((l.take (12 + N)).drop 12)) := Lib.hid (fun N hN => by
          obtain ⟨AD, h1, h2⟩ := cut_mid (enc := Value.int .u8) (h1 := int_one .u8) 0 tb A k c 12 (12 + N) N (by omega) (by omega) hc 12 (12 + (N : Int)) rfl (by omega)
          exact ⟨AD, h1, fun wq h => h2 wq _ (rds_below HRO.out h), by rw [List.length_drop, List.length_take, HL.out]; omega, (HB.out.take _).drop _⟩)
        have HGT : Hid (∀ j, j < 4 → l.getD j 0 = (l.take 4).getD j 0) := Lib.hid (fun j hj => by rw [List.getD_eq_getElem?_getD, List.getD_eq_getElem?_getD, List.getElem?_take, if_pos hj])
        have HLN : Hid (∀ N : Nat, l.length < 12 + N ↔ k < 12 + N) := Lib.hid (fun N => by rw [HL.out])
        have CS := Lib.hid (fun wq (h : Below wo.heap.size wo wq) => refsum_any A 4 c _ wq (HC4.out wq h) hl4 (by omega) (byte_is hb4))
        have hs4 : sum (l.take 4) < 4294967296 := sum_lt (byte_is hb4)
        have CM := Lib.hid (fun wq => refmask_any _ hs4 wq)
        have hK4 := mask_lt (sum (l.take 4))
        have hN4 := le4_lt hb4 hl4
        have HX8 := Lib.hid hb8
        have HX12 := Lib.hid hb12
        have HT4 := Lib.hid hl4
        have HB4 := Lib.hid hb4
        clear hl4 hb4 hb8 hb12 hs4 HC4
        have hlen : 12 ≤ l.length := by rw [HL.out]; omega
        have hwhy2 : Why l d m ex := hwhy
        clear hwhy
        rcases (Nat.eq_zero_or_pos ex).symm with he | he
        · have HE := Lib.hid he
          have hd0 : d = [] ∧ m = 0 := why_err hwhy2 he
          obtain ⟨rfl, rfl⟩ := hd0
          have hn3 : n3 = 0 := by rw [← HL3.out]; rfl
          subst hn3
          have t3 : ((ex : Int) != 0) = true := by simp; omega
          have hwhy := hwhy2
          clear hwhy2 he
          have hcs := why_err4 hwhy HE.out hlen
          clear hwhy
          generalize (l.take 8).drop 4 = X8 at HC8 HX8 hcs
          generalize (l.take 12).drop 8 = X12 at HC12 HX12 hcs
          generalize hS : sum (l.take 4) = S at CS CM hK4 hcs
          generalize mask S = K at CM hK4 hcs
          clear hS
          have CL := Lib.hid (fun wq (hI : Below wo.heap.size wo wq) => (lawlittle_any K hK4 wq).mono fun e w' h => (by obtain ⟨v, he, hM⟩ := h; exact ⟨v, he, hM.bel, gr_lower hM.own hI.size⟩ : ∃ v, e = .returned v ∧ Below wq.heap.size wq w' ∧ (FW.gr .u8 5 wo.heap.size (le K 4)).p v w'))
          have HCS := Lib.hid hcs
          have HN4 := Lib.hid hN4
          clear hK4 hcs hN4 hlen
          generalize l.take 4 = t4 at CS HGT HT4 HB4 HCS HN4
          go_wp2_with fail
          go_loop [8, 9] (fun sz i => ∃ j : Nat, j ≤ 4 ∧ i = .int .i64 ((j : Int) - 1) ∧ sz = .int .i64 (leVal (t4.drop j) : Nat)) (fun _ i => (intOf i + 1).toNat)
          case atStart => exact ⟨4, by omega, rfl, by rw [List.drop_eq_nil_of_le (by rw [HT4.out]; omega)]; rfl⟩
          case round =>
            obtain ⟨j, hj, rfl, rfl⟩ := hrel
            rcases j with _ | j
            · rw [show (((0 : Nat) : Int) - 1) = -1 from rfl, List.drop_zero]
              generalize hNN : leVal t4 = N at HN4
              have HNN := Lib.hid hNN
              clear hNN
              have hN4 := HN4.out
              go_upto_region 22 with fail
              have hcs := HCS.out
              rw [HNN.out] at hcs
              clear HCS
              rcases hcs with ⟨rfl, h1⟩ | ⟨rfl, h1, h2⟩ | ⟨rfl, h1, h2, h3⟩ | ⟨rfl, h1, h2, h3, h4⟩
              · have HNE := Lib.hid (str_ne HX8.out (le_is K 4) h1)
                clear h1
                refine draws_ (fun wq => Below wo.heap.size wo wq) (fun _ => True) (by kernel_rfl) reg_10_22 rfl inv0 (fun _ _ _ _ => trivial) (below_drew (Below.refl _ _)) trivial ?_
                refine w_move (.inl rfl) (fun vs w hK => ⟨wants_none rfl, rho_out rfl rfl⟩) ?_
                refine w_val [(62, _)] _ (fun vs w hK => ⟨wants_none rfl, rho_in rfl (fv (hK 0 (by decide))), trivial⟩) rfl (fun wq hI => by simp only [execOp, Option.map_some, Option.map_none, lk_tmp, lk_const, lkT_cons, ↓reduceIte, Nat.reduceEqDiff]; go_simp; (first | done | rfl)) ?_
                refine w_val [(63, _)] (_) (fun vs w hK => ⟨wants_none rfl, rho_in rfl (fv (hK 1 (by decide))), trivial⟩) rfl (fun wq hI => by exact run_conv_op rfl rfl (conv_rds (dst := 9) tb Tryd.underlying5 Tryd.underlying9 (HC8.out wq hI))) ?_
                refine w_move (.inl rfl) (fun vs w hK => ⟨wants_none rfl, rho_out rfl rfl⟩) ?_
                refine w_val [(65, _)] _ (fun vs w hK => ⟨wants_none rfl, rho_in rfl (fv (hK 3 (by decide))), trivial⟩) rfl (fun wq hI => by simp only [execOp, Option.map_some, Option.map_none, lk_tmp, lk_const, lkT_cons, ↓reduceIte, Nat.reduceEqDiff]; go_simp; (first | done | rfl)) ?_
                refine w_call [(66, _)] _ _ (by decide) (fun vs w hK => ⟨wants_none rfl, rho_in rfl (fv (hK 4 (by decide))), trivial⟩) rfl rfl Tryd.func17 (by kernel_rfl) rfl (fun wq hI => CS.out wq hI) (by first | (simp only [List.map_toArray, List.map_cons, List.map_nil]; done) | (simp only [List.map_toArray, List.map_cons, List.map_nil]; rfl)) ?_
                refine w_call [(67, _)] _ _ (by decide) (fun vs w hK => ⟨wants_none rfl, rho_in rfl (fv (hK 5 (by decide))), trivial⟩) rfl rfl Tryd.func20 (by kernel_rfl) rfl (fun wq hI => CM.out wq) (by first | (simp only [List.map_toArray, List.map_cons, List.map_nil]; done) | (simp only [List.map_toArray, List.map_cons, List.map_nil]; rfl)) ?_
                refine w_callF (FW.gr .u8 5 wo.heap.size (le K 4)) [(68, _)] _ rfl (fun vs w hK => ⟨wants_none rfl, rho_in rfl (fv (hK 6 (by decide))), trivial⟩) rfl rfl Tryd.func26 (by kernel_rfl) rfl (fun wq hI => CL.out wq hI) (by first | (simp only [List.map_toArray, List.map_cons, List.map_nil]; done) | (simp only [List.map_toArray, List.map_cons, List.map_nil]; rfl)) ?_
                refine w_any (FW.val (.string (strOfNums (le K 4)))) (.inl rfl) (fun vs wq hI hK => ?_) ?_
                · have hA : GrB wq wo.heap.size (vs 7) (le K 4) := hK 7 (by decide)
                  exact ob_run [(69, _)] (wants_none rfl) ⟨rho_in rfl rfl, trivial⟩ rfl (run_conv_op rfl rfl (conv_gr (dst := 9) tb Tryd.underlying5 Tryd.underlying9 hA)) ⟨Below.refl _ _, rfl⟩
                refine w_val [(64, _), (70, _)] (_) (fun vs w hK => ⟨wants_none rfl, rho_in rfl (fv (hK 2 (by decide))), rho_in rfl (fv (hK 8 (by decide))), trivial⟩) rfl (fun wq hI => by exact run_str_neq rfl rfl rfl HNE.out) ?_
                refine w_move (.inl rfl) (fun vs w hK => ⟨wants_none rfl, rho_in rfl (fv (hK 9 (by decide)))⟩) ?_
                refine w_not (fun vs wq hK => wants_not rfl (fv (hK 10 (by decide)))) ?_
                refine w_not (fun vs wq hK => wants_not rfl (fv (hK 10 (by decide)))) ?_
                refine w_pick (b := true) rfl (fun vs w hK => ⟨wants_none rfl, (rho_in rfl (fv (hK 10 (by decide)))), rho_const⟩) ?_
                refine w_end rfl rfl rfl (fun vs wq hI hF => ?_)
                simp only [List.reverse_cons, List.reverse_nil, List.nil_append, List.cons_append, finL_val, finL_of, finL_any, finL_app, finL_new, finL_gr, finL_row, finL_box, finL_nil, Act.put, List.setIfInBounds_toArray, List.set_cons_zero, List.set_cons_succ, Nat.reduceAdd]
                have HW5 := Lib.hid (below_then HBW.out HBW.out.size hI)
                have HI5 := Lib.hid hI
                clear hI hF
                go_wp2_with fail
                go_ret
                exact ⟨rfl, HW5.out⟩
              · have HEQ : Hid (strOfNums X8 = strOfNums (le K 4)) := Lib.hid (by rw [h1])
                have HG := Lib.hid h2
                clear h1 h2
                refine draws_ (fun wq => Below wo.heap.size wo wq) (fun _ => True) (by kernel_rfl) reg_10_22 rfl inv0 (fun _ _ _ _ => trivial) (below_drew (Below.refl _ _)) trivial ?_
                refine w_move (.inl rfl) (fun vs w hK => ⟨wants_none rfl, rho_out rfl rfl⟩) ?_
                refine w_val [(62, _)] _ (fun vs w hK => ⟨wants_none rfl, rho_in rfl (fv (hK 0 (by decide))), trivial⟩) rfl (fun wq hI => by simp only [execOp, Option.map_some, Option.map_none, lk_tmp, lk_const, lkT_cons, ↓reduceIte, Nat.reduceEqDiff]; go_simp; (first | done | rfl)) ?_
                refine w_val [(63, _)] (_) (fun vs w hK => ⟨wants_none rfl, rho_in rfl (fv (hK 1 (by decide))), trivial⟩) rfl (fun wq hI => by exact run_conv_op rfl rfl (conv_rds (dst := 9) tb Tryd.underlying5 Tryd.underlying9 (HC8.out wq hI))) ?_
                refine w_move (.inl rfl) (fun vs w hK => ⟨wants_none rfl, rho_out rfl rfl⟩) ?_
                refine w_val [(65, _)] _ (fun vs w hK => ⟨wants_none rfl, rho_in rfl (fv (hK 3 (by decide))), trivial⟩) rfl (fun wq hI => by simp only [execOp, Option.map_some, Option.map_none, lk_tmp, lk_const, lkT_cons, ↓reduceIte, Nat.reduceEqDiff]; go_simp; (first | done | rfl)) ?_
                refine w_call [(66, _)] _ _ (by decide) (fun vs w hK => ⟨wants_none rfl, rho_in rfl (fv (hK 4 (by decide))), trivial⟩) rfl rfl Tryd.func17 (by kernel_rfl) rfl (fun wq hI => CS.out wq hI) (by first | (simp only [List.map_toArray, List.map_cons, List.map_nil]; done) | (simp only [List.map_toArray, List.map_cons, List.map_nil]; rfl)) ?_
                refine w_call [(67, _)] _ _ (by decide) (fun vs w hK => ⟨wants_none rfl, rho_in rfl (fv (hK 5 (by decide))), trivial⟩) rfl rfl Tryd.func20 (by kernel_rfl) rfl (fun wq hI => CM.out wq) (by first | (simp only [List.map_toArray, List.map_cons, List.map_nil]; done) | (simp only [List.map_toArray, List.map_cons, List.map_nil]; rfl)) ?_
                refine w_callF (FW.gr .u8 5 wo.heap.size (le K 4)) [(68, _)] _ rfl (fun vs w hK => ⟨wants_none rfl, rho_in rfl (fv (hK 6 (by decide))), trivial⟩) rfl rfl Tryd.func26 (by kernel_rfl) rfl (fun wq hI => CL.out wq hI) (by first | (simp only [List.map_toArray, List.map_cons, List.map_nil]; done) | (simp only [List.map_toArray, List.map_cons, List.map_nil]; rfl)) ?_
                refine w_any (FW.val (.string (strOfNums (le K 4)))) (.inl rfl) (fun vs wq hI hK => ?_) ?_
                · have hA : GrB wq wo.heap.size (vs 7) (le K 4) := hK 7 (by decide)
                  exact ob_run [(69, _)] (wants_none rfl) ⟨rho_in rfl rfl, trivial⟩ rfl (run_conv_op rfl rfl (conv_gr (dst := 9) tb Tryd.underlying5 Tryd.underlying9 hA)) ⟨Below.refl _ _, rfl⟩
                refine w_val [(64, _), (70, _)] (_) (fun vs w hK => ⟨wants_none rfl, rho_in rfl (fv (hK 2 (by decide))), rho_in rfl (fv (hK 8 (by decide))), trivial⟩) rfl (fun wq hI => by exact run_neq_same rfl rfl rfl HEQ.out) ?_
                refine w_move (.inl rfl) (fun vs w hK => ⟨wants_none rfl, rho_in rfl (fv (hK 9 (by decide)))⟩) ?_
                refine w_move (.inl rfl) (fun vs w hK => ⟨wants_g rfl (fv (hK 10 (by decide))), rho_out rfl rfl⟩) ?_
                refine w_val [(73, _)] (_) (fun vs w hK => ⟨wants_g rfl (fv (hK 10 (by decide))), rho_in rfl (fv (hK 11 (by decide))), trivial⟩) rfl (fun wq hI => by exact run_int_gtr (r := true) rfl rfl rfl (decide_eq_true (by have := HG.out; omega))) ?_
                refine w_pick (b := false) rfl (fun vs w hK => ⟨wants_none rfl, (rho_in rfl (fv (hK 10 (by decide)))), (rho_in rfl (fv (hK 12 (by decide))))⟩) ?_
                refine w_end rfl rfl rfl (fun vs wq hI hF => ?_)
                simp only [List.reverse_cons, List.reverse_nil, List.nil_append, List.cons_append, finL_val, finL_of, finL_any, finL_app, finL_new, finL_gr, finL_row, finL_box, finL_nil, Act.put, List.setIfInBounds_toArray, List.set_cons_zero, List.set_cons_succ, Nat.reduceAdd]
                have HW5 := Lib.hid (below_then HBW.out HBW.out.size hI)
                have HI5 := Lib.hid hI
                clear hI hF
                go_wp2_with fail
                go_ret
                exact ⟨rfl, HW5.out⟩
              · have HEQ : Hid (strOfNums X8 = strOfNums (le K 4)) := Lib.hid (by rw [h1])
                have HG := Lib.hid h2
                clear h1 h2
                have HSH := Lib.hid ((HLN.out N).1 h3)
                clear h3
                refine draws_ (fun wq => Below wo.heap.size wo wq) (fun _ => True) (by kernel_rfl) reg_10_22 rfl inv0 (fun _ _ _ _ => trivial) (below_drew (Below.refl _ _)) trivial ?_
                refine w_move (.inl rfl) (fun vs w hK => ⟨wants_none rfl, rho_out rfl rfl⟩) ?_
                refine w_val [(62, _)] _ (fun vs w hK => ⟨wants_none rfl, rho_in rfl (fv (hK 0 (by decide))), trivial⟩) rfl (fun wq hI => by simp only [execOp, Option.map_some, Option.map_none, lk_tmp, lk_const, lkT_cons, ↓reduceIte, Nat.reduceEqDiff]; go_simp; (first | done | rfl)) ?_
                refine w_val [(63, _)] (_) (fun vs w hK => ⟨wants_none rfl, rho_in rfl (fv (hK 1 (by decide))), trivial⟩) rfl (fun wq hI => by exact run_conv_op rfl rfl (conv_rds (dst := 9) tb Tryd.underlying5 Tryd.underlying9 (HC8.out wq hI))) ?_
                refine w_move (.inl rfl) (fun vs w hK => ⟨wants_none rfl, rho_out rfl rfl⟩) ?_
                refine w_val [(65, _)] _ (fun vs w hK => ⟨wants_none rfl, rho_in rfl (fv (hK 3 (by decide))), trivial⟩) rfl (fun wq hI => by simp only [execOp, Option.map_some, Option.map_none, lk_tmp, lk_const, lkT_cons, ↓reduceIte, Nat.reduceEqDiff]; go_simp; (first | done | rfl)) ?_
                refine w_call [(66, _)] _ _ (by decide) (fun vs w hK => ⟨wants_none rfl, rho_in rfl (fv (hK 4 (by decide))), trivial⟩) rfl rfl Tryd.func17 (by kernel_rfl) rfl (fun wq hI => CS.out wq hI) (by first | (simp only [List.map_toArray, List.map_cons, List.map_nil]; done) | (simp only [List.map_toArray, List.map_cons, List.map_nil]; rfl)) ?_
                refine w_call [(67, _)] _ _ (by decide) (fun vs w hK => ⟨wants_none rfl, rho_in rfl (fv (hK 5 (by decide))), trivial⟩) rfl rfl Tryd.func20 (by kernel_rfl) rfl (fun wq hI => CM.out wq) (by first | (simp only [List.map_toArray, List.map_cons, List.map_nil]; done) | (simp only [List.map_toArray, List.map_cons, List.map_nil]; rfl)) ?_
                refine w_callF (FW.gr .u8 5 wo.heap.size (le K 4)) [(68, _)] _ rfl (fun vs w hK => ⟨wants_none rfl, rho_in rfl (fv (hK 6 (by decide))), trivial⟩) rfl rfl Tryd.func26 (by kernel_rfl) rfl (fun wq hI => CL.out wq hI) (by first | (simp only [List.map_toArray, List.map_cons, List.map_nil]; done) | (simp only [List.map_toArray, List.map_cons, List.map_nil]; rfl)) ?_
                refine w_any (FW.val (.string (strOfNums (le K 4)))) (.inl rfl) (fun vs wq hI hK => ?_) ?_
                · have hA : GrB wq wo.heap.size (vs 7) (le K 4) := hK 7 (by decide)
                  exact ob_run [(69, _)] (wants_none rfl) ⟨rho_in rfl rfl, trivial⟩ rfl (run_conv_op rfl rfl (conv_gr (dst := 9) tb Tryd.underlying5 Tryd.underlying9 hA)) ⟨Below.refl _ _, rfl⟩
                refine w_val [(64, _), (70, _)] (_) (fun vs w hK => ⟨wants_none rfl, rho_in rfl (fv (hK 2 (by decide))), rho_in rfl (fv (hK 8 (by decide))), trivial⟩) rfl (fun wq hI => by exact run_neq_same rfl rfl rfl HEQ.out) ?_
                refine w_move (.inl rfl) (fun vs w hK => ⟨wants_none rfl, rho_in rfl (fv (hK 9 (by decide)))⟩) ?_
                refine w_move (.inl rfl) (fun vs w hK => ⟨wants_g rfl (fv (hK 10 (by decide))), rho_out rfl rfl⟩) ?_
                refine w_val [(73, _)] (_) (fun vs w hK => ⟨wants_g rfl (fv (hK 10 (by decide))), rho_in rfl (fv (hK 11 (by decide))), trivial⟩) rfl (fun wq hI => by exact run_int_gtr (r := false) rfl rfl rfl (decide_eq_false (by have := HG.out; omega))) ?_
                refine w_pick (b := false) rfl (fun vs w hK => ⟨wants_none rfl, (rho_in rfl (fv (hK 10 (by decide)))), (rho_in rfl (fv (hK 12 (by decide))))⟩) ?_
                refine w_end rfl rfl rfl (fun vs wq hI hF => ?_)
                simp only [List.reverse_cons, List.reverse_nil, List.nil_append, List.cons_append, finL_val, finL_of, finL_any, finL_app, finL_new, finL_gr, finL_row, finL_box, finL_nil, Act.put, List.setIfInBounds_toArray, List.set_cons_zero, List.set_cons_succ, Nat.reduceAdd]
                have HW5 := Lib.hid (below_then HBW.out HBW.out.size hI)
                have HI5 := Lib.hid hI
                clear hI hF
                have t4' : decide ((k : Int) - 12 < (N : Int)) = true := decide_eq_true (by have := HSH.out; omega)
                go_wp2_with fail
                go_ret
                exact ⟨rfl, HW5.out⟩
              · have HEQ : Hid (strOfNums X8 = strOfNums (le K 4)) := Lib.hid (by rw [h1])
                have HG := Lib.hid h2
                clear h1 h2
                have hge : 12 + N ≤ k := by rw [HL.out] at h3; exact h3
                obtain ⟨AD, hcutD, hCD, hDL, hDB⟩ := HDD.out N hge
                have HCD := Lib.hid hCD
                have HDL := Lib.hid hDL
                have HDB := Lib.hid hDB
                clear hCD hDL hDB h3 HDD
                generalize (l.take (12 + N)).drop 12 = D at HCD HDL HDB h4
                have HWN : Hid (IntKind.i64.wrap (12 + (N : Int)) = 12 + (N : Int)) := Lib.hid (by rw [IntKind.wrap_i64]; omega)
                have t4' : decide ((k : Int) - 12 < (N : Int)) = false := decide_eq_false (by omega)
                have H4 := Lib.hid h4
                clear h4
                refine draws_ (fun wq => Below wo.heap.size wo wq) (fun _ => True) (by kernel_rfl) reg_10_22 rfl inv0 (fun _ _ _ _ => trivial) (below_drew (Below.refl _ _)) trivial ?_
                refine w_move (.inl rfl) (fun vs w hK => ⟨wants_none rfl, rho_out rfl rfl⟩) ?_
                refine w_val [(62, _)] _ (fun vs w hK => ⟨wants_none rfl, rho_in rfl (fv (hK 0 (by decide))), trivial⟩) rfl (fun wq hI => by simp only [execOp, Option.map_some, Option.map_none, lk_tmp, lk_const, lkT_cons, ↓reduceIte, Nat.reduceEqDiff]; go_simp; (first | done | rfl)) ?_
                refine w_val [(63, _)] (_) (fun vs w hK => ⟨wants_none rfl, rho_in rfl (fv (hK 1 (by decide))), trivial⟩) rfl (fun wq hI => by exact run_conv_op rfl rfl (conv_rds (dst := 9) tb Tryd.underlying5 Tryd.underlying9 (HC8.out wq hI))) ?_
                refine w_move (.inl rfl) (fun vs w hK => ⟨wants_none rfl, rho_out rfl rfl⟩) ?_
                refine w_val [(65, _)] _ (fun vs w hK => ⟨wants_none rfl, rho_in rfl (fv (hK 3 (by decide))), trivial⟩) rfl (fun wq hI => by simp only [execOp, Option.map_some, Option.map_none, lk_tmp, lk_const, lkT_cons, ↓reduceIte, Nat.reduceEqDiff]; go_simp; (first | done | rfl)) ?_
                refine w_call [(66, _)] _ _ (by decide) (fun vs w hK => ⟨wants_none rfl, rho_in rfl (fv (hK 4 (by decide))), trivial⟩) rfl rfl Tryd.func17 (by kernel_rfl) rfl (fun wq hI => CS.out wq hI) (by first | (simp only [List.map_toArray, List.map_cons, List.map_nil]; done) | (simp only [List.map_toArray, List.map_cons, List.map_nil]; rfl)) ?_
                refine w_call [(67, _)] _ _ (by decide) (fun vs w hK => ⟨wants_none rfl, rho_in rfl (fv (hK 5 (by decide))), trivial⟩) rfl rfl Tryd.func20 (by kernel_rfl) rfl (fun wq hI => CM.out wq) (by first | (simp only [List.map_toArray, List.map_cons, List.map_nil]; done) | (simp only [List.map_toArray, List.map_cons, List.map_nil]; rfl)) ?_
                refine w_callF (FW.gr .u8 5 wo.heap.size (le K 4)) [(68, _)] _ rfl (fun vs w hK => ⟨wants_none rfl, rho_in rfl (fv (hK 6 (by decide))), trivial⟩) rfl rfl Tryd.func26 (by kernel_rfl) rfl (fun wq hI => CL.out wq hI) (by first | (simp only [List.map_toArray, List.map_cons, List.map_nil]; done) | (simp only [List.map_toArray, List.map_cons, List.map_nil]; rfl)) ?_
                refine w_any (FW.val (.string (strOfNums (le K 4)))) (.inl rfl) (fun vs wq hI hK => ?_) ?_
                · have hA : GrB wq wo.heap.size (vs 7) (le K 4) := hK 7 (by decide)
                  exact ob_run [(69, _)] (wants_none rfl) ⟨rho_in rfl rfl, trivial⟩ rfl (run_conv_op rfl rfl (conv_gr (dst := 9) tb Tryd.underlying5 Tryd.underlying9 hA)) ⟨Below.refl _ _, rfl⟩
                refine w_val [(64, _), (70, _)] (_) (fun vs w hK => ⟨wants_none rfl, rho_in rfl (fv (hK 2 (by decide))), rho_in rfl (fv (hK 8 (by decide))), trivial⟩) rfl (fun wq hI => by exact run_neq_same rfl rfl rfl HEQ.out) ?_
                refine w_move (.inl rfl) (fun vs w hK => ⟨wants_none rfl, rho_in rfl (fv (hK 9 (by decide)))⟩) ?_
                refine w_move (.inl rfl) (fun vs w hK => ⟨wants_g rfl (fv (hK 10 (by decide))), rho_out rfl rfl⟩) ?_
                refine w_val [(73, _)] (_) (fun vs w hK => ⟨wants_g rfl (fv (hK 10 (by decide))), rho_in rfl (fv (hK 11 (by decide))), trivial⟩) rfl (fun wq hI => by exact run_int_gtr (r := false) rfl rfl rfl (decide_eq_false (by have := HG.out; omega))) ?_
                refine w_pick (b := false) rfl (fun vs w hK => ⟨wants_none rfl, (rho_in rfl (fv (hK 10 (by decide)))), (rho_in rfl (fv (hK 12 (by decide))))⟩) ?_
                refine w_end rfl rfl rfl (fun vs wq hI hF => ?_)
                simp only [List.reverse_cons, List.reverse_nil, List.nil_append, List.cons_append, finL_val, finL_of, finL_any, finL_app, finL_new, finL_gr, finL_row, finL_box, finL_nil, Act.put, List.setIfInBounds_toArray, List.set_cons_zero, List.set_cons_succ, Nat.reduceAdd]
                have HW5 := Lib.hid (below_then HBW.out HBW.out.size hI)
                have HI5 := Lib.hid hI
                clear hI hF
                have h4 := H4.out
                clear H4
                have CS2 := Lib.hid (fun wq (h : Below wo.heap.size wo wq) => refsum_any AD N (c - 12) _ wq (HCD.out wq h) HDL.out (by omega) (byte_is HDB.out))
                have hs2 : sum D < 4294967296 := sum_lt (byte_is HDB.out)
                have CM2 := Lib.hid (fun wq => refmask_any _ hs2 wq)
                have hK2 := mask_lt (sum D)
                generalize sum D = S2 at CS2 CM2 hK2 h4
                generalize mask S2 = K2 at CM2 hK2 h4
                have CL2 := Lib.hid (fun wq (hI : Below wo.heap.size wo wq) => (lawlittle_any K2 hK2 wq).mono fun e w' h => (by obtain ⟨v, he, hM⟩ := h; exact ⟨v, he, hM.bel, gr_lower hM.own hI.size⟩ : ∃ v, e = .returned v ∧ Below wq.heap.size wq w' ∧ (FW.gr .u8 5 wo.heap.size (le K2 4)).p v w'))
                have HNE2 := Lib.hid (str_ne HX12.out (le_is K2 4) h4)
                clear h4 hK2 hs2
                go_upto_region 26 with fail
                refine draws_ (fun wq => Below wo.heap.size wo wq) (fun _ => True) (by kernel_rfl) reg_10_26 rfl inv0 (fun _ _ _ _ => trivial) (below_drew HI5.out) trivial ?_
                refine w_move (.inl rfl) (fun vs w hK => ⟨wants_none rfl, rho_out rfl rfl⟩) ?_
                refine w_val [(85, _)] _ (fun vs w hK => ⟨wants_none rfl, rho_in rfl (fv (hK 0 (by decide))), trivial⟩) rfl (fun wq hI => by simp only [execOp, Option.map_some, Option.map_none, lk_tmp, lk_const, lkT_cons, ↓reduceIte, Nat.reduceEqDiff]; go_simp; (first | done | rfl)) ?_
                refine w_val [(86, _)] (_) (fun vs w hK => ⟨wants_none rfl, rho_in rfl (fv (hK 1 (by decide))), trivial⟩) rfl (fun wq hI => by exact run_conv_op rfl rfl (conv_rds (dst := 9) tb Tryd.underlying5 Tryd.underlying9 (HC12.out wq hI))) ?_
                refine w_move (.inl rfl) (fun vs w hK => ⟨wants_none rfl, rho_out rfl rfl⟩) ?_
                refine w_move (.inl rfl) (fun vs w hK => ⟨wants_none rfl, rho_out rfl rfl⟩) ?_
                refine w_val [(89, _)] (_) (fun vs w hK => ⟨wants_none rfl, rho_in rfl (fv (hK 4 (by decide))), trivial⟩) rfl (fun wq hI => by simp only [execOp, lk_tmp, lk_const, lkT_cons, ↓reduceIte, Nat.reduceEqDiff]; go_simp; rw [HWN.out]) ?_
                refine w_val [(88, _), (90, _)] _ (fun vs w hK => ⟨wants_none rfl, rho_in rfl (fv (hK 3 (by decide))), rho_in rfl (fv (hK 5 (by decide))), trivial⟩) rfl (fun wq hI => by simp only [execOp, Option.map_some, Option.map_none, lk_tmp, lk_const, lkT_cons, ↓reduceIte, Nat.reduceEqDiff]; go_simp; (first | done | rfl)) ?_
                refine w_call [(91, _)] _ _ (by decide) (fun vs w hK => ⟨wants_none rfl, rho_in rfl (fv (hK 6 (by decide))), trivial⟩) rfl rfl Tryd.func17 (by kernel_rfl) rfl (fun wq hI => CS2.out wq hI) (by first | (simp only [List.map_toArray, List.map_cons, List.map_nil]; done) | (simp only [List.map_toArray, List.map_cons, List.map_nil]; rfl)) ?_
                refine w_call [(92, _)] _ _ (by decide) (fun vs w hK => ⟨wants_none rfl, rho_in rfl (fv (hK 7 (by decide))), trivial⟩) rfl rfl Tryd.func20 (by kernel_rfl) rfl (fun wq hI => CM2.out wq) (by first | (simp only [List.map_toArray, List.map_cons, List.map_nil]; done) | (simp only [List.map_toArray, List.map_cons, List.map_nil]; rfl)) ?_
                refine w_callF (FW.gr .u8 5 wo.heap.size (le K2 4)) [(93, _)] _ rfl (fun vs w hK => ⟨wants_none rfl, rho_in rfl (fv (hK 8 (by decide))), trivial⟩) rfl rfl Tryd.func26 (by kernel_rfl) rfl (fun wq hI => CL2.out wq hI) (by first | (simp only [List.map_toArray, List.map_cons, List.map_nil]; done) | (simp only [List.map_toArray, List.map_cons, List.map_nil]; rfl)) ?_
                refine w_any (FW.val (.string (strOfNums (le K2 4)))) (.inl rfl) (fun vs wq hI hK => ?_) ?_
                · have hA : GrB wq wo.heap.size (vs 9) (le K2 4) := hK 9 (by decide)
                  exact ob_run [(94, _)] (wants_none rfl) ⟨rho_in rfl rfl, trivial⟩ rfl (run_conv_op rfl rfl (conv_gr (dst := 9) tb Tryd.underlying5 Tryd.underlying9 hA)) ⟨Below.refl _ _, rfl⟩
                refine w_val [(87, _), (95, _)] (_) (fun vs w hK => ⟨wants_none rfl, rho_in rfl (fv (hK 2 (by decide))), rho_in rfl (fv (hK 10 (by decide))), trivial⟩) rfl (fun wq hI => by exact run_str_neq rfl rfl rfl HNE2.out) ?_
                refine w_end rfl rfl rfl (fun vs wq hI hF => ?_)
                simp only [List.reverse_cons, List.reverse_nil, List.nil_append, List.cons_append, finL_val, finL_of, finL_any, finL_app, finL_new, finL_gr, finL_row, finL_box, finL_nil, Act.put, List.setIfInBounds_toArray, List.set_cons_zero, List.set_cons_succ, Nat.reduceAdd]
                have HW6 := Lib.hid (below_then HBW.out HBW.out.size hI)
                have HI6 := Lib.hid hI
                clear hI hF
                go_wp2_with fail
                go_ret
                exact ⟨rfl, HW6.out⟩
            · rw [show (((j + 1 : Nat) : Int) - 1) = (j : Int) by omega]
              obtain ⟨ad, e1, hc1⟩ := rds_at 0 HRO.out j (by omega)
              subst e1
              rw [HGT.out j (by omega)] at hc1
              obtain ⟨x, hx, hxl⟩ := getD_nat HB4.out j
              have hrec := leVal_drop t4 j (by rw [HT4.out]; omega)
              rw [hx] at hc1 hrec
              rw [Int.toNat_natCast] at hrec
              have hp : leVal (t4.drop (j + 1)) < 16777216 := by
                have h1 := leVal_lt (HB4.out.drop (j + 1))
                rw [List.length_drop, HT4.out] at h1
                have h2 : 256 ^ (4 - (j + 1)) ≤ 256 ^ 3 := Nat.pow_le_pow_right (by omega) (by omega)
                have h3 : 256 ^ 3 = 16777216 := by decide
                omega
              generalize leVal (t4.drop (j + 1)) = q at hp hrec
              have HREC := Lib.hid hrec
              have i0 : (0 : Int) ≤ (j : Int) := by omega
              have i1 : (j : Int) < (k : Int) := by omega
              clear hx hrec
              go_wp2_with fail
              exact ⟨⟨j, by omega, by go_num, by rw [HREC.out]; go_num⟩, by simp [intOf]⟩
        · subst he
          have hwhy := hwhy2
          clear hwhy2
          have hcs := why_ok hwhy
          clear hwhy
          generalize (l.take 8).drop 4 = X8 at HC8 HX8 hcs
          generalize (l.take 12).drop 8 = X12 at HC12 HX12 hcs
          generalize hS : sum (l.take 4) = S at CS CM hK4 hcs
          generalize mask S = K at CM hK4 hcs
          clear hS
          have CL := Lib.hid (fun wq (hI : Below wo.heap.size wo wq) => (lawlittle_any K hK4 wq).mono fun e w' h => (by obtain ⟨v, he, hM⟩ := h; exact ⟨v, he, hM.bel, gr_lower hM.own hI.size⟩ : ∃ v, e = .returned v ∧ Below wq.heap.size wq w' ∧ (FW.gr .u8 5 wo.heap.size (le K 4)).p v w'))
          have HCS := Lib.hid hcs
          have HN4 := Lib.hid hN4
          clear hK4 hcs hN4 hlen
          generalize l.take 4 = t4 at CS HGT HT4 HB4 HCS HN4
          go_wp2_with fail
          go_loop [8, 9] (fun sz i => ∃ j : Nat, j ≤ 4 ∧ i = .int .i64 ((j : Int) - 1) ∧ sz = .int .i64 (leVal (t4.drop j) : Nat)) (fun _ i => (intOf i + 1).toNat)
          case atStart => exact ⟨4, by omega, rfl, by rw [List.drop_eq_nil_of_le (by rw [HT4.out]; omega)]; rfl⟩
          case round =>
            obtain ⟨j, hj, rfl, rfl⟩ := hrel
            rcases j with _ | j
            · rw [show (((0 : Nat) : Int) - 1) = -1 from rfl, List.drop_zero]
              generalize hNN : leVal t4 = N at HN4
              have HNN := Lib.hid hNN
              clear hNN
              have hN4 := HN4.out
              go_upto_region 22 with fail
              have hcs := HCS.out
              rw [HNN.out] at hcs
              clear HCS
              obtain ⟨rfl, rfl, h1, h2, h3, h4⟩ := hcs
              · have HEQ : Hid (strOfNums X8 = strOfNums (le K 4)) := Lib.hid (by rw [h1])
                have HG := Lib.hid h2
                clear h1 h2
                have hge : 12 + N ≤ k := by rw [HL.out] at h3; exact h3
                obtain ⟨AD, hcutD, hCD, hDL, hDB⟩ := HDD.out N hge
                have HCD := Lib.hid hCD
                have HDL := Lib.hid hDL
                have HDB := Lib.hid hDB
                clear hCD hDL hDB h3 HDD
                generalize (l.take (12 + N)).drop 12 = D at HCD HDL HDB h4 HD HL3
                have HWN : Hid (IntKind.i64.wrap (12 + (N : Int)) = 12 + (N : Int)) := Lib.hid (by rw [IntKind.wrap_i64]; omega)
                have t4' : decide ((k : Int) - 12 < (N : Int)) = false := decide_eq_false (by omega)
                have H4 := Lib.hid h4
                clear h4
                refine draws_ (fun wq => Below wo.heap.size wo wq) (fun _ => True) (by kernel_rfl) reg_10_22 rfl inv0 (fun _ _ _ _ => trivial) (below_drew (Below.refl _ _)) trivial ?_
                refine w_move (.inl rfl) (fun vs w hK => ⟨wants_none rfl, rho_out rfl rfl⟩) ?_
                refine w_val [(62, _)] _ (fun vs w hK => ⟨wants_none rfl, rho_in rfl (fv (hK 0 (by decide))), trivial⟩) rfl (fun wq hI => by simp only [execOp, Option.map_some, Option.map_none, lk_tmp, lk_const, lkT_cons, ↓reduceIte, Nat.reduceEqDiff]; go_simp; (first | done | rfl)) ?_
                refine w_val [(63, _)] (_) (fun vs w hK => ⟨wants_none rfl, rho_in rfl (fv (hK 1 (by decide))), trivial⟩) rfl (fun wq hI => by exact run_conv_op rfl rfl (conv_rds (dst := 9) tb Tryd.underlying5 Tryd.underlying9 (HC8.out wq hI))) ?_
                refine w_move (.inl rfl) (fun vs w hK => ⟨wants_none rfl, rho_out rfl rfl⟩) ?_
                refine w_val [(65, _)] _ (fun vs w hK => ⟨wants_none rfl, rho_in rfl (fv (hK 3 (by decide))), trivial⟩) rfl (fun wq hI => by simp only [execOp, Option.map_some, Option.map_none, lk_tmp, lk_const, lkT_cons, ↓reduceIte, Nat.reduceEqDiff]; go_simp; (first | done | rfl)) ?_
                refine w_call [(66, _)] _ _ (by decide) (fun vs w hK => ⟨wants_none rfl, rho_in rfl (fv (hK 4 (by decide))), trivial⟩) rfl rfl Tryd.func17 (by kernel_rfl) rfl (fun wq hI => CS.out wq hI) (by first | (simp only [List.map_toArray, List.map_cons, List.map_nil]; done) | (simp only [List.map_toArray, List.map_cons, List.map_nil]; rfl)) ?_
                refine w_call [(67, _)] _ _ (by decide) (fun vs w hK => ⟨wants_none rfl, rho_in rfl (fv (hK 5 (by decide))), trivial⟩) rfl rfl Tryd.func20 (by kernel_rfl) rfl (fun wq hI => CM.out wq) (by first | (simp only [List.map_toArray, List.map_cons, List.map_nil]; done) | (simp only [List.map_toArray, List.map_cons, List.map_nil]; rfl)) ?_
                refine w_callF (FW.gr .u8 5 wo.heap.size (le K 4)) [(68, _)] _ rfl (fun vs w hK => ⟨wants_none rfl, rho_in rfl (fv (hK 6 (by decide))), trivial⟩) rfl rfl Tryd.func26 (by kernel_rfl) rfl (fun wq hI => CL.out wq hI) (by first | (simp only [List.map_toArray, List.map_cons, List.map_nil]; done) | (simp only [List.map_toArray, List.map_cons, List.map_nil]; rfl)) ?_
                refine w_any (FW.val (.string (strOfNums (le K 4)))) (.inl rfl) (fun vs wq hI hK => ?_) ?_
                · have hA : GrB wq wo.heap.size (vs 7) (le K 4) := hK 7 (by decide)
                  exact ob_run [(69, _)] (wants_none rfl) ⟨rho_in rfl rfl, trivial⟩ rfl (run_conv_op rfl rfl (conv_gr (dst := 9) tb Tryd.underlying5 Tryd.underlying9 hA)) ⟨Below.refl _ _, rfl⟩
                refine w_val [(64, _), (70, _)] (_) (fun vs w hK => ⟨wants_none rfl, rho_in rfl (fv (hK 2 (by decide))), rho_in rfl (fv (hK 8 (by decide))), trivial⟩) rfl (fun wq hI => by exact run_neq_same rfl rfl rfl HEQ.out) ?_
                refine w_move (.inl rfl) (fun vs w hK => ⟨wants_none rfl, rho_in rfl (fv (hK 9 (by decide)))⟩) ?_
                refine w_move (.inl rfl) (fun vs w hK => ⟨wants_g rfl (fv (hK 10 (by decide))), rho_out rfl rfl⟩) ?_
                refine w_val [(73, _)] (_) (fun vs w hK => ⟨wants_g rfl (fv (hK 10 (by decide))), rho_in rfl (fv (hK 11 (by decide))), trivial⟩) rfl (fun wq hI => by exact run_int_gtr (r := false) rfl rfl rfl (decide_eq_false (by have := HG.out; omega))) ?_
                refine w_pick (b := false) rfl (fun vs w hK => ⟨wants_none rfl, (rho_in rfl (fv (hK 10 (by decide)))), (rho_in rfl (fv (hK 12 (by decide))))⟩) ?_
                refine w_end rfl rfl rfl (fun vs wq hI hF => ?_)
                simp only [List.reverse_cons, List.reverse_nil, List.nil_append, List.cons_append, finL_val, finL_of, finL_any, finL_app, finL_new, finL_gr, finL_row, finL_box, finL_nil, Act.put, List.setIfInBounds_toArray, List.set_cons_zero, List.set_cons_succ, Nat.reduceAdd]
                have HW5 := Lib.hid (below_then HBW.out HBW.out.size hI)
                have HI5 := Lib.hid hI
                clear hI hF
                have h4 := H4.out
                clear H4
                have CS2 := Lib.hid (fun wq (h : Below wo.heap.size wo wq) => refsum_any AD N (c - 12) _ wq (HCD.out wq h) HDL.out (by omega) (byte_is HDB.out))
                have hs2 : sum D < 4294967296 := sum_lt (byte_is HDB.out)
                have CM2 := Lib.hid (fun wq => refmask_any _ hs2 wq)
                have hK2 := mask_lt (sum D)
                generalize sum D = S2 at CS2 CM2 hK2 h4
                generalize mask S2 = K2 at CM2 hK2 h4
                have CL2 := Lib.hid (fun wq (hI : Below wo.heap.size wo wq) => (lawlittle_any K2 hK2 wq).mono fun e w' h => (by obtain ⟨v, he, hM⟩ := h; exact ⟨v, he, hM.bel, gr_lower hM.own hI.size⟩ : ∃ v, e = .returned v ∧ Below wq.heap.size wq w' ∧ (FW.gr .u8 5 wo.heap.size (le K2 4)).p v w'))
                have HEQ2 : Hid (strOfNums X12 = strOfNums (le K2 4)) := Lib.hid (by rw [h4])
                clear h4 hK2 hs2
                go_upto_region 26 with fail
                refine draws_ (fun wq => Below wo.heap.size wo wq) (fun _ => True) (by kernel_rfl) reg_10_26 rfl inv0 (fun _ _ _ _ => trivial) (below_drew HI5.out) trivial ?_
                refine w_move (.inl rfl) (fun vs w hK => ⟨wants_none rfl, rho_out rfl rfl⟩) ?_
                refine w_val [(85, _)] _ (fun vs w hK => ⟨wants_none rfl, rho_in rfl (fv (hK 0 (by decide))), trivial⟩) rfl (fun wq hI => by simp only [execOp, Option.map_some, Option.map_none, lk_tmp, lk_const, lkT_cons, ↓reduceIte, Nat.reduceEqDiff]; go_simp; (first | done | rfl)) ?_
                refine w_val [(86, _)] (_) (fun vs w hK => ⟨wants_none rfl, rho_in rfl (fv (hK 1 (by decide))), trivial⟩) rfl (fun wq hI => by exact run_conv_op rfl rfl (conv_rds (dst := 9) tb Tryd.underlying5 Tryd.underlying9 (HC12.out wq hI))) ?_
                refine w_move (.inl rfl) (fun vs w hK => ⟨wants_none rfl, rho_out rfl rfl⟩) ?_
                refine w_move (.inl rfl) (fun vs w hK => ⟨wants_none rfl, rho_out rfl rfl⟩) ?_
                refine w_val [(89, _)] (_) (fun vs w hK => ⟨wants_none rfl, rho_in rfl (fv (hK 4 (by decide))), trivial⟩) rfl (fun wq hI => by simp only [execOp, lk_tmp, lk_const, lkT_cons, ↓reduceIte, Nat.reduceEqDiff]; go_simp; rw [HWN.out]) ?_
                refine w_val [(88, _), (90, _)] _ (fun vs w hK => ⟨wants_none rfl, rho_in rfl (fv (hK 3 (by decide))), rho_in rfl (fv (hK 5 (by decide))), trivial⟩) rfl (fun wq hI => by simp only [execOp, Option.map_some, Option.map_none, lk_tmp, lk_const, lkT_cons, ↓reduceIte, Nat.reduceEqDiff]; go_simp; (first | done | rfl)) ?_
                refine w_call [(91, _)] _ _ (by decide) (fun vs w hK => ⟨wants_none rfl, rho_in rfl (fv (hK 6 (by decide))), trivial⟩) rfl rfl Tryd.func17 (by kernel_rfl) rfl (fun wq hI => CS2.out wq hI) (by first | (simp only [List.map_toArray, List.map_cons, List.map_nil]; done) | (simp only [List.map_toArray, List.map_cons, List.map_nil]; rfl)) ?_
                refine w_call [(92, _)] _ _ (by decide) (fun vs w hK => ⟨wants_none rfl, rho_in rfl (fv (hK 7 (by decide))), trivial⟩) rfl rfl Tryd.func20 (by kernel_rfl) rfl (fun wq hI => CM2.out wq) (by first | (simp only [List.map_toArray, List.map_cons, List.map_nil]; done) | (simp only [List.map_toArray, List.map_cons, List.map_nil]; rfl)) ?_
                refine w_callF (FW.gr .u8 5 wo.heap.size (le K2 4)) [(93, _)] _ rfl (fun vs w hK => ⟨wants_none rfl, rho_in rfl (fv (hK 8 (by decide))), trivial⟩) rfl rfl Tryd.func26 (by kernel_rfl) rfl (fun wq hI => CL2.out wq hI) (by first | (simp only [List.map_toArray, List.map_cons, List.map_nil]; done) | (simp only [List.map_toArray, List.map_cons, List.map_nil]; rfl)) ?_
                refine w_any (FW.val (.string (strOfNums (le K2 4)))) (.inl rfl) (fun vs wq hI hK => ?_) ?_
                · have hA : GrB wq wo.heap.size (vs 9) (le K2 4) := hK 9 (by decide)
                  exact ob_run [(94, _)] (wants_none rfl) ⟨rho_in rfl rfl, trivial⟩ rfl (run_conv_op rfl rfl (conv_gr (dst := 9) tb Tryd.underlying5 Tryd.underlying9 hA)) ⟨Below.refl _ _, rfl⟩
                refine w_val [(87, _), (95, _)] (_) (fun vs w hK => ⟨wants_none rfl, rho_in rfl (fv (hK 2 (by decide))), rho_in rfl (fv (hK 10 (by decide))), trivial⟩) rfl (fun wq hI => by exact run_neq_same rfl rfl rfl HEQ2.out) ?_
                refine w_end rfl rfl rfl (fun vs wq hI hF => ?_)
                simp only [List.reverse_cons, List.reverse_nil, List.nil_append, List.cons_append, finL_val, finL_of, finL_any, finL_app, finL_new, finL_gr, finL_row, finL_box, finL_nil, Act.put, List.setIfInBounds_toArray, List.set_cons_zero, List.set_cons_succ, Nat.reduceAdd]
                have HW6 := Lib.hid (below_then HBW.out HBW.out.size hI)
                have HI6 := Lib.hid hI
                clear hI hF
                go_upto_region 28 with fail
                have hcast : ((12 + N : Nat) : Int) = 12 + (N : Int) := by omega
                refine draws_ (fun wq => Below wo.heap.size wo wq) (fun _ => True) (by kernel_rfl) reg_10_28 rfl inv0 (fun _ _ _ _ => trivial) (below_drew HI6.out) trivial ?_
                refine w_move (.inl rfl) (fun vs w hK => ⟨wants_none rfl, rho_out rfl rfl⟩) ?_
                refine w_val [(99, _)] _ (fun vs w hK => ⟨wants_none rfl, rho_in rfl (fv (hK 0 (by decide))), trivial⟩) rfl (fun wq hI => by simp only [execOp, Option.map_some, Option.map_none, lk_tmp, lk_const, lkT_cons, ↓reduceIte, Nat.reduceEqDiff]; go_simp; (first | done | rfl)) ?_
                refine w_move (.inl rfl) (fun vs w hK => ⟨wants_none rfl, rho_in rfl (fv (hK 1 (by decide)))⟩) ?_
                refine w_move (.inl rfl) (fun vs w hK => ⟨wants_g rfl (fv (hK 2 (by decide))), rho_out rfl rfl⟩) ?_
                refine w_move (.inl rfl) (fun vs w hK => ⟨wants_g rfl (fv (hK 2 (by decide))), rho_out rfl rfl⟩) ?_
                refine w_val [(103, _)] (_) (fun vs w hK => ⟨wants_g rfl (fv (hK 2 (by decide))), rho_in rfl (fv (hK 4 (by decide))), trivial⟩) rfl (fun wq hI => by simp only [execOp, lk_tmp, lk_const, lkT_cons, ↓reduceIte, Nat.reduceEqDiff]; go_simp; rw [HWN.out]) ?_
                refine w_val [(102, _), (104, _)] (_) (fun vs w hK => ⟨wants_g rfl (fv (hK 2 (by decide))), rho_in rfl (fv (hK 3 (by decide))), rho_in rfl (fv (hK 5 (by decide))), trivial⟩) rfl (fun wq hI => by exact run_int_eql (r := true) rfl rfl rfl (by simp)) ?_
                refine w_pick (b := true) rfl (fun vs w hK => ⟨wants_none rfl, (rho_in rfl (fv (hK 2 (by decide)))), (rho_in rfl (fv (hK 6 (by decide))))⟩) ?_
                refine w_move (.inl rfl) (fun vs w hK => ⟨wants_none rfl, rho_in rfl (fv (hK 7 (by decide)))⟩) ?_
                refine w_move (.inl rfl) (fun vs w hK => ⟨wants_g rfl (fv (hK 8 (by decide))), rho_out rfl rfl⟩) ?_
                refine w_val [(108, _)] (_) (fun vs w hK => ⟨wants_g rfl (fv (hK 8 (by decide))), rho_in rfl (fv (hK 9 (by decide))), trivial⟩) rfl (fun wq hI => by exact run_conv_op rfl rfl (conv_gr (dst := 9) tb Tryd.underlying5 Tryd.underlying9 (gr_below HD.out hI))) ?_
                refine w_move (.inl rfl) (fun vs w hK => ⟨wants_g rfl (fv (hK 8 (by decide))), rho_out rfl rfl⟩) ?_
                refine w_move (.inl rfl) (fun vs w hK => ⟨wants_g rfl (fv (hK 8 (by decide))), rho_out rfl rfl⟩) ?_
                refine w_val [(111, _)] (_) (fun vs w hK => ⟨wants_g rfl (fv (hK 8 (by decide))), rho_in rfl (fv (hK 12 (by decide))), trivial⟩) rfl (fun wq hI => by simp only [execOp, lk_tmp, lk_const, lkT_cons, ↓reduceIte, Nat.reduceEqDiff]; go_simp; rw [HWN.out]) ?_
                refine w_val [(110, _), (112, _)] _ (fun vs w hK => ⟨wants_g rfl (fv (hK 8 (by decide))), rho_in rfl (fv (hK 11 (by decide))), rho_in rfl (fv (hK 13 (by decide))), trivial⟩) rfl (fun wq hI => by simp only [execOp, Option.map_some, Option.map_none, lk_tmp, lk_const, lkT_cons, ↓reduceIte, Nat.reduceEqDiff]; go_simp; (first | done | rfl)) ?_
                refine w_val [(113, _)] (_) (fun vs w hK => ⟨wants_g rfl (fv (hK 8 (by decide))), rho_in rfl (fv (hK 14 (by decide))), trivial⟩) rfl (fun wq hI => by exact run_conv_op rfl rfl (conv_rds (dst := 9) tb Tryd.underlying5 Tryd.underlying9 (HCD.out wq hI))) ?_
                refine w_val [(109, _), (114, _)] _ (fun vs w hK => ⟨wants_g rfl (fv (hK 8 (by decide))), rho_in rfl (fv (hK 10 (by decide))), rho_in rfl (fv (hK 15 (by decide))), trivial⟩) rfl (fun wq hI => run_eql_same rfl rfl rfl rfl) ?_
                refine w_pick (b := true) rfl (fun vs w hK => ⟨wants_none rfl, (rho_in rfl (fv (hK 8 (by decide)))), (rho_in rfl (fv (hK 16 (by decide))))⟩) ?_
                refine w_move (.inr rfl) (fun vs w hK => ⟨wants_none rfl, rho_in rfl (fv (hK 17 (by decide)))⟩) ?_
                refine w_end rfl rfl rfl (fun vs wq hI hF => ?_)
                simp only [List.reverse_cons, List.reverse_nil, List.nil_append, List.cons_append, finL_val, finL_of, finL_any, finL_app, finL_new, finL_gr, finL_row, finL_box, finL_nil, Act.put, List.setIfInBounds_toArray, List.set_cons_zero, List.set_cons_succ, Nat.reduceAdd]
                have HW7 := Lib.hid (below_then HBW.out HBW.out.size hI)
                clear hI hF
                go_wp2_with fail
                go_ret
                exact ⟨rfl, HW7.out⟩
            · rw [show (((j + 1 : Nat) : Int) - 1) = (j : Int) by omega]
              obtain ⟨ad, e1, hc1⟩ := rds_at 0 HRO.out j (by omega)
              subst e1
              rw [HGT.out j (by omega)] at hc1
              obtain ⟨x, hx, hxl⟩ := getD_nat HB4.out j
              have hrec := leVal_drop t4 j (by rw [HT4.out]; omega)
              rw [hx] at hc1 hrec
              rw [Int.toNat_natCast] at hrec
              have hp : leVal (t4.drop (j + 1)) < 16777216 := by
                have h1 := leVal_lt (HB4.out.drop (j + 1))
                rw [List.length_drop, HT4.out] at h1
                have h2 : 256 ^ (4 - (j + 1)) ≤ 256 ^ 3 := Nat.pow_le_pow_right (by omega) (by omega)
                have h3 : 256 ^ 3 = 16777216 := by decide
                omega
              generalize leVal (t4.drop (j + 1)) = q at hp hrec
              have HREC := Lib.hid hrec
              have i0 : (0 : Int) ≤ (j : Int) := by omega
              have i1 : (j : Int) < (k : Int) := by omega
              clear hx hrec
              go_wp2_with fail
              exact ⟨⟨j, by omega, by go_num, by rw [HREC.out]; go_num⟩, by simp [intOf]⟩
end Go.Proofs.YtakjmhcdmchgdaaDoor.Rec

