/- The walk of the law CrcMores. -/
import Derived.Test.YtakjmhcdmchgdaaDoorCrcHead
namespace Go.Proofs.YtakjmhcdmchgdaaDoor.Crc
open Go.Proofs.YtakjmhcdmchgdaaDoor.Kit Go.RowKit Go.Proofs.YtakjmhcdmchgdaaDoorW.PrintWords Go.Proofs.YtakjmhcdmchgdaaDoorW.PrintLast Go.Proofs.YtakjmhcdmchgdaaDoorW.PrintMore

theorem info5 : (Tryd.prog.info? 5).map (fun i => (i.zero, i.size, i.bytes)) = some (some (.int .u8 0), 1, 1) := by kernel_rfl
theorem isByte_wf {l : List Int} (h : ∀ x ∈ l, (Lit.int .u8 x).wf = true) : isByte l := fun x hx => by
  have := h x hx
  simp [Lit.wf, IntKind.min, IntKind.max, IntKind.signed, IntKind.bits] at this
  omega
theorem isByte_nil : isByte [] := fun _ hx => absurd hx List.not_mem_nil
theorem isByte_append {l k : List Int} (h : isByte l) (h' : isByte k) : isByte (l ++ k) := fun x hx => by
  rcases List.mem_append.1 hx with hx | hx
  · exact h x hx
  · exact h' x hx
theorem tb : SlTy Tryd.prog 22 5 (.int .u8 0) 1 := ⟨Tryd.underlying22, info5, rfl, by decide⟩
set_option maxHeartbeats 400000 in
theorem mores_any (A1 : Option Addr) (n1 c1 : Nat) (l1 : List Int) (A2 : Option Addr) (n2 c2 : Nat) (l2 : List Int) (A3 : Option Addr) (n3 c3 : Nat) (l3 : List Int) (w : World) (hT : Halves w)
    (hr1 : Rds .u8 w A1 n1 l1) (hl1 : l1.length = n1) (hm1 : n1 * 1 ≤ 140737488351232) (hw1 : ∀ x ∈ l1, (Lit.int .u8 x).wf = true) (_hc1 : n1 ≤ c1)
    (hr2 : Rds .u8 w A2 n2 l2) (hl2 : l2.length = n2) (hm2 : n2 * 1 ≤ 140737488351232) (hw2 : ∀ x ∈ l2, (Lit.int .u8 x).wf = true) (_hc2 : n2 ≤ c2)
    (hr3 : Rds .u8 w A3 n3 l3) (hl3 : l3.length = n3) (hm3 : n3 * 1 ≤ 140737488351232) (hw3 : ∀ x ∈ l3, (Lit.int .u8 x).wf = true) (_hc3 : n3 ≤ c3) :
    Calls Tryd.prog 4 #[.slice A1 n1 c1, .slice A2 n2 c2, .slice A3 n3 c3] w fun e w' => e = .returned (.bool true) ∧ Below w.heap.size w w' := by
  have hb1 := isByte_wf hw1
  have hb2 := isByte_wf hw2
  have hb3 := isByte_wf hw3
  clear hw1 hw2 hw3
  by_cases g1 : n1 ≤ 2000
  · by_cases g2 : n2 ≤ 2000
    · by_cases g3 : n3 ≤ 2000
      · have Hl1 := Lib.hid hl1
        have Hl2 := Lib.hid hl2
        have Hl3 := Lib.hid hl3
        clear hl1 hl2 hl3
        go_enter Tryd.func4, Tryd.ntmps4
        go_wp2_with fail
        refine (head_any w hT).mono ?_
        rintro e w1 ⟨rfl, hB1⟩
        have HB1 := Lib.hid hB1
        have HT1 := Lib.hid (hT.below hB1)
        clear hB1
        have hO0 := own_lit_ .u8 5 w1 w.heap.size [] 0 rfl HB1.out.size (by simp)
        have HO0 := Lib.hid hO0
        clear hO0
        have D0 := Lib.hid (below_alloc HB1.out (.cells #[] 5))
        go_wp2_with (first
          | (at_builtin; refine app_row 0 tb rfl (.tmp 23) (.tmp 24) rfl rfl rfl HO0.out (Kd.C_below hr1 D0.out) D0.out D0.out.size ?cL ?_; (case cL => simp; omega); intro v1 w2 ho1 hb1 hs1 _; have HO1 := Lib.hid ho1; have D1 := Lib.hid hb1; have HS1 := Lib.hid hs1; clear ho1 hb1 hs1)
          | (at_builtin; refine app_row 0 tb rfl (.tmp 25) (.tmp 26) rfl rfl rfl HO1.out (Kd.C_below hr2 D1.out) D1.out HS1.out ?cL ?_; (case cL => simp [Hl1.out]; omega); intro v2 w3 ho2 hb2 hs2 _; have HO2 := Lib.hid ho2; have D2 := Lib.hid hb2; have HS2 := Lib.hid hs2; clear ho2 hb2 hs2)
          | (at_builtin; refine app_row 0 tb rfl (.tmp 27) (.tmp 28) rfl rfl rfl HO2.out (Kd.C_below hr3 D2.out) D2.out HS2.out ?cL ?_; (case cL => simp [Hl1.out, Hl2.out]; omega); intro v3 w4 ho3 hb3 hs3 _; have HO3 := Lib.hid ho3; have D3 := Lib.hid hb3; have HS3 := Lib.hid hs3; obtain ⟨A4, n4, c4, e4, _, HL4, hm4, hC4⟩ := own_open ho3; subst e4; have HC4 := Lib.hid hC4; clear ho3 hb3 hs3 hC4)
          | fail)
        have hT4 := hT.below D3.out
        have s1 := sum_any A1 n1 c1 l1 w4 hT4 (Kd.C_below hr1 D3.out) Hl1.out (by omega) hb1
        have s2 := more_any (sum l1) (sum_lt hb1) A2 n2 c2 l2 w4 hT4 (Kd.C_below hr2 D3.out) Hl2.out (by omega) hb2
        have s3 := more_any (more (sum l1) l2) (more_lt (sum_lt hb1) hb2) A3 n3 c3 l3 w4 hT4 (Kd.C_below hr3 D3.out) Hl3.out (by omega) hb3
        have s4 := sum_any A4 n4 c4 _ w4 hT4 HC4.out HL4.out hm4 (isByte_append (isByte_append (isByte_append isByte_nil hb1) hb2) hb3)
        rw [show sum ([] ++ l1 ++ l2 ++ l3) = more (more (sum l1) l2) l3 by unfold sum; rw [more_append, more_append]; rfl] at s4
        have s5 := more_any 0 (by omega) A1 n1 c1 l1 w4 hT4 (Kd.C_below hr1 D3.out) Hl1.out (by omega) hb1
        rw [show more 0 l1 = sum l1 from rfl] at s5
        have s6 := more_any (sum l1) (sum_lt hb1) none 0 0 [] w4 hT4 (rds_nil _ _) rfl (by omega) isByte_nil
        rw [more_nil] at s6
        have S1 := Lib.hid s1
        have S2 := Lib.hid s2
        have S3 := Lib.hid s3
        have S4 := Lib.hid s4
        have S5 := Lib.hid s5
        have S6 := Lib.hid s6
        clear s1 s2 s3 s4 s5 s6 hT4
        refine S1.out.mono ?_
        rintro e w' ⟨rfl, rfl⟩
        go_wp2_with fail
        refine S2.out.mono ?_
        rintro e w' ⟨rfl, rfl⟩
        go_wp2_with fail
        refine S3.out.mono ?_
        rintro e w' ⟨rfl, rfl⟩
        go_wp2_with fail
        refine S4.out.mono ?_
        rintro e w' ⟨rfl, rfl⟩
        go_wp2_with fail
        refine S5.out.mono ?_
        rintro e w' ⟨rfl, rfl⟩
        go_wp2_with fail
        refine S1.out.mono ?_
        rintro e w' ⟨rfl, rfl⟩
        go_wp2_with fail
        refine S1.out.mono ?_
        rintro e w' ⟨rfl, rfl⟩
        go_wp2_with fail
        refine S6.out.mono ?_
        rintro e w' ⟨rfl, rfl⟩
        go_wp2_with fail
        refine S1.out.mono ?_
        rintro e w' ⟨rfl, rfl⟩
        go_wp2_with fail
        go_ret
        exact ⟨rfl, D3.out⟩
      all_goals
        go_enter Tryd.func4, Tryd.ntmps4
        go_wp2_with fail
        refine (head_any w hT).mono ?_
        rintro e w1 ⟨rfl, hB1⟩
        have HB1 := Lib.hid hB1
        clear hB1
        go_wp2_with fail
        go_ret
        exact ⟨rfl, HB1.out⟩
    all_goals
        go_enter Tryd.func4, Tryd.ntmps4
        go_wp2_with fail
        refine (head_any w hT).mono ?_
        rintro e w1 ⟨rfl, hB1⟩
        have HB1 := Lib.hid hB1
        clear hB1
        go_wp2_with fail
        go_ret
        exact ⟨rfl, HB1.out⟩
  all_goals
        go_enter Tryd.func4, Tryd.ntmps4
        go_wp2_with fail
        refine (head_any w hT).mono ?_
        rintro e w1 ⟨rfl, hB1⟩
        have HB1 := Lib.hid hB1
        clear hB1
        go_wp2_with fail
        go_ret
        exact ⟨rfl, HB1.out⟩
end Go.Proofs.YtakjmhcdmchgdaaDoor.Crc
