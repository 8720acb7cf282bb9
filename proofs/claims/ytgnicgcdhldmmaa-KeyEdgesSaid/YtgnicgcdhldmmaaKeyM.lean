/- Contracts of package key: Get. -/
import Derived.Test.YtgnicgcdhldmmaaKeyL
namespace Go.Proofs.Ytgnicgcdhldmmaa.Key
set_option linter.unusedVariables false
set_option linter.unusedSimpArgs false
open Go.Proofs.Ytgnicgcdhldmmaa.Kit Go.Proofs.Ytgnicgcdhldmmaa.Num Go.RowKit Go.Proofs.YtgnicgcdhldmmaaW.PrintWords Go.Proofs.YtgnicgcdhldmmaaW.PrintLast Go.Proofs.YtgnicgcdhldmmaaW.PrintMore NumPure
def Ent.but (x : Ent) (v : ByteArray) : Ent := ⟨x.key, x.seq, x.del, v⟩
/-- What Get tells, out of its three parts. -/
def getP (T1 T2 : ByteArray × Nat × Nat) (o : Option Ent) : Ent × Nat × Nat :=
  if T1.2.2 ≠ 0 then (Ent.zero, 0, T1.2.2)
  else if T2.2.2 ≠ 0 then (Ent.zero, 0, T2.2.2)
  else match o with
    | none => (Ent.zero, 0, 2)
    | some x => if (x.but T2.1).check ≠ 0 then (Ent.zero, 0, 2) else (x.but T2.1, T1.2.1 + T2.2.1, 0)
def getE (l : List Int) : Ent × Nat × Nat := getP (textF l) (textF (l.drop (textF l).2.1)) (outer (numsOf (textF l).1))
theorem outer_ok {s : ByteArray} {x : Ent} (h : outer (numsOf s) = some x) : x.key.size ≤ 128 ∧ x.seq ≤ 72057594037927935 := by
  obtain ⟨_, h2⟩ := inner_of_outer h
  obtain ⟨k1, k2, k3, k4, k5⟩ := check_zero.1 h2
  exact ⟨k2, k3⟩
set_option maxRecDepth 20000 in
set_option maxHeartbeats 6400000 in
theorem get_ent_any (A : Option Addr) (n c : Nat) (l : List Int) (w : World) (hr : Rds .u8 w A n l) (hl : l.length = n) (hn : n ≤ 140737488355000) (hnc : n ≤ c) (hb : Byte l) :
    Calls Try.prog 16 #[.slice A n c] w fun e w' => e = .returned (.tuple #[(getE l).1.ag, .int .i64 (getE l).2.1, .int .i64 (getE l).2.2]) ∧ Below w.heap.size w w' := by
  have hg : getE l = getP (textF l) (textF (l.drop (textF l).2.1)) (outer (numsOf (textF l).1)) := rfl
  have hle := textF_le (l := l)
  have CT1 := Lib.hid (fun wq (h : Below w.heap.size w wq) => text_any A n c l wq (rds_below hr h) hl (by omega) hnc hb)
  have hle2 := textF_le (l := l.drop (textF l).2.1)
  have CT2 : Hid (∀ A' m, m + (textF l).2.1 = n → ∀ wq, Rds .u8 wq A' m (l.drop (textF l).2.1) → Calls Try.prog 22 #[.slice A' m (c - (textF l).2.1)] wq fun e w' => e = .returned (.tuple #[.string (textF (l.drop (textF l).2.1)).1, .int .i64 (textF (l.drop (textF l).2.1)).2.1, .int .i64 (textF (l.drop (textF l).2.1)).2.2]) ∧ wq = w') :=
    Lib.hid (fun A' m hm wq h => text_any A' m _ _ wq h (by rw [List.length_drop]; omega) (by omega) (by omega) (hb.drop _))
  have CO := Lib.hid (fun (hs : (textF l).1.size ≤ 140737488355000) wq => outer_any (textF l).1 hs wq)
  have hok : ∀ x, outer (numsOf (textF l).1) = some x → x.key.size ≤ 128 ∧ x.seq ≤ 72057594037927935 := fun x h => outer_ok h
  rw [List.length_drop] at hle2
  generalize outer (numsOf (textF l).1) = O at hg CO hok
  generalize textF (l.drop (textF l).2.1) = T2 at hg CT2 hle2
  have HDR := Lib.hid (fun m (hm : m + (textF l).2.1 = n) => cut_from (enc := Value.int .u8) (h1 := int_one .u8) 0 tb A n c (textF l).2.1 m hm hnc (((textF l).2.1 : Nat) : Int) rfl)
  have HRD := Lib.hid hr
  generalize hT1 : textF l = T1 at hg CT1 CT2 CO hle hle2 HDR
  obtain ⟨s1, n1, e1⟩ := T1
  obtain ⟨s2, k2, e2⟩ := T2
  simp only at hg CT1 CT2 CO hle hle2 HDR
  obtain ⟨R, hR⟩ : ∃ R, R = getP (s1, n1, e1) (s2, k2, e2) O := ⟨_, rfl⟩
  rw [hg, ← hR]
  have HR := Lib.hid hR
  clear hg hr hT1 hR
  have HOK := Lib.hid hok
  have hn2 : n ≤ 140737488355000 := hn
  rw [hl] at hle hle2
  clear hok hl hb
  go_enter Try.func16, Try.ntmps16
  go_wp2_with fail
  have HW1 : Hid (Below w.heap.size w (w.alloc (.cells #[.string ⟨#[]⟩, .int .u64 0, .bool false, .string ⟨#[]⟩] 24))) := Lib.hid (below_alloc (Below.refl _ _) _)
  have HG1 : Hid ((w.alloc (.cells #[.string ⟨#[]⟩, .int .u64 0, .bool false, .string ⟨#[]⟩] 24)).heap[w.heap.size]? = some (.cells Ent.zero.cells.toArray 24)) := Lib.hid (by show (w.heap.push _)[w.heap.size]? = _; simp; rfl)
  generalize w.alloc (.cells #[.string ⟨#[]⟩, .int .u64 0, .bool false, .string ⟨#[]⟩] 24) = w1 at HW1 HG1 ⊢
  refine (CT1.out w1 HW1.out).mono ?_
  rintro e w' ⟨rfl, rfl⟩
  by_cases he1 : e1 = 0
  · subst he1
    obtain ⟨hn0, hn1, hs1⟩ := hle rfl
    obtain ⟨m, hm⟩ : ∃ m, m + n1 = n := ⟨n - n1, by omega⟩
    obtain ⟨A', hcut, hC⟩ := HDR.out m hm
    have hR2 := hC w1 l (rds_below HRD.out HW1.out)
    have CT3 := Lib.hid (CT2.out A' m hm w1 hR2)
    clear hC hR2 CT2 HDR CT1 hle
    go_wp2_with fail
    refine CT3.out.mono ?_
    rintro e w' ⟨rfl, rfl⟩
    by_cases he2 : e2 = 0
    · subst he2
      obtain ⟨hk0, hk1, hs2⟩ := hle2 rfl
      have CO2 := Lib.hid (CO.out (by omega))
      clear hle2 CO CT3
      cases O with
      | none =>
        have CO3 : Hid (∀ wq, Calls Try.prog 14 #[.string s1] wq fun e w' => e = .returned (.tuple #[.agg #[.string ⟨#[]⟩, .int .u64 0, .bool false, .string ⟨#[]⟩], .int .i64 2]) ∧ Below wq.heap.size wq w') := Lib.hid CO2.out
        clear CO2
        go_wp2_with fail
        refine (CO3.out _).mono ?_
        rintro e w3 ⟨rfl, hb3⟩
        have HB3 := Lib.hid (below_alloc hb3 (.cells #[.string ⟨#[]⟩, .int .u64 0, .bool false, .string ⟨#[]⟩] 24))
        have HX3 := Lib.hid (box_below HG1.out HB3.out)
        clear hb3
        go_wp2_with (refine wpList_store_box rfl 24 (.tmp 2) (.tmp 40) rfl w.heap.size Ent.zero.cells rfl rfl HX3.out rfl (by show _ = some 4; kernel_rfl) rfl ?_; intro w7 hs7; have HS7 := Lib.hid hs7; clear hs7)
        (try simp only [Exit.inBlock, Exit.then])
        refine bodyPost_ret (results_box_tmp2 rfl rfl (loadVar_box HS7.out.at_ Try.underlying24 rfl (by show _ = some 4; kernel_rfl))) rfl ?_
        exact ⟨by rw [show R = (Ent.zero, 0, 2) from HR.out]; rfl, HS7.out.then_ (below_then HW1.out HW1.out.size HB3.out) (Nat.le_refl _)⟩
      | some x =>
        obtain ⟨k1, k3⟩ := HOK.out x rfl
        have hyo : (x.but s2).ok := ⟨by show x.seq < _; omega, by show x.key.size ≤ _; omega, by show s2.size ≤ _; omega⟩
        have CK := Lib.hid (fun wq => check_any (x.but s2) hyo wq)
        have HGP : Hid (R = if (x.but s2).check ≠ 0 then (Ent.zero, 0, 2) else (x.but s2, n1 + k2, 0)) := Lib.hid HR.out
        have hyc : (x.but s2).cells = [.string x.key, .int .u64 x.seq, .bool x.del, .string s2] := rfl
        obtain ⟨xk, xs, xd, xv⟩ := x
        have CO3 : Hid (∀ wq, Calls Try.prog 14 #[.string s1] wq fun e w' => e = .returned (.tuple #[.agg #[.string xk, .int .u64 xs, .bool xd, .string xv], .int .i64 0]) ∧ Below wq.heap.size wq w') := Lib.hid CO2.out
        have HYC := Lib.hid hyc
        generalize (Ent.but ⟨xk, xs, xd, xv⟩ s2) = y at CK HYC HGP
        clear CO2 hyo hyc k1 k3 HOK HR
        go_wp2_with fail
        refine (CO3.out _).mono ?_
        rintro e w3 ⟨rfl, hb3⟩
        go_upto_region 10 with fail
        have hx4 : (w3.alloc (.cells #[.string xk, .int .u64 xs, .bool xd, .string xv] 24)).heap[w3.heap.size]? = some (.cells [Value.string xk, .int .u64 xs, .bool xd, .string xv].toArray 24) := heap_alloc_new w3 _
        have hlt3 : w1.heap.size ≤ w3.heap.size := hb3.size
        have HB4 := Lib.hid (below_alloc hb3 (.cells #[.string xk, .int .u64 xs, .bool xd, .string xv] 24))
        have HX4 := Lib.hid hx4
        generalize w3.alloc (.cells #[.string xk, .int .u64 xs, .bool xd, .string xv] 24) = w4 at HB4 HX4 ⊢
        clear hx4 hb3
        by_cases hck : y.check = 0
        · have t8 : ((y.check : Int) != 0) = false := by rw [hck]; rfl
          have HF : Hid (R = (y, n1 + k2, 0)) := Lib.hid (by rw [HGP.out, if_neg (by simpa using hck)])
          clear HGP hck
          go_wp2_with (first
            | (refine wpList_store_cell rfl 9 (.tmp 43) (.tmp 42) rfl w3.heap.size 3 (.string s2) rfl rfl rfl HX4.out (by show 3 < 4; omega) (by show _ = some 1; kernel_rfl) ?_; intro w5 hs5; have HS5 : Hid (Set1 w4 w3.heap.size (.cells y.cells.toArray 24) w5) := Lib.hid (by rw [HYC.out]; exact hs5); clear hs5)
            | (refine wpList_load_box rfl 24 (.tmp 10) rfl w3.heap.size y.cells rfl HS5.out.at_ Try.underlying24 rfl (by show _ = some 4; kernel_rfl) ?_))
          refine (CK.out _).mono ?_
          rintro e w6 ⟨rfl, hb6⟩
          have HB6 := Lib.hid (below_then (HS5.out.then_ HB4.out hlt3) (HS5.out.then_ HB4.out hlt3).size hb6)
          have HX6 := Lib.hid (box_below HG1.out HB6.out)
          have HY6 := Lib.hid (box_below HS5.out.at_ hb6)
          clear hb6
          go_wp2_with (first
            | (refine wpList_load_box rfl 24 (.tmp 10) rfl w3.heap.size y.cells rfl HY6.out Try.underlying24 rfl (by show _ = some 4; kernel_rfl) ?_)
            | (refine wpList_store_box rfl 24 (.tmp 2) (.tmp 48) rfl w.heap.size y.cells rfl rfl HX6.out rfl (by show _ = some 4; kernel_rfl) rfl ?_; intro w7 hs7; have HS7 := Lib.hid hs7; clear hs7))
          (try simp only [Exit.inBlock, Exit.then])
          refine bodyPost_ret (results_box_tmp2 rfl rfl (loadVar_box HS7.out.at_ Try.underlying24 rfl (by show _ = some 4; kernel_rfl))) rfl ?_
          exact ⟨by rw [HF.out]; rfl, HS7.out.then_ (below_then HW1.out HW1.out.size HB6.out) (Nat.le_refl _)⟩
        · have t8 : ((y.check : Int) != 0) = true := by simp; omega
          have HF : Hid (R = (Ent.zero, 0, 2)) := Lib.hid (by rw [HGP.out, if_pos hck])
          clear HGP hck
          go_wp2_with (first
            | (refine wpList_store_cell rfl 9 (.tmp 43) (.tmp 42) rfl w3.heap.size 3 (.string s2) rfl rfl rfl HX4.out (by show 3 < 4; omega) (by show _ = some 1; kernel_rfl) ?_; intro w5 hs5; have HS5 : Hid (Set1 w4 w3.heap.size (.cells y.cells.toArray 24) w5) := Lib.hid (by rw [HYC.out]; exact hs5); clear hs5)
            | (refine wpList_load_box rfl 24 (.tmp 10) rfl w3.heap.size y.cells rfl HS5.out.at_ Try.underlying24 rfl (by show _ = some 4; kernel_rfl) ?_))
          refine (CK.out _).mono ?_
          rintro e w6 ⟨rfl, hb6⟩
          have HB6 := Lib.hid (below_then (HS5.out.then_ HB4.out hlt3) (HS5.out.then_ HB4.out hlt3).size hb6)
          have HX6 := Lib.hid (box_below HG1.out HB6.out)
          clear hb6
          go_wp2_with (refine wpList_store_box rfl 24 (.tmp 2) (.tmp 47) rfl w.heap.size Ent.zero.cells rfl rfl HX6.out rfl (by show _ = some 4; kernel_rfl) rfl ?_; intro w7 hs7; have HS7 := Lib.hid hs7; clear hs7)
          (try simp only [Exit.inBlock, Exit.then])
          refine bodyPost_ret (results_box_tmp2 rfl rfl (loadVar_box HS7.out.at_ Try.underlying24 rfl (by show _ = some 4; kernel_rfl))) rfl ?_
          exact ⟨by rw [HF.out]; rfl, HS7.out.then_ (below_then HW1.out HW1.out.size HB6.out) (Nat.le_refl _)⟩
    · have t1 : ((e2 : Int) != 0) = true := by simp; omega
      have HF : Hid (R = (Ent.zero, 0, e2)) := Lib.hid (HR.out.trans ((if_neg (by simp)).trans (if_pos he2)))
      clear HR hle2 CO CT3 HOK he2
      go_wp2_with (refine wpList_store_box rfl 24 (.tmp 2) (.tmp 31) rfl w.heap.size Ent.zero.cells rfl rfl HG1.out rfl (by show _ = some 4; kernel_rfl) rfl ?_; intro w7 hs7; have HS7 := Lib.hid hs7; clear hs7)
      (try simp only [Exit.inBlock, Exit.then])
      refine bodyPost_ret (results_box_tmp2 rfl rfl (loadVar_box HS7.out.at_ Try.underlying24 rfl (by show _ = some 4; kernel_rfl))) rfl ?_
      exact ⟨by rw [HF.out]; rfl, HS7.out.then_ HW1.out (Nat.le_refl _)⟩
  · have t1 : ((e1 : Int) != 0) = true := by simp; omega
    have HF : Hid (R = (Ent.zero, 0, e1)) := Lib.hid (HR.out.trans (if_pos he1))
    clear HR hle hle2 CO CT1 CT2 HOK HDR he1
    go_wp2_with (refine wpList_store_box rfl 24 (.tmp 2) (.tmp 19) rfl w.heap.size Ent.zero.cells rfl rfl HG1.out rfl (by show _ = some 4; kernel_rfl) rfl ?_; intro w7 hs7; have HS7 := Lib.hid hs7; clear hs7)
    (try simp only [Exit.inBlock, Exit.then])
    refine bodyPost_ret (results_box_tmp2 rfl rfl (loadVar_box HS7.out.at_ Try.underlying24 rfl (by show _ = some 4; kernel_rfl))) rfl ?_
    exact ⟨by rw [HF.out]; rfl, HS7.out.then_ HW1.out (Nat.le_refl _)⟩
end Go.Proofs.Ytgnicgcdhldmmaa.Key

