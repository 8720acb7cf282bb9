/- Whether a key may be there (bloom.May). -/
import Derived.Test.YtgnicgcdhldmmaaDoorBlmD
namespace Go.Proofs.YtgnicgcdhldmmaaDoor.Blm
set_option linter.unusedVariables false
set_option linter.unusedSimpArgs false
open Go.Proofs.YtgnicgcdhldmmaaDoor.Crc Go.Proofs.YtgnicgcdhldmmaaDoor.Kit Go.RowKit Go.Proofs.YtgnicgcdhldmmaaDoorW.PrintWords Go.Proofs.YtgnicgcdhldmmaaDoorW.PrintLast Go.Proofs.YtgnicgcdhldmmaaDoorW.PrintMore
/-- A bit of a row. -/
def bitv (xs : List Int) (p : Nat) : Bool := decide ((xs.getD (p / 8) 0).toNat / 2 ^ (p % 8) % 2 = 1)
/-- All bits of a key up to the k-th. -/
def mayK (xs : List Int) (l : List Int) (k : Nat) : Bool := decide (0 < xs.length) && (List.range k).all fun i => bitv xs (plc l (8 * xs.length) i)
def mayF (xs : List Int) (l : List Int) : Bool := mayK xs l 6
theorem mayK_zero (xs l : List Int) : mayK xs l 0 = decide (0 < xs.length) := by simp [mayK]
theorem mayK_succ (xs l : List Int) (k : Nat) : mayK xs l (k + 1) = (mayK xs l k && bitv xs (plc l (8 * xs.length) k)) := by
  simp [mayK, List.range_succ, Bool.and_assoc]
theorem mayK_false (xs l : List Int) (k : Nat) (hk : k ≤ 6) (h : mayK xs l k = false) : mayF xs l = false := by
  have : ∀ d, mayK xs l (k + d) = false := by
    intro d
    induction d with
    | zero => exact h
    | succ d ih => rw [← Nat.add_assoc, mayK_succ, ih, Bool.false_and]
  have h2 := this (6 - k)
  rwa [show k + (6 - k) = 6 by omega] at h2
/-- A filter that is asked: its variable, the answer so far. -/
structure My (w0 : World) (p q : Nat) (A : Option Addr) (n c : Nat) (b : Bool) (W : World) : Prop where
  bel : Below w0.heap.size w0 W
  hq : w0.heap.size ≤ q
  ne : p ≠ q
  box : W.heap[p]? = some (.cells #[.slice A n c] 27 (0, 0))
  ans : W.heap[q]? = some (.cells #[.bool b] 4 (0, 0))
theorem My.below {w0 W W' : World} {p q n c : Nat} {A : Option Addr} {b : Bool} (h : My w0 p q A n c b W) (hb : Below W.heap.size W W') : My w0 p q A n c b W' :=
  ⟨below_then h.bel h.bel.size hb, h.hq, h.ne, by rw [hb.block p (mk_lt h.box)]; exact h.box, by rw [hb.block q (mk_lt h.ans)]; exact h.ans⟩
theorem My.set {w0 W : World} {p q n c : Nat} {A : Option Addr} {b : Bool} (h : My w0 p q A n c b W) (b2 : Bool) : My w0 p q A n c b2 (W.setCell ⟨q, 0, none⟩ (.bool b2)) :=
  ⟨h.bel.setCell (p := ⟨q, 0, none⟩) h.hq _, h.hq, h.ne, by rw [Below.heap_setCell _ _ _ _ h.ne]; exact h.box, by
    rw [setCell_eq_setRow W q 0 _ _ _ _ h.ans, setRow_heap W q _ _ _ _ h.ans]
    rfl⟩
theorem infoT : (Tryd.prog.info? 4).map (·.size) = some 1 := by kernel_rfl
theorem shr8 (x k : Nat) (h : k < 8) : (x : Int) / 2 ^ min ((k : Int)).toNat IntKind.u8.bits = ((x / 2 ^ k : Nat) : Int) := by
  have : min ((k : Int)).toNat IntKind.u8.bits = k := by simp [IntKind.bits]; omega
  rw [this]
  simp
theorem and1 (x : Nat) (h : x < 256) : Go.bits .and .u8 (x : Int) 1 = ((x % 2 : Nat) : Int) := by
  have := u8_and_nat x 1 h (by omega)
  rw [show ((1 : Nat) : Int) = 1 from rfl] at this
  rw [this, Nat.and_one_is_mod]
theorem reg_18_1 : RegOk (opsOf Tryd.f18 1) [[], [0], [0, 1], [0, 1, 2], [0, 1], [0, 1, 4], [0, 1, 2, 3, 4, 5], [0, 1, 2, 3, 4, 5, 6], [0, 1], [0, 1, 8], [0, 1, 2, 3, 4, 5, 6, 7, 8, 9], [0, 1, 2, 3, 4, 5, 6, 7, 8, 9, 10], [0, 1, 2, 3, 4, 5, 6, 7, 8, 9, 10, 11], [0, 1, 2, 3, 4, 5, 6, 7, 8, 9, 10, 11, 12], [0, 1, 2, 3, 4, 5, 6, 7, 8, 9, 10, 11, 12, 13]] [14] [some 5, some 6, some 7, some 8, some 9, some 10, some 11, some 12, some 13, some 14, some 15, some 16, some 17, some 18, none] := regOk (by kernel_rfl)
set_option maxRecDepth 20000 in
set_option maxHeartbeats 1600000 in
theorem ask_true {w0 : World} {p q n c : Nat} {A : Option Addr} {xs : List Int} (w : World) (hS : My w0 p q A n c true w) (hr : Rds .u8 w0 A n xs) (hb : Crc.isByte xs) (hm : n ≤ 140737488355328) (pos : Nat) (hpos : pos < 8 * n) (hpl : pos < 4294967296) :
    Calls Tryd.prog 18 #[.int .i64 pos, .pointer (some ⟨q, 0, none⟩), .pointer (some ⟨p, 0, none⟩)] w fun e W' => e = .returned (.bool (bitv xs pos)) ∧ My w0 p q A n c (bitv xs pos) W' := by
  have hq := tdiv8 pos (by omega)
  have hrm := tmod8 pos
  have hk : pos % 8 < 8 := Nat.mod_lt _ (by omega)
  have hlt : pos / 8 < n := by omega
  have hby := byte_getD hb (pos / 8)
  obtain ⟨ad, rfl, _⟩ := rds_at 0 hr (pos / 8) hlt
  have hrow : ∀ W, My w0 p q (some ad) n c true W → W.cell? (ad.add (pos / 8)) = some (.int .u8 (xs.getD (pos / 8) 0)) := fun W hW => by
    obtain ⟨ad2, e, h2⟩ := rds_at 0 (rds_below hr hW.bel) (pos / 8) hlt
    injection e with e
    subst e
    exact h2
  obtain ⟨bv, hbv⟩ : ∃ bv, bitv xs pos = bv := ⟨_, rfl⟩
  have hbv2 : decide ((xs.getD (pos / 8) 0).toNat / 2 ^ (pos % 8) % 2 = 1) = bv := hbv
  rw [hbv]
  generalize xs.getD (pos / 8) 0 = ob at hby hrow hbv2
  obtain ⟨x, rfl⟩ := Int.eq_ofNat_of_zero_le hby.1
  rw [Int.toNat_natCast] at hbv2
  have hsh := shr8 x (pos % 8) hk
  have hxk : x / 2 ^ (pos % 8) < 256 := Nat.lt_of_le_of_lt (Nat.div_le_self _ _) (by omega)
  have han := and1 _ hxk
  have heq : ((((x / 2 ^ (pos % 8) % 2 : Nat) : Int) == 1) : Bool) = bv := by
    rw [← hbv2]
    by_cases h : x / 2 ^ (pos % 8) % 2 = 1
    · rw [h]; rfl
    · rw [decide_eq_false h]
      simp only [beq_eq_false_iff_ne]
      omega
  generalize x / 2 ^ (pos % 8) % 2 = bt at han heq
  generalize x / 2 ^ (pos % 8) = sh at hsh han
  generalize pos / 8 = qq at *
  generalize pos % 8 = rr at *
  have HQ := Lib.hid hq
  have HR := Lib.hid hrm
  have HSH := Lib.hid hsh
  have HAN := Lib.hid han
  have HEQ := Lib.hid heq
  have HROW := Lib.hid hrow
  have HS := Lib.hid hS
  clear hq hrm hsh han hby heq hbv2 hbv hrow hS
  go_enter Tryd.func18, Tryd.ntmps18
  go_upto_region 1 with fail
  refine plain_ (fun _ => True) (My w0 p q (some ad) n c true) reg_18_1 rfl (fun _ _ _ _ => trivial) (fun _ _ h hb => h.below hb) trivial HS.out ?_
  refine w_anyJ (FW.val (.bool true)) (by decide) (fun vs wq hI hJ hK => ?_) ?_
  · have hA := hJ (by decide)
    exact ob_run [(1, _)] (wants_none rfl) ⟨rho_out rfl rfl, trivial⟩ rfl (run_load_cell rfl rfl rfl Tryd.underlying4 rfl (by simp [World.cell?, hA.ans])) ⟨Below.refl _ _, rfl⟩
  refine w_move (.inl rfl) (fun vs w hK => ⟨wants_none rfl, rho_in rfl (fv (hK 0 (memE rfl)))⟩) ?_
  refine w_val [(2, _)] (.pointer (some ⟨p, 0, none⟩)) (fun vs w hK => ⟨wants_g rfl (fv (hK 1 (memE rfl))), rho_out rfl rfl, trivial⟩) rfl (fun wq hI => by exact op_bits rfl rfl) ?_
  refine w_anyJ (FW.val (.slice (some ad) n c)) (by decide) (fun vs wq hI hJ hK => ?_) ?_
  · have hA := hJ (by decide)
    exact ob_run [(7, _)] (wants_g rfl (fv (hK 1 (memE rfl)))) ⟨rho_in rfl (fv (hK 2 (memE rfl))), trivial⟩ rfl (run_load_cell rfl rfl rfl Tryd.underlying25 rfl (by simp [World.cell?, hA.box])) ⟨Below.refl _ _, rfl⟩
  refine w_move (.inl rfl) (fun vs w hK => ⟨wants_g rfl (fv (hK 1 (memE rfl))), rho_out rfl rfl⟩) ?_
  refine w_val [(9, _)] (_) (fun vs w hK => ⟨wants_g rfl (fv (hK 1 (memE rfl))), rho_in rfl (fv (hK 4 (memE rfl))), trivial⟩) rfl (fun wq hI => by exact op_quo rfl rfl rfl (by decide) HQ.out) ?_
  refine w_val [(8, _), (10, _)] (_) (fun vs w hK => ⟨wants_g rfl (fv (hK 1 (memE rfl))), rho_in rfl (fv (hK 3 (memE rfl))), rho_in rfl (fv (hK 5 (memE rfl))), trivial⟩) rfl (fun wq hI => by exact run_index_cell tb rfl rfl rfl rfl hlt) ?_
  refine w_anyJ (FW.val (.int .u8 (x : Int))) (by decide) (fun vs wq hI hJ hK => ?_) ?_
  · have hA := hJ (by decide)
    exact ob_run [(11, _)] (wants_g rfl (fv (hK 1 (memE rfl)))) ⟨rho_in rfl (fv (hK 6 (memE rfl))), trivial⟩ rfl (run_load_cell rfl rfl rfl Tryd.underlying5 rfl (HROW.out _ hA)) ⟨Below.refl _ _, rfl⟩
  refine w_move (.inl rfl) (fun vs w hK => ⟨wants_g rfl (fv (hK 1 (memE rfl))), rho_out rfl rfl⟩) ?_
  refine w_val [(13, _)] (_) (fun vs w hK => ⟨wants_g rfl (fv (hK 1 (memE rfl))), rho_in rfl (fv (hK 8 (memE rfl))), trivial⟩) rfl (fun wq hI => by exact op_rem rfl rfl rfl (by decide) HR.out) ?_
  refine w_val [(12, _), (14, _)] (_) (fun vs w hK => ⟨wants_g rfl (fv (hK 1 (memE rfl))), rho_in rfl (fv (hK 7 (memE rfl))), rho_in rfl (fv (hK 9 (memE rfl))), trivial⟩) rfl (fun wq hI => by exact op_shr rfl rfl rfl (Int.natCast_nonneg _) HSH.out) ?_
  refine w_val [(15, _)] (_) (fun vs w hK => ⟨wants_g rfl (fv (hK 1 (memE rfl))), rho_in rfl (fv (hK 10 (memE rfl))), trivial⟩) rfl (fun wq hI => by exact op_and rfl rfl rfl HAN.out) ?_
  refine w_val [(16, _)] (_) (fun vs w hK => ⟨wants_g rfl (fv (hK 1 (memE rfl))), rho_in rfl (fv (hK 11 (memE rfl))), trivial⟩) rfl (fun wq hI => by exact run_int_eql rfl rfl rfl HEQ.out) ?_
  refine w_pick (b := true) rfl (fun vs w hK => ⟨wants_none rfl, (rho_in rfl (fv (hK 1 (memE rfl)))), (rho_in rfl (fv (hK 12 (memE rfl))))⟩) ?_
  refine w_lin (FW.of (fun _ W => My w0 p q (some ad) n c bv W) (fun _ _ _ h hb => h.below hb)) (by decide) (fun vs wq hI hJ hK => ?_) ?_
  · have hA := hJ (by decide) (by decide)
    exact ob_store_cell [(1, _), (18, _)] (wants_none rfl) ⟨rho_out rfl rfl, rho_in rfl (fv (hK 13 (memE rfl))), trivial⟩ rfl rfl rfl rfl rfl (old := .bool true) (by simp [World.cell?, hA.ans]) (by simp [World.frozen?, hA.ans]) infoT ⟨trivial, hA.set bv⟩
  refine w_end rfl rfl rfl (fun vs wq hI hF => ?_)
  simp only [List.reverse_cons, List.reverse_nil, List.nil_append, List.cons_append, finL_val, finL_of, finL_any, finL_app, finL_new, finL_gr, finL_row, finL_box, finL_nil, Act.put, List.setIfInBounds_toArray, List.set_cons_zero, List.set_cons_succ, Nat.reduceAdd]
  have hfin : My w0 p q (some ad) n c bv wq := hF 14 (by decide) rfl
  have hcell : wq.cell? ⟨q, 0, none⟩ = some (.bool bv) := by simp [World.cell?, hfin.ans]
  have HFIN := Lib.hid hfin
  clear hfin
  go_wp2
  go_ret
  exact ⟨rfl, HFIN.out⟩
set_option maxRecDepth 20000 in
set_option maxHeartbeats 1600000 in
theorem ask_false {w0 : World} {p q n c : Nat} {A : Option Addr} (w : World) (hS : My w0 p q A n c false w) (pos : Int) :
    Calls Tryd.prog 18 #[.int .i64 pos, .pointer (some ⟨q, 0, none⟩), .pointer (some ⟨p, 0, none⟩)] w fun e W' => e = .returned (.bool false) ∧ My w0 p q A n c false W' := by
  have hcell : w.cell? ⟨q, 0, none⟩ = some (.bool false) := by simp [World.cell?, hS.ans]
  have hfr : w.frozen? ⟨q, 0, none⟩ = false := by simp [World.frozen?, hS.ans]
  have h2 := hS.set false
  have hcell2 : (w.setCell ⟨q, 0, none⟩ (.bool false)).cell? ⟨q, 0, none⟩ = some (.bool false) := by simp [World.cell?, h2.ans]
  have H2 := Lib.hid h2
  clear hS h2
  go_enter Tryd.func18, Tryd.ntmps18
  go_wp2
  go_ret
  exact ⟨rfl, H2.out⟩
set_option maxRecDepth 20000 in
set_option maxHeartbeats 1600000 in
theorem may_any (A : Option Addr) (n c : Nat) (xs : List Int) (S : ByteArray) (w : World) (hT : Halves w) (hr : Rds .u8 w A n xs) (hl : xs.length = n) (hb : Crc.isByte xs) (hn : n ≤ 10000) (hs : S.size ≤ 140737488355328) :
    Calls Tryd.prog 11 #[.agg #[.slice A n c], .string S] w fun e W' => e = .returned (.bool (mayF xs (numsOf S))) ∧ Below w.heap.size w W' := by
  go_enter Tryd.func11, Tryd.ntmps11
  go_upto_region 2 with fail
  have hS0 : My w w.heap.size (w.heap.size + 1) A n c (mayK xs (numsOf S) 0) ((w.alloc (Obj.cells #[Value.slice A n c] 27)).alloc (Obj.cells #[Value.bool (decide (0 < n))] 4)) := by
    have hsz1 : (w.alloc (Obj.cells #[Value.slice A n c] 27)).heap.size = w.heap.size + 1 := by simp only [World.alloc, Array.size_push]
    have hbox : (w.alloc (Obj.cells #[Value.slice A n c] 27)).heap[w.heap.size]? = some (Obj.cells #[Value.slice A n c] 27) := heap_alloc_new w _
    have hans := heap_alloc_new (w.alloc (Obj.cells #[Value.slice A n c] 27)) (Obj.cells #[Value.bool (decide (0 < n))] 4)
    rw [hsz1] at hans
    rw [mayK_zero, hl]
    exact ⟨below_alloc (below_alloc (Below.refl _ _) _) _, by omega, by omega, by rw [(below_alloc (Below.refl _ _) _).block _ (by rw [hsz1]; omega)]; exact hbox, hans⟩
  generalize hq : w.heap.size + 1 = q at hS0 ⊢
  generalize hp : w.heap.size = p at hS0 ⊢
  generalize ((w.alloc (Obj.cells #[Value.slice A n c] 27)).alloc (Obj.cells #[Value.bool (decide (0 < n))] 4)) = W0 at hS0 ⊢
  have hcb : W0.cell? ⟨p, 0, none⟩ = some (.slice A n c) := by simp [World.cell?, hS0.box]
  have C := places_any S hs (8 * n) (by omega) 18 _ #[.pointer (some ⟨q, 0, none⟩), .pointer (some ⟨p, 0, none⟩)] Tryd.func18 (by kernel_rfl) rfl (fun j W => My w p q A n c (mayK xs (numsOf S) j) W) (fun W => My w p q A n c false W ∧ mayF xs (numsOf S) = false) W0 (hT.below hS0.bel) (fun W hb => hS0.below hb)
    (fun j W hj hS => by
      cases hk : mayK xs (numsOf S) j with
      | false =>
        rw [hk] at hS
        refine (ask_false W hS _).mono ?_
        rintro e W' ⟨he, h2⟩
        exact .inr ⟨he, h2, mayK_false _ _ j (by omega) hk⟩
      | true =>
        rw [hk] at hS
        have hn0 : 0 < n := by
          rcases Nat.eq_zero_or_pos n with h | h
          · subst h
            unfold mayK at hk
            rw [hl] at hk
            simp at hk
          · exact h
        refine (ask_true W hS hr hb (by omega) (plc (numsOf S) (8 * n) j) (plc_lt _ _ _ (by omega)) (Nat.lt_of_lt_of_le (plc_lt _ _ _ (by omega)) (by omega))).mono ?_
        rintro e W' ⟨he, h2⟩
        have hsu := mayK_succ xs (numsOf S) j
        rw [hk, hl, Bool.true_and] at hsu
        cases hbv : bitv xs (plc (numsOf S) (8 * n) j) with
        | true =>
          rw [hbv] at hsu h2 he
          exact .inl ⟨he, by rw [hsu]; exact h2⟩
        | false =>
          rw [hbv] at hsu h2 he
          exact .inr ⟨he, h2, mayK_false _ _ (j + 1) (by omega) hsu⟩)
  rw [show ((8 * n : Nat) : Int) = 8 * (n : Int) by omega] at C
  have HC : Hid (Calls Tryd.prog 16 #[.string S, .int .i64 (8 * (n : Int)), .func (.func 18) #[] #[.pointer (some ⟨q, 0, none⟩), .pointer (some ⟨p, 0, none⟩)]] W0 fun e w' => e = .returned (.tuple #[]) ∧ My w p q A n c (mayF xs (numsOf S)) w') := Lib.hid (C.mono fun e w' h => ⟨h.1, by
    rcases h.2 with h2 | ⟨h2, h3⟩
    · exact h2
    · rw [h3]; exact h2⟩)
  clear C hS0 hT hr hb hl
  go_wp2_with fail
  refine HC.out.mono ?_
  rintro e w' ⟨rfl, h2⟩
  have hcell : w'.cell? ⟨q, 0, none⟩ = some (.bool (mayF xs (numsOf S))) := by simp [World.cell?, h2.ans]
  have H2 := Lib.hid h2
  clear h2
  obtain ⟨r, hr0⟩ : ∃ r, r = mayF xs (numsOf S) := ⟨_, rfl⟩
  rw [← hr0] at hcell H2
  have HR0 := Lib.hid hr0
  clear hr0
  go_wp2
  go_ret
  rw [← HR0.out]
  exact ⟨rfl, H2.out.bel⟩
def BigR (n : Nat) (names : List ByteArray) (w : World) (e : Ending) (W' : World) : Prop := ∃ b, e = .returned (.bool b) ∧ w = W' ∧ (b = false → n ≤ 60 ∧ ∀ s ∈ names, s.size ≤ 200)
set_option maxRecDepth 20000 in
set_option maxHeartbeats 1600000 in
theorem big_any (A : Option Addr) (n c : Nat) (names : List ByteArray) (w : World) (hr : RdsS w A n names) (hl : names.length = n) (hn : n ≤ 9223372036854775807) :
    Calls Tryd.prog 9 #[.slice A n c] w (BigR n names w) := by
  by_cases h60 : 60 < n
  · clear hr hl
    go_enter Tryd.func9, Tryd.ntmps9
    go_wp2
    go_ret
    exact ⟨true, rfl, rfl, fun h => by cases h⟩
  · go_enter Tryd.func9, Tryd.ntmps9
    go_wp2
    go_loop [10] (fun i => ∃ k : Nat, k ≤ n ∧ i = .int .i64 k ∧ ∀ s ∈ names.take k, s.size ≤ 200) (fun i => n - (intOf i).toNat)
    case atStart => exact ⟨0, by omega, rfl, fun s hs => by cases hs⟩
    case round =>
      obtain ⟨k, hk, rfl, hall⟩ := hrel
      by_cases hlt : k < n
      · obtain ⟨ad, rfl, hc⟩ := rds_at default hr k hlt
        have htk : names.take (k + 1) = names.take k ++ [names.getD k default] := by
          rw [List.take_succ_eq_append_getElem (by rw [hl]; exact hlt), List.getD_eq_getElem?_getD, List.getElem?_eq_getElem (by rw [hl]; exact hlt)]
          rfl
        generalize names.getD k default = s at hc htk
        have HT := Lib.hid htk
        have HA := Lib.hid hall
        clear htk hall hl
        by_cases h2 : 200 < s.size
        · go_wp2
          go_ret
          exact ⟨true, rfl, rfl, fun h => by cases h⟩
        · go_wp2
          go_round
          case rel => exact ⟨k + 1, by omega, by go_num, by
            rw [HT.out]
            intro x hx
            rcases List.mem_append.1 hx with h3 | h3
            · exact HA.out x h3
            · rw [List.mem_singleton.1 h3]; omega⟩
          case measure => simp [intOf]; omega
      · obtain rfl : k = n := by omega
        rw [List.take_of_length_le (by omega)] at hall
        have HA := Lib.hid hall
        clear hall hl
        go_wp2
        go_ret
        exact ⟨false, rfl, rfl, fun _ => ⟨by omega, HA.out⟩⟩
end Go.Proofs.YtgnicgcdhldmmaaDoor.Blm

