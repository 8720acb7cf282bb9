/- The walk of the law PageMakes: the page of any pairs, byte by byte, or why there is none. -/
import Derived.Test.YtnkeijdpjcclcaaPageCuts
namespace Go.Proofs.Ytnkeijdpjcclcaa.Pg
set_option linter.unusedVariables false
set_option linter.unusedSimpArgs false
open Go.Proofs.Ytnkeijdpjcclcaa.Kit Go.Proofs.Ytnkeijdpjcclcaa.Num Go.RowKit Go.Proofs.YtnkeijdpjcclcaaW.PrintWords Go.Proofs.YtnkeijdpjcclcaaW.PrintLast Go.Proofs.YtnkeijdpjcclcaaW.PrintMore NumPure
theorem put7_small_len {n : Nat} (h : n < 16384) : (put7 n).length ≤ 2 := put7_len 1 n (by omega)
/-- Few short pairs fit. -/
theorem fit_small {l : List PR} (hn : l.length ≤ 60) (hs : ∀ p ∈ l, p.1.length ≤ 300 ∧ p.2.length ≤ 300) : ∀ k, k ≤ l.length → (bodyAt l k).length ≤ 610 * k
  | 0, _ => by simp [bodyAt]
  | k + 1, hk => by
    have ih := fit_small hn hs k (by omega)
    have hlk : k < l.length := by omega
    have hp := hs l[k] (List.getElem_mem hlk)
    have h1 : nmAt l k = l[k].1 := by simp [nmAt, List.getD_eq_getElem?_getD, List.getElem?_eq_getElem hlk]
    have h2 : vlAt l k = l[k].2 := by simp [vlAt, List.getD_eq_getElem?_getD, List.getElem?_eq_getElem hlk]
    have h3 := same_name l k
    rw [h1] at h3
    have e : (rowOf (sameAt l k) (nmAt l k) (vlAt l k)).length ≤ 610 := by
      unfold rowOf
      rw [h1, h2]
      have a1 := put7_small_len (n := sameAt l k) (by omega)
      have a2 := put7_small_len (n := l[k].1.length - sameAt l k) (by omega)
      have a3 := put7_small_len (n := l[k].2.length) (by omega)
      simp only [List.length_append, List.length_drop]
      omega
    simp only [bodyAt, List.length_append]
    omega
theorem nn_small {ps : List PB} (h : ∀ p ∈ ps, p.1.size ≤ 300 ∧ p.2.size ≤ 300) : ∀ p ∈ nn ps, p.1.length ≤ 300 ∧ p.2.length ≤ 300 := by
  intro p hp
  obtain ⟨q, hq, rfl⟩ := List.mem_map.1 hp
  rw [numsOf_length, numsOf_length]
  exact h q hq
/-- The law's search for what two names have alike. -/
theorem front_bool (a b : ByteArray) (n : Nat) (h : n ≤ cmn (numsOf a) (numsOf b)) (X : Bool) (hX : n < a.size → n < b.size → X = decide (a.extract 0 (n + 1) = b.extract 0 (n + 1))) :
    ((decide ((n : Int) < (a.size : Int)) && decide ((n : Int) < (b.size : Int))) && X) = decide (n < cmn (numsOf a) (numsOf b)) := by
  have h1 := cmn_left (numsOf a) (numsOf b)
  have h2 := cmn_right (numsOf a) (numsOf b)
  rw [numsOf_length] at h1 h2
  by_cases ha : n < a.size
  · by_cases hb : n < b.size
    · have e1 : decide ((n : Int) < (a.size : Int)) = true := decide_eq_true (by omega)
      have e2 : decide ((n : Int) < (b.size : Int)) = true := decide_eq_true (by omega)
      rw [e1, e2, hX ha hb, Bool.true_and, Bool.true_and]
      have hf := cmn_front (numsOf a) (numsOf b) n h (by rw [numsOf_length]; exact ha) (by rw [numsOf_length]; exact hb)
      rw [decide_eq_decide, numsOf_eq, numsOf_extract, numsOf_extract, List.drop_zero, List.drop_zero, Nat.sub_zero]
      exact hf
    · have e2 : decide ((n : Int) < (b.size : Int)) = false := decide_eq_false (by omega)
      rw [e2, Bool.and_false, Bool.false_and, decide_eq_false (by omega)]
  · have e1 : decide ((n : Int) < (a.size : Int)) = false := decide_eq_false (by omega)
    rw [e1, Bool.false_and, Bool.false_and, decide_eq_false (by omega)]
/-- What a round of the law's loop holds. -/
structure MkS (w : World) (B : Nat) (nm vl : ByteArray) (want pl gv : Value) (xs ys gx : List Int) (W : World) : Prop where
  want_ : Gr .u8 5 W w.heap.size want xs
  pl_ : Gr .u8 5 W w.heap.size pl ys
  gv_ : Gr .u8 5 W w.heap.size gv gx
  a1 : Apart pl want
  a2 : Apart gv want
  a3 : Apart gv pl
  box : W.heap[B]? = some (.cells #[.string nm, .string vl] 30 (0, 0))
  nb : want.ownBlock ≠ some B
  np : pl.ownBlock ≠ some B
  bel : Below w.heap.size w W
theorem MkS.below {w W W' : World} {B : Nat} {nm vl : ByteArray} {want pl gv : Value} {xs ys gx : List Int} (h : MkS w B nm vl want pl gv xs ys gx W) (hb : Below W.heap.size W W') : MkS w B nm vl want pl gv xs ys gx W' :=
  ⟨gr_below h.want_ hb, gr_below h.pl_ hb, gr_below h.gv_ hb, h.a1, h.a2, h.a3, box_stays h.box hb, h.nb, h.np, below_then h.bel h.bel.size hb⟩
theorem MkS.next {w W W' : World} {B : Nat} {nm vl : ByteArray} {want want' pl gv : Value} {xs xs' ys gx : List Int} (h : MkS w B nm vl want pl gv xs ys gx W) (hA : AppB w W W' want want' xs') : MkS w B nm vl want' pl gv xs' ys gx W' :=
  ⟨hA.own, hA.fr.keep_gr h.pl_ h.a1, hA.fr.keep_gr h.gv_ h.a2, hA.fr.apart_gr h.pl_ h.a1, hA.fr.apart_gr h.gv_ h.a2, h.a3, by rw [hA.fr.grown.block B (mk_lt h.box) (Ne.symm h.nb)]; exact h.box, app_ne hA (mk_lt h.box) h.nb, h.np, hA.bel⟩
theorem MkS.next_pl {w W W' : World} {B : Nat} {nm vl : ByteArray} {want pl pl' gv : Value} {xs ys ys' gx : List Int} (h : MkS w B nm vl want pl gv xs ys gx W) (hA : AppB w W W' pl pl' ys') : MkS w B nm vl want pl' gv xs ys' gx W' :=
  ⟨hA.fr.keep_gr h.want_ h.a1.symm, hA.own, hA.fr.keep_gr h.gv_ h.a3, (hA.fr.apart_gr h.want_ h.a1.symm).symm, h.a2, hA.fr.apart_gr h.gv_ h.a3, by rw [hA.fr.grown.block B (mk_lt h.box) (Ne.symm h.np)]; exact h.box, h.nb, app_ne hA (mk_lt h.box) h.np, hA.bel⟩
theorem MkS.c0 {w W : World} {B : Nat} {nm vl : ByteArray} {want pl gv : Value} {xs ys gx : List Int} (h : MkS w B nm vl want pl gv xs ys gx W) : W.cell? ⟨B, 0, none⟩ = some (.string nm) := by simp [World.cell?, h.box]
theorem MkS.c1 {w W : World} {B : Nat} {nm vl : ByteArray} {want pl gv : Value} {xs ys gx : List Int} (h : MkS w B nm vl want pl gv xs ys gx W) : W.cell? ⟨B, 1, none⟩ = some (.string vl) := by simp [World.cell?, h.box]
theorem MkS.keeps {w W : World} {B : Nat} {nm vl : ByteArray} {want pl gv : Value} {xs ys gx : List Int} (h : MkS w B nm vl want pl gv xs ys gx W) : Keeps w B (.cells #[.string nm, .string vl] 30 (0, 0)) W := ⟨h.bel, h.box⟩
/-- The three rows between two rounds. -/
structure MkT (w : World) (want pl gv : Value) (xs ys gx : List Int) (W : World) : Prop where
  want_ : Gr .u8 5 W w.heap.size want xs
  pl_ : Gr .u8 5 W w.heap.size pl ys
  gv_ : Gr .u8 5 W w.heap.size gv gx
  a1 : Apart pl want
  a2 : Apart gv want
  a3 : Apart gv pl
  bel : Below w.heap.size w W
theorem MkS.mkt {w W : World} {B : Nat} {nm vl : ByteArray} {want pl gv : Value} {xs ys gx : List Int} (h : MkS w B nm vl want pl gv xs ys gx W) : MkT w want pl gv xs ys gx W := ⟨h.want_, h.pl_, h.gv_, h.a1, h.a2, h.a3, h.bel⟩
/-- What Make told, as the law uses it. -/
def Told (l : List PR) (ex : Nat) (gx : List Int) : Prop := (ex = 0 ∧ Good l l.length ∧ gx = pageOf l) ∨ (ex = 1 ∧ gx = [] ∧ ∃ k, k < l.length ∧ ¬ Ord l k)
theorem reg_3_15 : RegOk (opsOf Try.f3 15) [[], [0], [], [0, 1, 2]] [] [some 40, some 41, some 42, some 43] := regOk (by kernel_rfl)
theorem reg_3_17 : RegOk (opsOf Try.f3 17) [[], [], [1], [0, 1, 2], [0, 1, 2, 3], [0, 1, 2, 3, 4], [0, 1, 2, 3, 4], [0, 1, 2, 3, 4, 6], [0, 1, 2, 3, 4, 6, 7], [0, 1, 2, 3, 4, 5, 6, 7, 8], [0, 1, 2, 3, 4, 5, 6, 7, 8, 9], [0, 1, 2, 3, 4, 5, 6, 7, 8, 9, 10], [0, 1, 2, 3, 4, 5, 6, 7, 8, 9, 10, 11], [0, 1, 2, 3, 4, 5, 6, 7, 8, 9, 10, 11], [0, 1, 2, 3, 4, 5, 6, 7, 8, 9, 10, 11, 13], [0, 1, 2, 3, 4, 5, 6, 7, 8, 9, 10, 11, 12, 13, 14], [0, 1, 2, 3, 4, 5, 6, 7, 8, 9, 10, 11], [0, 1, 2, 3, 4, 5, 6, 7, 8, 9, 10, 11, 16], [0, 1, 2, 3, 4, 5, 6, 7, 8, 9, 10, 11], [0, 1, 2, 3, 4, 5, 6, 7, 8, 9, 10, 11, 18], [0, 1, 2, 3, 4, 5, 6, 7, 8, 9, 10, 11, 16, 17, 18, 19], [0, 1, 2, 3, 4, 5, 6, 7, 8, 9, 10, 11, 12, 13, 14, 15, 16, 17, 18, 19, 20], [0, 1, 2, 3, 4, 5, 6, 7, 8, 9, 10, 11, 12, 13, 14, 15, 16, 17, 18, 19, 20, 21]] [] [some 51, some 52, some 53, some 54, some 55, some 56, some 57, some 58, some 59, some 60, some 61, some 62, some 63, some 64, some 65, some 66, some 67, some 68, some 69, some 70, some 71, some 72, some 73] := regOk (by kernel_rfl)
theorem reg_3_19 : RegOk (opsOf Try.f3 19) [[], [0], [0, 1]] [] [some 76, some 77, some 78] := regOk (by kernel_rfl)
theorem reg_3_26 : RegOk (opsOf Try.f3 26) [[], [], [1], [], [1, 2, 3], [0, 1, 2, 3, 4], [], [6], [0, 1, 2, 3, 4, 5, 6, 7], [0, 1, 2, 3, 4, 5, 6, 7, 8]] [5, 8, 9] [some 104, some 105, some 106, some 107, some 108, some 109, some 110, some 111, some 112, some 5] := regOk (by kernel_rfl)
theorem reg_3_29 : RegOk (opsOf Try.f3 29) [[], [0], [0, 1], [0, 1, 2], [0, 1, 2, 3], [0, 1, 2], [0, 1, 2, 5], [0, 1, 2, 3, 4, 5, 6], [0, 1, 2, 3, 4, 5, 6, 7]] [] [some 120, some 121, some 122, some 123, some 124, some 125, some 126, some 127, some 128] := regOk (by kernel_rfl)
theorem reg_3_32 : RegOk (opsOf Try.f3 32) [[], [0], [0, 1], [0, 1, 2], [0, 1, 2, 3], [0, 1, 2], [0, 1, 2, 3, 4, 5], [0, 1, 2, 3, 4, 5, 6], [0, 1, 2, 3, 4, 5, 6, 7]] [] [some 134, some 135, some 136, some 137, some 138, some 139, some 140, some 141, some 2] := regOk (by kernel_rfl)
set_option maxRecDepth 20000 in
set_option maxHeartbeats 6400000 in
theorem makes_any (A : Option Addr) (n c : Nat) (ps : List PB) (w : World) (hl : Sts encP 2 w A n ps) (hnc : n ≤ c) (hok : ∀ z ∈ ps, okP z) :
    Calls Try.prog 3 #[.slice A n c] w fun e w' => e = .returned (.bool true) ∧ Below w.heap.size w w' := by
  have HST := Lib.hid hl
  have HLEN := Lib.hid hl.len
  have C0 := Lib.hid (head_any w)
  clear hl hok
  go_enter Try.func3, Try.ntmps3
  go_wp2_with fail
  refine C0.out.mono ?_
  rintro e w1 ⟨rfl, hb1⟩
  have HB1 := Lib.hid hb1
  have CB := Lib.hid (big_any A n c ps w1 (sts_below HST.out hb1))
  clear hb1 C0
  go_wp2_with fail
  refine CB.out.mono ?_
  rintro e w2 ⟨B, rfl, hb2, hsmall⟩
  have HB2 := Lib.hid (below_then HB1.out HB1.out.size hb2)
  have HSM := Lib.hid hsmall
  clear hb2 hsmall HB1 CB
  cases B with
  | true =>
    go_wp2_with fail
    go_ret
    exact ⟨rfl, HB2.out⟩
  | false =>
  obtain ⟨hn60, hsz⟩ := HSM.out rfl
  have CM := Lib.hid (make_any A n c ps w2 (sts_below HST.out HB2.out) (by omega) (fun p hp => by have := hsz p hp; omega))
  have HSZ := Lib.hid hsz
  have hfit : ∀ k, k < (nn ps).length → Fit (nn ps) k := fun k hk => by
    have := fit_small (l := nn ps) (by rw [nn_length, HLEN.out]; exact hn60) (nn_small hsz) (k + 1) hk
    rw [nn_length, HLEN.out] at hk
    unfold Fit
    omega
  have HFIT := Lib.hid hfit
  clear HSM hsz hfit
  go_wp2_with fail
  refine CM.out.mono ?_
  rintro e w3 ⟨hb3, gv, ex, rfl, hp⟩
  have htold : ∃ gx, Gr .u8 5 w3 w2.heap.size gv gx ∧ Told (nn ps) ex gx := by
    rcases hp with ⟨rfl, h1, h2⟩ | ⟨rfl, rfl, k, h1, _, h2⟩ | ⟨_, _, k, h1, _, _, h2⟩
    · exact ⟨_, h2, .inl ⟨rfl, h1, rfl⟩⟩
    · exact ⟨[], gr_nil _ _ _, .inr ⟨rfl, rfl, k, h1, h2⟩⟩
    · exact absurd (HFIT.out k h1) h2
  obtain ⟨gx, hgr, htd⟩ := htold
  obtain ⟨Ag, ng, cg, rfl, hgc, HLG, _, _⟩ := gr_open hgr
  have HTD := Lib.hid htd
  have HGR := Lib.hid hgr
  have HB3 := Lib.hid (below_then HB2.out HB2.out.size hb3)
  have hw23 : w.heap.size ≤ w2.heap.size := HB2.out.size
  clear hb3 hp hgr htd HB2 CM
  have hO1 := own_lit_ .u8 5 w3 w.heap.size [] 0 rfl HB3.out.size (by simp)
  have hba1 := below_alloc (Below.refl w3.heap.size w3) (.cells (nums .u8 []).toArray 5)
  have hO2 := own_lit_ .u8 5 (w3.alloc (.cells #[] 5)) w.heap.size [] 0 rfl (Nat.le_trans HB3.out.size hba1.size) (by simp)
  have hba2 := below_alloc (Below.refl (w3.alloc (.cells #[] 5)).heap.size (w3.alloc (.cells #[] 5))) (.cells (nums .u8 []).toArray 5)
  have hs1 : (w3.alloc (.cells #[] 5)).heap.size = w3.heap.size + 1 := by simp only [World.alloc, Array.size_push]
  have hglt : ∀ j, (Value.slice Ag ng cg).ownBlock = some j → j < w3.heap.size := fun j hj => gr_lt HGR.out j hj
  have h0 : MkT w (.slice (some ⟨w3.heap.size, 0, none⟩) 0 0) (.slice (some ⟨(w3.alloc (.cells #[] 5)).heap.size, 0, none⟩) 0 0) (.slice Ag ng cg) [] [] gx ((w3.alloc (.cells #[] 5)).alloc (.cells #[] 5)) :=
    ⟨gr_below (.inl hO1) hba2, .inl hO2, gr_lower (gr_below (gr_below HGR.out hba1) hba2) hw23, ⟨.inr (.inr (by rw [hs1]; simp [Value.ownBlock]))⟩, ⟨by
      cases hq : (Value.slice Ag ng cg).ownBlock with
      | none => exact .inl rfl
      | some j => exact .inr (.inr (by have := hglt j hq; simp [Value.ownBlock]; omega))⟩, ⟨by
      cases hq : (Value.slice Ag ng cg).ownBlock with
      | none => exact .inl rfl
      | some j => exact .inr (.inr (by have := hglt j hq; rw [hs1]; simp [Value.ownBlock]; omega))⟩, below_then HB3.out HB3.out.size (below_then hba1 hba1.size hba2)⟩
  rw [hs1] at h0
  have H0 := Lib.hid h0
  clear hO1 hO2 hba1 hba2 hs1 hglt h0
  go_wp2_with fail
  go_loopw [5, 6, 7, 27] (fun want pl cn i wr => ∃ (k : Nat), k ≤ n ∧ i = .int .i64 k ∧ cn = .int .i64 (cntAt k : Nat) ∧ Hid (Good (nn ps) k) ∧ Hid (MkT w want pl (.slice Ag ng cg) (bodyAt (nn ps) k) (wholeAt (nn ps) k) gx wr)) (fun _ _ _ i _ => n - (intOf i).toNat)
  case atStart => exact ⟨0, by omega, rfl, rfl, Lib.hid (fun j hj => absurd hj (by omega)), H0⟩
  case round =>
    obtain ⟨k, hk, rfl, rfl, HGood, HM⟩ := hrel
    by_cases hlt : k < n
    · have t1 : decide ((k : Int) < (n : Int)) = true := decide_eq_true (by omega)
      have hstb := sts_below HST.out HM.out.bel
      obtain ⟨ad, rfl, hc⟩ := hstb.row (by omega)
      obtain ⟨⟨nm, vl⟩, hp⟩ : ∃ p : PB, ps[k]? = some p := ⟨_, List.getElem?_eq_getElem (by rw [HLEN.out]; exact hlt)⟩
      have hcell := hc k _ hp
      have hgd : ps.getD k default = (nm, vl) := by rw [List.getD_eq_getElem?_getD, hp]; rfl
      have HNm : Hid (nmAt (nn ps) k = numsOf nm) := Lib.hid (by rw [nm_nn, hgd])
      have HVl : Hid (vlAt (nn ps) k = numsOf vl) := Lib.hid (by rw [vl_nn, hgd])
      have hsm := HSZ.out _ (List.mem_of_getElem? hp)
      have hs1 : nm.size ≤ 300 := hsm.1
      have hs2 : vl.size ≤ 300 := hsm.2
      have hbf := body_fit HGood.out
      have HLast := Lib.hid (last_nn ps k)
      have HK := Lib.hid hlt
      have hprev : ∀ k0, k = k0 + 1 → wr.cell? (ad.add (k0 * 2)) = some (.string (lastS ps k)) := fun k0 hk0 => by
        have hlt0 : k0 < ps.length := by rw [HLEN.out]; omega
        have h1 := hc k0 _ (List.getElem?_eq_getElem hlt0) 0 _ rfl
        rw [Addr.add_add, Nat.add_zero] at h1
        rw [h1, hk0, lastS_succ, List.getD_eq_getElem?_getD, List.getElem?_eq_getElem hlt0]
        rfl
      have hlsz : (lastS ps k).size ≤ 300 := by
        unfold lastS
        split
        · exact Nat.zero_le _
        · rw [List.getD_eq_getElem?_getD]
          cases hq : ps[k - 1]? with
          | none => exact Nat.zero_le _
          | some q => exact (HSZ.out q (List.mem_of_getElem? hq)).1
      generalize lastS ps k = la at HLast hprev hlsz
      have HPrev := Lib.hid hprev
      clear hc hp hgd hsm hstb hprev
      go_upto_region 12 with (first
        | (refine wpList_index_st rfl 22 _ _ rfl sts22 rfl rfl rfl hlt ?_)
        | (refine wpList_load_at rfl 30 _ rfl _ [.string nm, .string vl] rfl hcell Try.underlying30 rfl info30 ?_)
        | (refine wpList_store_box rfl 30 (.tmp 9) (.tmp 31) rfl wr.heap.size [.string nm, .string vl] rfl rfl (heap_alloc_new wr _) rfl info30 rfl ?_; intro w4 hs4; have HS4 := Lib.hid hs4; clear hs4))
      have hb4 : Below wr.heap.size wr w4 := HS4.out.then_ (below_alloc (Below.refl _ _) _) (Nat.le_refl _)
      have HS : Hid (MkS w wr.heap.size nm vl u5 u6 (.slice Ag ng cg) (bodyAt (nn ps) k) (wholeAt (nn ps) k) gx w4) := Lib.hid ⟨gr_below HM.out.want_ hb4, gr_below HM.out.pl_ hb4, gr_below HM.out.gv_ hb4, HM.out.a1, HM.out.a2, HM.out.a3, HS4.out.at_, fun h => by have := gr_lt HM.out.want_ _ h; omega, fun h => by have := gr_lt HM.out.pl_ _ h; omega, below_then HM.out.bel HM.out.bel.size hb4⟩
      have HPrev4 : Hid (∀ k0, k = k0 + 1 → w4.cell? (ad.add (k0 * 2)) = some (.string la)) := Lib.hid (fun k0 hk0 => below_cell hb4 (HPrev.out k0 hk0))
      clear HM HS4 hb4 HPrev hcell
      generalize wr.heap.size = B at HS ⊢
      obtain ⟨Ab, nb, cb, rfl, hbc, HLb, hbm, _⟩ := gr_open HS.out.want_
      have hnb : (bodyAt (nn ps) k).length = nb := HLb.out
      have hcq : cntAt k ≤ 100 := by unfold cntAt; omega
      have hwl := whole_length (nn ps) k
      have hwnb : IntKind.u64.wrap (nb : Int) = (nb : Int) := u64_nat nb (by omega)
      have hwV : IntKind.u64.wrap (vl.size : Int) = (vl.size : Int) := u64_nat vl.size (by omega)
      have HWS : Hid (wholeAt (nn ps) (k + 1) = if k % 8 = 0 then wholeAt (nn ps) k ++ le (bodyAt (nn ps) k).length 4 else wholeAt (nn ps) k) := Lib.hid rfl
      have HBS : Hid (bodyAt (nn ps) (k + 1) = bodyAt (nn ps) k ++ rowOf (sameAt (nn ps) k) (nmAt (nn ps) k) (vlAt (nn ps) k)) := Lib.hid rfl
      by_cases hk0 : k = 0
      · have t2 : decide (0 < k) = false := decide_eq_false (by omega)
        have HOrd : Hid (Ord (nn ps) k) := Lib.hid (.inl hk0)
        have HE : Hid (k % 8 = 0) := Lib.hid (by rw [hk0])
        clear hk0 HPrev4
        go_upto_region 19 with fail
        refine plain_ (fun wq => Below w4.heap.size w4 wq) (fun _ => True) reg_3_19 rfl inv0 (fun _ _ _ _ => trivial) (Below.refl _ _) trivial ?_
        refine w_move (.inl rfl) (fun vs w hK => ⟨wants_none rfl, rho_out rfl rfl⟩) ?_
        refine w_val [(76, _)] (_) (fun vs w hK => ⟨wants_none rfl, rho_in rfl (fv (hK 0 (memE rfl))), trivial⟩) rfl (fun wq hI => by exact op_rem rfl rfl rfl (by decide) (rem_nat k 8)) ?_
        refine w_val [(77, _)] (_) (fun vs w hK => ⟨wants_none rfl, rho_in rfl (fv (hK 1 (memE rfl))), trivial⟩) rfl (fun wq hI => by exact run_int_eql (r := true) rfl rfl rfl (by rw [HE.out]; rfl)) ?_
        refine w_end rfl rfl rfl (fun vs wq hI hF => ?_)
        simp only [List.reverse_cons, List.reverse_nil, List.nil_append, List.cons_append, finL_val, finL_of, finL_any, finL_app, finL_new, finL_gr, finL_row, finL_box, finL_nil, Act.put, List.setIfInBounds_toArray, List.set_cons_zero, List.set_cons_succ, Nat.reduceAdd]
        have HS4 := Lib.hid (HS.out.below hI)
        clear hI hF HS
        obtain ⟨w5, rfl⟩ : ∃ w5 : World, w5 = wq := ⟨_, rfl⟩
        have HSame : Hid (sameAt (nn ps) k = 0) := Lib.hid (by unfold sameAt; rw [if_pos HE.out])
        go_wp2_with fail
        refine (putLittle_any nb 4 (by omega) u6 (wholeAt (nn ps) k) w _ HS4.out.pl_ HS4.out.bel (by omega)).mono ?_
        rintro e w7 ⟨v7, rfl, hA⟩
        have hwe : wholeAt (nn ps) k ++ le nb (min (4 : Int).toNat 8) = wholeAt (nn ps) (k + 1) := by
          rw [HWS.out, if_pos HE.out, hnb]
          rfl
        have HS5 : Hid (MkS w B nm vl (.slice Ab nb cb) v7 (.slice Ag ng cg) (bodyAt (nn ps) k) (wholeAt (nn ps) (k + 1)) gx w7) := Lib.hid (hwe ▸ HS4.out.next_pl hA)
        clear hA hwe HS4
        generalize hxs : bodyAt (nn ps) k = xs at HS5 hnb hbf HBS
        have h10 := put7_len10 (n := 0) (by omega)
        have h11 := put7_len10 (n := nm.size) (by omega)
        have h12 := put7_len10 (n := vl.size) (by omega)
        have hwS : IntKind.u64.wrap ((0 : Nat) : Int) = ((0 : Nat) : Int) := u64_nat 0 (by omega)
        have hwD : IntKind.i64.wrap ((nm.size : Int) - ((0 : Nat) : Int)) = ((nm.size : Nat) : Int) := by rw [i64_id (by omega) (by omega)]; omega
        have hwD2 : IntKind.u64.wrap ((nm.size : Nat) : Int) = ((nm.size : Nat) : Int) := u64_nat nm.size (by omega)
        have hSn : 0 ≤ nm.size := by omega
        have hES : (nm.extract 0 nm.size).size = nm.size := by simp
        have HRow : Hid (xs ++ put7 0 ++ put7 nm.size ++ put7 vl.size ++ numsOf (nm.extract 0 nm.size) ++ numsOf vl = bodyAt (nn ps) (k + 1)) := Lib.hid (by
          rw [HBS.out, HSame.out, HNm.out, HVl.out, rowOf, numsOf_length, numsOf_length, numsOf_extract, List.take_of_length_le (by rw [List.length_drop, numsOf_length]; exact Nat.le_refl _)]
          simp only [List.append_assoc, Nat.sub_zero])
        clear hxs
        go_wp2_with fail
        refine (put_any 0 (by omega) (.slice Ab nb cb) xs w _ HS5.out.want_ HS5.out.bel (by omega)).mono ?_
        rintro e w8 ⟨v8, rfl, hA⟩
        have HS6 := Lib.hid (HS5.out.next hA)
        have hc0 := HS6.out.c0
        clear hA HS5
        go_wp2_with fail
        refine (put_any nm.size (by omega) v8 (xs ++ put7 0) w _ HS6.out.want_ HS6.out.bel (by rw [List.length_append]; omega)).mono ?_
        rintro e w9 ⟨v9, rfl, hA⟩
        have HS7 := Lib.hid (HS6.out.next hA)
        have hc1 := HS7.out.c1
        clear hA HS6 hc0
        go_wp2_with fail
        refine (put_any vl.size (by omega) v9 (xs ++ put7 0 ++ put7 nm.size) w _ HS7.out.want_ HS7.out.bel (by rw [List.length_append, List.length_append]; omega)).mono ?_
        rintro e w10 ⟨v10, rfl, hA⟩
        have HS8 := Lib.hid (HS7.out.next hA)
        clear hA HS7 hc1
        have hl5 : (xs ++ put7 0 ++ put7 nm.size ++ put7 vl.size).length ≤ 262144 + 30 := by
          simp only [List.length_append]
          omega
        generalize xs ++ put7 0 ++ put7 nm.size ++ put7 vl.size = xs5 at HS8 HRow hl5
        have HJ0 := Lib.hid (app_start HS8.out.want_ HS8.out.bel (below_drew (Below.refl _ _)) : AppB w w10 w10.drew v10 v10 xs5)
        have HI0 := Lib.hid (HS8.out.below (below_drew (Below.refl _ _))).keeps
        have HG := Lib.hid (mk_lt HS8.out.box)
        go_upto_region 26 with fail
        refine draws_ (Keeps w B (.cells #[.string nm, .string vl] 30 (0, 0))) (fun w' => AppB w w10 w' v10 v10 xs5) (by kernel_rfl) reg_3_26 rfl keeps_below app_st HI0.out HJ0.out ?_
        refine w_move (.inl rfl) (fun vs w hK => ⟨wants_none rfl, rho_out rfl rfl⟩) ?_
        refine w_val [(9, _)] _ (fun vs w hK => ⟨wants_none rfl, rho_out rfl rfl, trivial⟩) rfl (fun wq hI => by simp only [execOp, Option.map_some, Option.map_none, lk_tmp, lk_const, lkT_cons, ↓reduceIte, Nat.reduceEqDiff]; go_simp; (first | done | rfl)) ?_
        refine w_val [(105, _)] (_) (fun vs w hK => ⟨wants_none rfl, rho_in rfl (fv (hK 1 (memE rfl))), trivial⟩) rfl (fun wq hI => by exact run_load_cell (ad := ⟨B, 0, none⟩) (v := .string nm) rfl rfl rfl Try.underlying9 rfl (by simp [World.cell?, hI.at_])) ?_
        refine w_move (.inl rfl) (fun vs w hK => ⟨wants_none rfl, rho_out rfl rfl⟩) ?_
        refine w_val [(106, _), (107, _)] (_) (fun vs w hK => ⟨wants_none rfl, rho_in rfl (fv (hK 2 (memE rfl))), rho_in rfl (fv (hK 3 (memE rfl))), trivial⟩) rfl (fun wq hI => by exact op_cut_from (a := 0) rfl Try.underlying9 rfl rfl rfl hSn rfl) ?_
        refine w_lin (FW.app .u8 5 w w10 v10 (xs5 ++ numsOf (nm.extract 0 nm.size))) (by decide) (fun vs wq hI hJ hK => ?_) ?_
        · have hA := hJ (by decide) (by decide)
          obtain ⟨v1, w1, hrun, hA1⟩ := gr_run_str tb rfl Try.underlying9 25 (nm.extract 0 nm.size) hA.own hA.bel.size (by rw [hES]; omega)
          have hA2 := app_of_run hA hA1
          exact ob_run [(104, _), (108, _)] (wants_none rfl) ⟨rho_in rfl (fv (hK 0 (memE rfl))), rho_in rfl (fv (hK 4 (memE rfl))), trivial⟩ rfl (run_append_op rfl rfl rfl hrun) ⟨keeps_fr hI hA2.bel hA1.fr (app_ne hA HG.out HS8.out.nb), hA2⟩
        refine w_val [(9, _)] _ (fun vs w hK => ⟨wants_none rfl, rho_out rfl rfl, trivial⟩) rfl (fun wq hI => by simp only [execOp, Option.map_some, Option.map_none, lk_tmp, lk_const, lkT_cons, ↓reduceIte, Nat.reduceEqDiff]; go_simp; (first | done | rfl)) ?_
        refine w_val [(110, _)] (_) (fun vs w hK => ⟨wants_none rfl, rho_in rfl (fv (hK 6 (memE rfl))), trivial⟩) rfl (fun wq hI => by exact run_load_cell (ad := ⟨B, 1, none⟩) (v := .string vl) rfl rfl rfl Try.underlying9 rfl (by simp [World.cell?, hI.at_])) ?_
        refine w_lin (FW.app .u8 5 w w10 v10 (xs5 ++ numsOf (nm.extract 0 nm.size) ++ numsOf vl)) (by decide) (fun vs wq hI hJ hK => ?_) ?_
        · have hA : AppB w w10 wq v10 (vs 5) (xs5 ++ numsOf (nm.extract 0 nm.size)) := hK 5 (memE rfl)
          obtain ⟨v1, w1, hrun, hA1⟩ := gr_run_str tb rfl Try.underlying9 25 vl hA.own hA.bel.size (by rw [List.length_append, numsOf_length, hES]; omega)
          have hA2 := app_of_run hA hA1
          exact ob_run [(109, _), (111, _)] (wants_none rfl) ⟨rho_in rfl rfl, rho_in rfl (fv (hK 7 (memE rfl))), trivial⟩ rfl (run_append_op rfl rfl rfl hrun) ⟨keeps_fr hI hA2.bel hA1.fr (app_ne hA HG.out HS8.out.nb), hA2⟩
        refine w_lin (FW.app .u8 5 w w10 v10 (xs5 ++ numsOf (nm.extract 0 nm.size) ++ numsOf vl)) (by decide) (fun vs wq hI hJ hK => ?_) ?_
        · exact ob_copy (.inr rfl) (wants_none rfl) (rho_in rfl rfl) ⟨hI, hK 8 (memE rfl)⟩
        refine w_end rfl rfl rfl (fun vs wq hI hF => ?_)
        simp only [List.reverse_cons, List.reverse_nil, List.nil_append, List.cons_append, finL_val, finL_of, finL_any, finL_app, finL_new, finL_gr, finL_row, finL_box, finL_nil, Act.put, List.setIfInBounds_toArray, List.set_cons_zero, List.set_cons_succ, Nat.reduceAdd]
        have hfin : AppB w w10 wq v10 (vs 9) (xs5 ++ numsOf (nm.extract 0 nm.size) ++ numsOf vl) := hF 9 (by decide) rfl
        rw [HRow.out] at hfin
        have HT9 := Lib.hid (HS8.out.next hfin).mkt
        clear hfin hF hI HS8 HJ0 HI0 HG HRow
        go_wp2_with fail
        go_roundw
        case rel => exact ⟨k + 1, by omega, by go_num, by rw [cnt_succ, if_pos HE.out]; go_num, Lib.hid (good_succ HGood.out HOrd.out (HFIT.out k (by rw [nn_length, HLEN.out]; exact HK.out))), HT9⟩
        case measure => simp [intOf]; omega
      · have t2 : decide ((0 : Int) < (k : Int)) = true := decide_eq_true (by omega)
        have t3 : decide (0 < k) = true := decide_eq_true (by omega)
        obtain ⟨k0, hk1⟩ : ∃ k0, k = k0 + 1 := ⟨k - 1, by omega⟩
        have hcl := HPrev4.out k0 hk1
        have hwk : IntKind.i64.wrap ((k : Int) - 1) = ((k0 : Nat) : Int) := by rw [i64_id (by omega) (by omega)]; omega
        have hlt0 : k0 < n := by omega
        obtain ⟨O, hO⟩ : ∃ O, decide (¬ Ord (nn ps) k) = O := ⟨_, rfl⟩
        have hob := ord_bool (nn ps) k la nm HLast.out HNm.out
        rw [hO, t2, Bool.true_and] at hob
        have HOB := Lib.hid hob
        have HO := Lib.hid hO
        clear hob hO hk1 hk0 HPrev4
        go_upto_region 15 with (first | (refine wpList_index_st rfl 22 _ _ rfl sts22 rfl rfl rfl hlt0 ?_))
        clear hcl hwk
        refine plain_ (fun wq => Below w4.heap.size w4 wq) (fun _ => True) reg_3_15 rfl inv0 (fun _ _ _ _ => trivial) (Below.refl _ _) trivial ?_
        refine w_val [(9, _)] _ (fun vs w hK => ⟨wants_none rfl, rho_out rfl rfl, trivial⟩) rfl (fun wq hI => by simp only [execOp, Option.map_some, Option.map_none, lk_tmp, lk_const, lkT_cons, ↓reduceIte, Nat.reduceEqDiff]; go_simp; (first | done | rfl)) ?_
        refine w_val [(40, _)] (_) (fun vs w hK => ⟨wants_none rfl, rho_in rfl (fv (hK 0 (memE rfl))), trivial⟩) rfl (fun wq hI => by exact run_load_cell (ad := ⟨B, 0, none⟩) (v := .string nm) rfl rfl rfl Try.underlying9 rfl (below_cell hI HS.out.c0)) ?_
        refine w_move (.inl rfl) (fun vs w hK => ⟨wants_none rfl, rho_out rfl rfl⟩) ?_
        refine w_val [(41, _), (42, _)] (_) (fun vs w hK => ⟨wants_none rfl, rho_in rfl (fv (hK 1 (memE rfl))), rho_in rfl (fv (hK 2 (memE rfl))), trivial⟩) rfl (fun wq hI => by exact op_str_leq (r := O) rfl rfl rfl HOB.out) ?_
        refine w_end rfl rfl rfl (fun vs wq hI hF => ?_)
        simp only [List.reverse_cons, List.reverse_nil, List.nil_append, List.cons_append, finL_val, finL_of, finL_any, finL_app, finL_new, finL_gr, finL_row, finL_box, finL_nil, Act.put, List.setIfInBounds_toArray, List.set_cons_zero, List.set_cons_succ, Nat.reduceAdd]
        have HS4 := Lib.hid (HS.out.below hI)
        clear hI hF HS HOB
        obtain ⟨w5, rfl⟩ : ∃ w5 : World, w5 = wq := ⟨_, rfl⟩
        cases O with
        | true =>
          have hno : ¬ Ord (nn ps) k := of_decide_eq_true HO.out
          have hbad : ex = 1 ∧ gx = [] := by
            rcases HTD.out with ⟨_, h1, _⟩ | ⟨h1, h2, _⟩
            · exact absurd (h1 k (by rw [nn_length, HLEN.out]; exact HK.out)).1 hno
            · exact ⟨h1, h2⟩
          obtain ⟨rfl, rfl⟩ := hbad
          obtain rfl : ng = 0 := HLG.out.symm
          have HBL := Lib.hid HS4.out.bel
          clear HTD HGR HLG H0 HS4 hno HO
          go_wp2_with fail
          go_ret
          exact ⟨rfl, HBL.out⟩
        | false =>
        have HOrd : Hid (Ord (nn ps) k) := Lib.hid (Decidable.of_not_not (of_decide_eq_false HO.out))
        clear HO
        have hml : cmn (numsOf la) (numsOf nm) ≤ nm.size := by rw [← numsOf_length]; exact cmn_right _ _
        have hml2 : cmn (numsOf la) (numsOf nm) ≤ la.size := by rw [← numsOf_length]; exact cmn_left _ _
        have HFB := Lib.hid (fun s h X hX => front_bool la nm s h X hX)
        have HSM : Hid (¬ k % 8 = 0 → sameAt (nn ps) k = cmn (numsOf la) (numsOf nm)) := Lib.hid (fun h => by unfold sameAt; rw [if_neg h, HLast.out, HNm.out])
        generalize cmn (numsOf la) (numsOf nm) = S at hml hml2 HFB HSM
        go_wp2_with fail
        go_loopw [10] (fun sm wr2 => ∃ s : Nat, s ≤ S ∧ sm = .int .i64 s ∧ Hid (MkS w B nm vl (.slice Ab nb cb) u6 (.slice Ag ng cg) (bodyAt (nn ps) k) (wholeAt (nn ps) k) gx wr2)) (fun sm _ => S + 1 - (intOf sm).toNat)
        case atStart => exact ⟨0, by omega, rfl, HS4⟩
        case round =>
          obtain ⟨s, hss, rfl, HI2⟩ := hrel
          obtain ⟨D, hD⟩ : ∃ D, decide (s < S) = D := ⟨_, rfl⟩
          have hfb := HFB.out s hss _ (fun _ _ => rfl)
          rw [hD] at hfb
          have HD := Lib.hid hfb
          have HDD := Lib.hid hD
          clear hfb hD
          go_upto_region 17 with fail
          refine draws_ (fun wq => Below wr.heap.size wr wq) (fun _ => True) (by kernel_rfl) reg_3_17 rfl inv0 (fun _ _ _ _ => trivial) (below_drew (Below.refl _ _)) trivial ?_
          refine w_move (.inl rfl) (fun vs w hK => ⟨wants_none rfl, rho_out rfl rfl⟩) ?_
          refine w_move (.inl rfl) (fun vs w hK => ⟨wants_none rfl, rho_out rfl rfl⟩) ?_
          refine w_val [(52, _)] (_) (fun vs w hK => ⟨wants_none rfl, rho_in rfl (fv (hK 1 (memE rfl))), trivial⟩) rfl (fun wq hI => by exact run_len_str rfl Try.underlying9 rfl rfl) ?_
          refine w_val [(51, _), (53, _)] (_) (fun vs w hK => ⟨wants_none rfl, rho_in rfl (fv (hK 0 (memE rfl))), rho_in rfl (fv (hK 2 (memE rfl))), trivial⟩) rfl (fun wq hI => by exact run_int_lss rfl rfl rfl rfl) ?_
          refine w_move (.inl rfl) (fun vs w hK => ⟨wants_none rfl, rho_in rfl (fv (hK 3 (memE rfl)))⟩) ?_
          refine w_moveG (.inl rfl) (fun vs w hK => wantsT rfl (fv (hK 4 (memE rfl)))) (fun hG vs w hK => (rho_out rfl rfl)) ?_
          refine w_valG [(9, _)] (_) (fun vs w hK => wantsT rfl (fv (hK 4 (memE rfl)))) (fun hG vs w hK => ⟨(rho_out rfl rfl), trivial⟩) rfl (fun hG wq hI => by simp only [execOp, Option.map_some, Option.map_none, lk_tmp, lk_const, lkT_cons, ↓reduceIte, Nat.reduceEqDiff]; go_simp; (first | done | rfl)) ?_
          refine w_valG [(57, _)] (_) (fun vs w hK => wantsT rfl (fv (hK 4 (memE rfl)))) (fun hG vs w hK => ⟨(rho_in rfl (fvg (hK 6 (memE rfl)) hG)), trivial⟩) rfl (fun hG wq hI => by exact run_load_cell (ad := ⟨B, 0, none⟩) (v := .string nm) rfl rfl rfl Try.underlying9 rfl (below_cell hI HI2.out.c0)) ?_
          refine w_valG [(58, _)] (_) (fun vs w hK => wantsT rfl (fv (hK 4 (memE rfl)))) (fun hG vs w hK => ⟨(rho_in rfl (fvg (hK 7 (memE rfl)) hG)), trivial⟩) rfl (fun hG wq hI => by exact run_len_str rfl Try.underlying9 rfl rfl) ?_
          refine w_valG [(56, _), (59, _)] (_) (fun vs w hK => wantsT rfl (fv (hK 4 (memE rfl)))) (fun hG vs w hK => ⟨(rho_in rfl (fvg (hK 5 (memE rfl)) hG)), (rho_in rfl (fvg (hK 8 (memE rfl)) hG)), trivial⟩) rfl (fun hG wq hI => by exact run_int_lss rfl rfl rfl rfl) ?_
          refine w_and rfl (fun vs w hK => wants_none rfl) (fun vs w hK => (rho_in rfl (fv (hK 4 (memE rfl))))) (fun hB vs w hK => (rho_in rfl (fvg (hK 9 (memE rfl)) hB))) ?_
          refine w_move (.inl rfl) (fun vs w hK => ⟨wants_none rfl, rho_in rfl (fv (hK 10 (memE rfl)))⟩) ?_
          refine w_moveG (.inl rfl) (fun vs w hK => wantsT rfl (fv (hK 11 (memE rfl)))) (fun hG vs w hK => (rho_out rfl rfl)) ?_
          refine w_moveG (.inl rfl) (fun vs w hK => wantsT rfl (fv (hK 11 (memE rfl)))) (fun hG vs w hK => (rho_out rfl rfl)) ?_
          refine w_valG [(64, _)] (_) (fun vs w hK => wantsT rfl (fv (hK 11 (memE rfl)))) (fun hG vs w hK => ⟨(rho_in rfl (fvg (hK 13 (memE rfl)) hG)), trivial⟩) rfl (fun hG wq hI => by exact run_int_add (c := ((s + 1 : Nat) : Int)) rfl rfl rfl (by rw [i64_id (by omega) (by omega)]; omega)) ?_
          refine w_valG [(63, _), (65, _)] (_) (fun vs w hK => wantsT rfl (fv (hK 11 (memE rfl)))) (fun hG vs w hK => ⟨(rho_in rfl (fvg (hK 12 (memE rfl)) hG)), (rho_in rfl (fvg (hK 14 (memE rfl)) hG)), trivial⟩) rfl (fun hG wq hI => by exact op_cut_to (b := s + 1) rfl Try.underlying9 rfl rfl rfl (by have h := hG; simp only [Bool.and_eq_true, decide_eq_true_eq] at h; omega) rfl) ?_
          refine w_valG [(9, _)] (_) (fun vs w hK => wantsT rfl (fv (hK 11 (memE rfl)))) (fun hG vs w hK => ⟨(rho_out rfl rfl), trivial⟩) rfl (fun hG wq hI => by simp only [execOp, Option.map_some, Option.map_none, lk_tmp, lk_const, lkT_cons, ↓reduceIte, Nat.reduceEqDiff]; go_simp; (first | done | rfl)) ?_
          refine w_valG [(67, _)] (_) (fun vs w hK => wantsT rfl (fv (hK 11 (memE rfl)))) (fun hG vs w hK => ⟨(rho_in rfl (fvg (hK 16 (memE rfl)) hG)), trivial⟩) rfl (fun hG wq hI => by exact run_load_cell (ad := ⟨B, 0, none⟩) (v := .string nm) rfl rfl rfl Try.underlying9 rfl (below_cell hI HI2.out.c0)) ?_
          refine w_moveG (.inl rfl) (fun vs w hK => wantsT rfl (fv (hK 11 (memE rfl)))) (fun hG vs w hK => (rho_out rfl rfl)) ?_
          refine w_valG [(69, _)] (_) (fun vs w hK => wantsT rfl (fv (hK 11 (memE rfl)))) (fun hG vs w hK => ⟨(rho_in rfl (fvg (hK 18 (memE rfl)) hG)), trivial⟩) rfl (fun hG wq hI => by exact run_int_add (c := ((s + 1 : Nat) : Int)) rfl rfl rfl (by rw [i64_id (by omega) (by omega)]; omega)) ?_
          refine w_valG [(68, _), (70, _)] (_) (fun vs w hK => wantsT rfl (fv (hK 11 (memE rfl)))) (fun hG vs w hK => ⟨(rho_in rfl (fvg (hK 17 (memE rfl)) hG)), (rho_in rfl (fvg (hK 19 (memE rfl)) hG)), trivial⟩) rfl (fun hG wq hI => by exact op_cut_to (b := s + 1) rfl Try.underlying9 rfl rfl rfl (by have h := hG; simp only [Bool.and_eq_true, decide_eq_true_eq] at h; omega) rfl) ?_
          refine w_valG [(66, _), (71, _)] (_) (fun vs w hK => wantsT rfl (fv (hK 11 (memE rfl)))) (fun hG vs w hK => ⟨(rho_in rfl (fvg (hK 15 (memE rfl)) hG)), (rho_in rfl (fvg (hK 20 (memE rfl)) hG)), trivial⟩) rfl (fun hG wq hI => by exact op_str_eql rfl rfl rfl rfl) ?_
          refine w_and rfl (fun vs w hK => wants_none rfl) (fun vs w hK => (rho_in rfl (fv (hK 11 (memE rfl))))) (fun hB vs w hK => (rho_in rfl (fvg (hK 21 (memE rfl)) hB))) ?_
          refine w_as (c' := .bool D) (congrArg Value.bool HD.out) ?_
          refine w_endM [false, false, false, false, false, false, false, false, false, false, false, false, false, false, false, false, false, false, false, false, false, false, true] rfl rfl rfl (fun vs wq hI hF => ?_)
          simp only [List.reverse_cons, List.reverse_nil, List.nil_append, List.cons_append, finL_val, finL_of, finL_any, finL_app, finL_new, finL_gr, finL_row, finL_box, finL_nil, Act.put, List.setIfInBounds_toArray, List.set_cons_zero, List.set_cons_succ, Nat.reduceAdd, maskF, finL_imp, Bool.not_false, Bool.not_true, Bool.true_and, Bool.false_and]
          have HI3 := Lib.hid (HI2.out.below hI)
          clear hI hF HI2 HD
          obtain ⟨w5, rfl⟩ : ∃ w5 : World, w5 = wq := ⟨_, rfl⟩
          cases D with
          | true =>
            have hlt2 : s < S := of_decide_eq_true HDD.out
            go_wp2_with fail
            go_roundw
            case rel => exact ⟨s + 1, by omega, by go_num, HI3⟩
            case measure => simp [intOf]; omega
          | false =>
            have hge2 : ¬ s < S := of_decide_eq_false HDD.out
            obtain rfl : s = S := by omega
            clear hge2 HDD HS4 HFB
            obtain ⟨E, hE⟩ : ∃ E, decide (k % 8 = 0) = E := ⟨_, rfl⟩
            have HE1 : Hid ((((k % 8 : Nat) : Int) == 0) = E) := Lib.hid (by
              rw [← hE]
              by_cases h : k % 8 = 0
              · rw [h]; rfl
              · rw [decide_eq_false h]; simp only [beq_eq_false_iff_ne]; omega)
            have HE2 := Lib.hid hE
            clear hE
            go_upto_region 19 with fail
            refine plain_ (fun wq => Below w5.heap.size w5 wq) (fun _ => True) reg_3_19 rfl inv0 (fun _ _ _ _ => trivial) (Below.refl _ _) trivial ?_
            refine w_move (.inl rfl) (fun vs w hK => ⟨wants_none rfl, rho_out rfl rfl⟩) ?_
            refine w_val [(76, _)] (_) (fun vs w hK => ⟨wants_none rfl, rho_in rfl (fv (hK 0 (memE rfl))), trivial⟩) rfl (fun wq hI => by exact op_rem rfl rfl rfl (by decide) (rem_nat k 8)) ?_
            refine w_val [(77, _)] (_) (fun vs w hK => ⟨wants_none rfl, rho_in rfl (fv (hK 1 (memE rfl))), trivial⟩) rfl (fun wq hI => by exact run_int_eql (r := E) rfl rfl rfl HE1.out) ?_
            refine w_end rfl rfl rfl (fun vs wq hI hF => ?_)
            simp only [List.reverse_cons, List.reverse_nil, List.nil_append, List.cons_append, finL_val, finL_of, finL_any, finL_app, finL_new, finL_gr, finL_row, finL_box, finL_nil, Act.put, List.setIfInBounds_toArray, List.set_cons_zero, List.set_cons_succ, Nat.reduceAdd]
            have HS4 := Lib.hid (HI3.out.below hI)
            clear hI hF HI3 HE1
            obtain ⟨w6, rfl⟩ : ∃ w6 : World, w6 = wq := ⟨_, rfl⟩
            cases E with
            | true =>
              have HE : Hid (k % 8 = 0) := Lib.hid (of_decide_eq_true HE2.out)
              clear HE2 HSM
              have HSame : Hid (sameAt (nn ps) k = 0) := Lib.hid (by unfold sameAt; rw [if_pos HE.out])
              go_wp2_with fail
              refine (putLittle_any nb 4 (by omega) u6 (wholeAt (nn ps) k) w _ HS4.out.pl_ HS4.out.bel (by omega)).mono ?_
              rintro e w7 ⟨v7, rfl, hA⟩
              have hwe : wholeAt (nn ps) k ++ le nb (min (4 : Int).toNat 8) = wholeAt (nn ps) (k + 1) := by
                rw [HWS.out, if_pos HE.out, hnb]
                rfl
              have HS5 : Hid (MkS w B nm vl (.slice Ab nb cb) v7 (.slice Ag ng cg) (bodyAt (nn ps) k) (wholeAt (nn ps) (k + 1)) gx w7) := Lib.hid (hwe ▸ HS4.out.next_pl hA)
              clear hA hwe HS4
              generalize hxs : bodyAt (nn ps) k = xs at HS5 hnb hbf HBS
              have h10 := put7_len10 (n := 0) (by omega)
              have h11 := put7_len10 (n := nm.size) (by omega)
              have h12 := put7_len10 (n := vl.size) (by omega)
              have hwS : IntKind.u64.wrap ((0 : Nat) : Int) = ((0 : Nat) : Int) := u64_nat 0 (by omega)
              have hwD : IntKind.i64.wrap ((nm.size : Int) - ((0 : Nat) : Int)) = ((nm.size : Nat) : Int) := by rw [i64_id (by omega) (by omega)]; omega
              have hwD2 : IntKind.u64.wrap ((nm.size : Nat) : Int) = ((nm.size : Nat) : Int) := u64_nat nm.size (by omega)
              have hSn : 0 ≤ nm.size := by omega
              have hES : (nm.extract 0 nm.size).size = nm.size := by simp
              have HRow : Hid (xs ++ put7 0 ++ put7 nm.size ++ put7 vl.size ++ numsOf (nm.extract 0 nm.size) ++ numsOf vl = bodyAt (nn ps) (k + 1)) := Lib.hid (by
                rw [HBS.out, HSame.out, HNm.out, HVl.out, rowOf, numsOf_length, numsOf_length, numsOf_extract, List.take_of_length_le (by rw [List.length_drop, numsOf_length]; exact Nat.le_refl _)]
                simp only [List.append_assoc, Nat.sub_zero])
              clear hxs
              go_wp2_with fail
              refine (put_any 0 (by omega) (.slice Ab nb cb) xs w _ HS5.out.want_ HS5.out.bel (by omega)).mono ?_
              rintro e w8 ⟨v8, rfl, hA⟩
              have HS6 := Lib.hid (HS5.out.next hA)
              have hc0 := HS6.out.c0
              clear hA HS5
              go_wp2_with fail
              refine (put_any nm.size (by omega) v8 (xs ++ put7 0) w _ HS6.out.want_ HS6.out.bel (by rw [List.length_append]; omega)).mono ?_
              rintro e w9 ⟨v9, rfl, hA⟩
              have HS7 := Lib.hid (HS6.out.next hA)
              have hc1 := HS7.out.c1
              clear hA HS6 hc0
              go_wp2_with fail
              refine (put_any vl.size (by omega) v9 (xs ++ put7 0 ++ put7 nm.size) w _ HS7.out.want_ HS7.out.bel (by rw [List.length_append, List.length_append]; omega)).mono ?_
              rintro e w10 ⟨v10, rfl, hA⟩
              have HS8 := Lib.hid (HS7.out.next hA)
              clear hA HS7 hc1
              have hl5 : (xs ++ put7 0 ++ put7 nm.size ++ put7 vl.size).length ≤ 262144 + 30 := by
                simp only [List.length_append]
                omega
              generalize xs ++ put7 0 ++ put7 nm.size ++ put7 vl.size = xs5 at HS8 HRow hl5
              have HJ0 := Lib.hid (app_start HS8.out.want_ HS8.out.bel (below_drew (Below.refl _ _)) : AppB w w10 w10.drew v10 v10 xs5)
              have HI0 := Lib.hid (HS8.out.below (below_drew (Below.refl _ _))).keeps
              have HG := Lib.hid (mk_lt HS8.out.box)
              go_upto_region 26 with fail
              refine draws_ (Keeps w B (.cells #[.string nm, .string vl] 30 (0, 0))) (fun w' => AppB w w10 w' v10 v10 xs5) (by kernel_rfl) reg_3_26 rfl keeps_below app_st HI0.out HJ0.out ?_
              refine w_move (.inl rfl) (fun vs w hK => ⟨wants_none rfl, rho_out rfl rfl⟩) ?_
              refine w_val [(9, _)] _ (fun vs w hK => ⟨wants_none rfl, rho_out rfl rfl, trivial⟩) rfl (fun wq hI => by simp only [execOp, Option.map_some, Option.map_none, lk_tmp, lk_const, lkT_cons, ↓reduceIte, Nat.reduceEqDiff]; go_simp; (first | done | rfl)) ?_
              refine w_val [(105, _)] (_) (fun vs w hK => ⟨wants_none rfl, rho_in rfl (fv (hK 1 (memE rfl))), trivial⟩) rfl (fun wq hI => by exact run_load_cell (ad := ⟨B, 0, none⟩) (v := .string nm) rfl rfl rfl Try.underlying9 rfl (by simp [World.cell?, hI.at_])) ?_
              refine w_move (.inl rfl) (fun vs w hK => ⟨wants_none rfl, rho_out rfl rfl⟩) ?_
              refine w_val [(106, _), (107, _)] (_) (fun vs w hK => ⟨wants_none rfl, rho_in rfl (fv (hK 2 (memE rfl))), rho_in rfl (fv (hK 3 (memE rfl))), trivial⟩) rfl (fun wq hI => by exact op_cut_from (a := 0) rfl Try.underlying9 rfl rfl rfl hSn rfl) ?_
              refine w_lin (FW.app .u8 5 w w10 v10 (xs5 ++ numsOf (nm.extract 0 nm.size))) (by decide) (fun vs wq hI hJ hK => ?_) ?_
              · have hA := hJ (by decide) (by decide)
                obtain ⟨v1, w1, hrun, hA1⟩ := gr_run_str tb rfl Try.underlying9 25 (nm.extract 0 nm.size) hA.own hA.bel.size (by rw [hES]; omega)
                have hA2 := app_of_run hA hA1
                exact ob_run [(104, _), (108, _)] (wants_none rfl) ⟨rho_in rfl (fv (hK 0 (memE rfl))), rho_in rfl (fv (hK 4 (memE rfl))), trivial⟩ rfl (run_append_op rfl rfl rfl hrun) ⟨keeps_fr hI hA2.bel hA1.fr (app_ne hA HG.out HS8.out.nb), hA2⟩
              refine w_val [(9, _)] _ (fun vs w hK => ⟨wants_none rfl, rho_out rfl rfl, trivial⟩) rfl (fun wq hI => by simp only [execOp, Option.map_some, Option.map_none, lk_tmp, lk_const, lkT_cons, ↓reduceIte, Nat.reduceEqDiff]; go_simp; (first | done | rfl)) ?_
              refine w_val [(110, _)] (_) (fun vs w hK => ⟨wants_none rfl, rho_in rfl (fv (hK 6 (memE rfl))), trivial⟩) rfl (fun wq hI => by exact run_load_cell (ad := ⟨B, 1, none⟩) (v := .string vl) rfl rfl rfl Try.underlying9 rfl (by simp [World.cell?, hI.at_])) ?_
              refine w_lin (FW.app .u8 5 w w10 v10 (xs5 ++ numsOf (nm.extract 0 nm.size) ++ numsOf vl)) (by decide) (fun vs wq hI hJ hK => ?_) ?_
              · have hA : AppB w w10 wq v10 (vs 5) (xs5 ++ numsOf (nm.extract 0 nm.size)) := hK 5 (memE rfl)
                obtain ⟨v1, w1, hrun, hA1⟩ := gr_run_str tb rfl Try.underlying9 25 vl hA.own hA.bel.size (by rw [List.length_append, numsOf_length, hES]; omega)
                have hA2 := app_of_run hA hA1
                exact ob_run [(109, _), (111, _)] (wants_none rfl) ⟨rho_in rfl rfl, rho_in rfl (fv (hK 7 (memE rfl))), trivial⟩ rfl (run_append_op rfl rfl rfl hrun) ⟨keeps_fr hI hA2.bel hA1.fr (app_ne hA HG.out HS8.out.nb), hA2⟩
              refine w_lin (FW.app .u8 5 w w10 v10 (xs5 ++ numsOf (nm.extract 0 nm.size) ++ numsOf vl)) (by decide) (fun vs wq hI hJ hK => ?_) ?_
              · exact ob_copy (.inr rfl) (wants_none rfl) (rho_in rfl rfl) ⟨hI, hK 8 (memE rfl)⟩
              refine w_end rfl rfl rfl (fun vs wq hI hF => ?_)
              simp only [List.reverse_cons, List.reverse_nil, List.nil_append, List.cons_append, finL_val, finL_of, finL_any, finL_app, finL_new, finL_gr, finL_row, finL_box, finL_nil, Act.put, List.setIfInBounds_toArray, List.set_cons_zero, List.set_cons_succ, Nat.reduceAdd]
              have hfin : AppB w w10 wq v10 (vs 9) (xs5 ++ numsOf (nm.extract 0 nm.size) ++ numsOf vl) := hF 9 (by decide) rfl
              rw [HRow.out] at hfin
              have HT9 := Lib.hid (HS8.out.next hfin).mkt
              clear hfin hF hI HS8 HJ0 HI0 HG HRow
              go_wp2_with fail
              go_roundw
              case rel => exact ⟨k + 1, by omega, by go_num, by rw [cnt_succ, if_pos HE.out]; go_num, Lib.hid (good_succ HGood.out HOrd.out (HFIT.out k (by rw [nn_length, HLEN.out]; exact HK.out))), HT9⟩
              case measure => simp [intOf]; omega
            | false =>
              have HE : Hid (¬ k % 8 = 0) := Lib.hid (of_decide_eq_false HE2.out)
              have HSame : Hid (sameAt (nn ps) k = s) := Lib.hid (HSM.out HE.out)
              clear HE2 HSM
              have HS5 : Hid (MkS w B nm vl (.slice Ab nb cb) u6 (.slice Ag ng cg) (bodyAt (nn ps) k) (wholeAt (nn ps) (k + 1)) gx w6) := Lib.hid (by rw [HWS.out, if_neg HE.out]; exact HS4.out)
              generalize hxs : bodyAt (nn ps) k = xs at HS5 hnb hbf HBS
              have h10 := put7_len10 (n := s) (by omega)
              have h11 := put7_len10 (n := (nm.size - s)) (by omega)
              have h12 := put7_len10 (n := vl.size) (by omega)
              have hwS : IntKind.u64.wrap ((s : Nat) : Int) = ((s : Nat) : Int) := u64_nat s (by omega)
              have hwD : IntKind.i64.wrap ((nm.size : Int) - ((s : Nat) : Int)) = (((nm.size - s) : Nat) : Int) := by rw [i64_id (by omega) (by omega)]; omega
              have hwD2 : IntKind.u64.wrap (((nm.size - s) : Nat) : Int) = (((nm.size - s) : Nat) : Int) := u64_nat (nm.size - s) (by omega)
              have hSn : s ≤ nm.size := by omega
              have hES : (nm.extract s nm.size).size = (nm.size - s) := by simp
              have HRow : Hid (xs ++ put7 s ++ put7 (nm.size - s) ++ put7 vl.size ++ numsOf (nm.extract s nm.size) ++ numsOf vl = bodyAt (nn ps) (k + 1)) := Lib.hid (by
                rw [HBS.out, HSame.out, HNm.out, HVl.out, rowOf, numsOf_length, numsOf_length, numsOf_extract, List.take_of_length_le (by rw [List.length_drop, numsOf_length]; exact Nat.le_refl _)]
                simp only [List.append_assoc, Nat.sub_zero])
              clear hxs
              go_wp2_with fail
              refine (put_any s (by omega) (.slice Ab nb cb) xs w _ HS5.out.want_ HS5.out.bel (by omega)).mono ?_
              rintro e w8 ⟨v8, rfl, hA⟩
              have HS6 := Lib.hid (HS5.out.next hA)
              have hc0 := HS6.out.c0
              clear hA HS5
              go_wp2_with fail
              refine (put_any (nm.size - s) (by omega) v8 (xs ++ put7 s) w _ HS6.out.want_ HS6.out.bel (by rw [List.length_append]; omega)).mono ?_
              rintro e w9 ⟨v9, rfl, hA⟩
              have HS7 := Lib.hid (HS6.out.next hA)
              have hc1 := HS7.out.c1
              clear hA HS6 hc0
              go_wp2_with fail
              refine (put_any vl.size (by omega) v9 (xs ++ put7 s ++ put7 (nm.size - s)) w _ HS7.out.want_ HS7.out.bel (by rw [List.length_append, List.length_append]; omega)).mono ?_
              rintro e w10 ⟨v10, rfl, hA⟩
              have HS8 := Lib.hid (HS7.out.next hA)
              clear hA HS7 hc1
              have hl5 : (xs ++ put7 s ++ put7 (nm.size - s) ++ put7 vl.size).length ≤ 262144 + 30 := by
                simp only [List.length_append]
                omega
              generalize xs ++ put7 s ++ put7 (nm.size - s) ++ put7 vl.size = xs5 at HS8 HRow hl5
              have HJ0 := Lib.hid (app_start HS8.out.want_ HS8.out.bel (below_drew (Below.refl _ _)) : AppB w w10 w10.drew v10 v10 xs5)
              have HI0 := Lib.hid (HS8.out.below (below_drew (Below.refl _ _))).keeps
              have HG := Lib.hid (mk_lt HS8.out.box)
              go_upto_region 26 with fail
              refine draws_ (Keeps w B (.cells #[.string nm, .string vl] 30 (0, 0))) (fun w' => AppB w w10 w' v10 v10 xs5) (by kernel_rfl) reg_3_26 rfl keeps_below app_st HI0.out HJ0.out ?_
              refine w_move (.inl rfl) (fun vs w hK => ⟨wants_none rfl, rho_out rfl rfl⟩) ?_
              refine w_val [(9, _)] _ (fun vs w hK => ⟨wants_none rfl, rho_out rfl rfl, trivial⟩) rfl (fun wq hI => by simp only [execOp, Option.map_some, Option.map_none, lk_tmp, lk_const, lkT_cons, ↓reduceIte, Nat.reduceEqDiff]; go_simp; (first | done | rfl)) ?_
              refine w_val [(105, _)] (_) (fun vs w hK => ⟨wants_none rfl, rho_in rfl (fv (hK 1 (memE rfl))), trivial⟩) rfl (fun wq hI => by exact run_load_cell (ad := ⟨B, 0, none⟩) (v := .string nm) rfl rfl rfl Try.underlying9 rfl (by simp [World.cell?, hI.at_])) ?_
              refine w_move (.inl rfl) (fun vs w hK => ⟨wants_none rfl, rho_out rfl rfl⟩) ?_
              refine w_val [(106, _), (107, _)] (_) (fun vs w hK => ⟨wants_none rfl, rho_in rfl (fv (hK 2 (memE rfl))), rho_in rfl (fv (hK 3 (memE rfl))), trivial⟩) rfl (fun wq hI => by exact op_cut_from (a := s) rfl Try.underlying9 rfl rfl rfl hSn rfl) ?_
              refine w_lin (FW.app .u8 5 w w10 v10 (xs5 ++ numsOf (nm.extract s nm.size))) (by decide) (fun vs wq hI hJ hK => ?_) ?_
              · have hA := hJ (by decide) (by decide)
                obtain ⟨v1, w1, hrun, hA1⟩ := gr_run_str tb rfl Try.underlying9 25 (nm.extract s nm.size) hA.own hA.bel.size (by rw [hES]; omega)
                have hA2 := app_of_run hA hA1
                exact ob_run [(104, _), (108, _)] (wants_none rfl) ⟨rho_in rfl (fv (hK 0 (memE rfl))), rho_in rfl (fv (hK 4 (memE rfl))), trivial⟩ rfl (run_append_op rfl rfl rfl hrun) ⟨keeps_fr hI hA2.bel hA1.fr (app_ne hA HG.out HS8.out.nb), hA2⟩
              refine w_val [(9, _)] _ (fun vs w hK => ⟨wants_none rfl, rho_out rfl rfl, trivial⟩) rfl (fun wq hI => by simp only [execOp, Option.map_some, Option.map_none, lk_tmp, lk_const, lkT_cons, ↓reduceIte, Nat.reduceEqDiff]; go_simp; (first | done | rfl)) ?_
              refine w_val [(110, _)] (_) (fun vs w hK => ⟨wants_none rfl, rho_in rfl (fv (hK 6 (memE rfl))), trivial⟩) rfl (fun wq hI => by exact run_load_cell (ad := ⟨B, 1, none⟩) (v := .string vl) rfl rfl rfl Try.underlying9 rfl (by simp [World.cell?, hI.at_])) ?_
              refine w_lin (FW.app .u8 5 w w10 v10 (xs5 ++ numsOf (nm.extract s nm.size) ++ numsOf vl)) (by decide) (fun vs wq hI hJ hK => ?_) ?_
              · have hA : AppB w w10 wq v10 (vs 5) (xs5 ++ numsOf (nm.extract s nm.size)) := hK 5 (memE rfl)
                obtain ⟨v1, w1, hrun, hA1⟩ := gr_run_str tb rfl Try.underlying9 25 vl hA.own hA.bel.size (by rw [List.length_append, numsOf_length, hES]; omega)
                have hA2 := app_of_run hA hA1
                exact ob_run [(109, _), (111, _)] (wants_none rfl) ⟨rho_in rfl rfl, rho_in rfl (fv (hK 7 (memE rfl))), trivial⟩ rfl (run_append_op rfl rfl rfl hrun) ⟨keeps_fr hI hA2.bel hA1.fr (app_ne hA HG.out HS8.out.nb), hA2⟩
              refine w_lin (FW.app .u8 5 w w10 v10 (xs5 ++ numsOf (nm.extract s nm.size) ++ numsOf vl)) (by decide) (fun vs wq hI hJ hK => ?_) ?_
              · exact ob_copy (.inr rfl) (wants_none rfl) (rho_in rfl rfl) ⟨hI, hK 8 (memE rfl)⟩
              refine w_end rfl rfl rfl (fun vs wq hI hF => ?_)
              simp only [List.reverse_cons, List.reverse_nil, List.nil_append, List.cons_append, finL_val, finL_of, finL_any, finL_app, finL_new, finL_gr, finL_row, finL_box, finL_nil, Act.put, List.setIfInBounds_toArray, List.set_cons_zero, List.set_cons_succ, Nat.reduceAdd]
              have hfin : AppB w w10 wq v10 (vs 9) (xs5 ++ numsOf (nm.extract s nm.size) ++ numsOf vl) := hF 9 (by decide) rfl
              rw [HRow.out] at hfin
              have HT9 := Lib.hid (HS8.out.next hfin).mkt
              clear hfin hF hI HS8 HJ0 HI0 HG HRow
              go_wp2_with fail
              go_roundw
              case rel => exact ⟨k + 1, by omega, by go_num, by rw [cnt_succ, if_neg HE.out], Lib.hid (good_succ HGood.out HOrd.out (HFIT.out k (by rw [nn_length, HLEN.out]; exact HK.out))), HT9⟩
              case measure => simp [intOf]; omega
    · obtain rfl : k = n := by omega
      have t1 : decide ((k : Int) < (k : Int)) = false := by simp
      have hgood : Good (nn ps) (nn ps).length := by rw [nn_length, HLEN.out]; exact HGood.out
      have hok : ex = 0 ∧ gx = pageOf (nn ps) := by
        rcases HTD.out with ⟨h1, _, h3⟩ | ⟨_, _, k0, h1, h2⟩
        · exact ⟨h1, h3⟩
        · exact absurd (hgood k0 h1).1 h2
      obtain ⟨rfl, rfl⟩ := hok
      have hbf := body_fit HGood.out
      have hcq : cntAt k ≤ 100 := by unfold cntAt; omega
      have hwl := whole_length (nn ps) k
      have HPE : Hid (bodyAt (nn ps) k ++ wholeAt (nn ps) k ++ le (cntAt k) (min (4 : Int).toNat 8) = pageOf (nn ps)) := Lib.hid (by unfold pageOf; rw [nn_length, HLEN.out]; rfl)
      have HIP : Hid (IsPage (pageOf (nn ps)) (nn ps)) := Lib.hid ⟨hgood, rfl⟩
      have HBY := Lib.hid (page_byte (nn_byte ps))
      have hgl : ng ≤ 300000 := by
        have h1 := page_length (nn ps)
        rw [nn_length, HLEN.out] at h1
        have := HLG.out
        omega
      obtain ⟨Aw, nw, cw, rfl, _, HLw, _, hrw⟩ := gr_open HM.out.pl_
      have hlw : (wholeAt (nn ps) k).length = nw := HLw.out
      have HRW := Lib.hid hrw
      have hwn : IntKind.u64.wrap ((cntAt k : Nat) : Int) = ((cntAt k : Nat) : Int) := u64_nat _ (by omega)
      generalize bodyAt (nn ps) k = xs at HM hbf HPE
      generalize wholeAt (nn ps) k = ys at HM HRW hwl hlw HPE
      generalize pageOf (nn ps) = pg at HM HPE HIP HBY HLG HGR HTD
      generalize cntAt k = q at hcq hwl HPE hwn ⊢
      clear hrw hgood HGR HTD H0 HGood HSZ HFIT hlt
      go_wp2_with (at_builtin; refine gapp_row tb rfl (.tmp 114) (.tmp 115) rfl rfl rfl HM.out.want_ HRW.out HM.out.bel HM.out.bel.size ?cL ?_; (case cL => omega); intro v1 w4 ho hb1 hs1 hf; have HO1 := Lib.hid ho; have HB4 := Lib.hid hb1; have HG1 := Lib.hid (hf.keep_gr HM.out.gv_ HM.out.a2); have HA1 := Lib.hid (hf.apart_gr HM.out.gv_ HM.out.a2); clear ho hb1 hs1 hf)
      refine (putLittle_any q 4 (by omega) v1 (xs ++ ys) w w4 HO1.out HB4.out (by rw [List.length_append]; omega)).mono ?_
      rintro e w5 ⟨v2, rfl, hA⟩
      have HG5 := Lib.hid (hA.fr.keep_gr HG1.out HA1.out)
      have HW5 := Lib.hid hA.own
      have HB5 := Lib.hid hA.bel
      obtain ⟨A2, n2, c2, rfl, _, _, _, hr2⟩ := gr_open hA.own
      have HR2 := Lib.hid hr2
      obtain ⟨A9, n9, c9, e9, _, _, _, hr9⟩ := gr_open HG5.out
      injection e9 with e91 e92 e93
      subst e91 e92 e93
      have HR5 := Lib.hid hr9
      clear hA hr2 hr9 HO1 HB4 HG1 HA1 HM HRW
      go_upto_region 29 with fail
      refine plain_ (fun wq => Below w5.heap.size w5 wq) (fun _ => True) reg_3_29 rfl inv0 (fun _ _ _ _ => trivial) (Below.refl _ _) trivial ?_
      refine w_move (.inl rfl) (fun vs w hK => ⟨wants_none rfl, rho_out rfl rfl⟩) ?_
      refine w_val [(120, _)] (_) (fun vs w hK => ⟨wants_none rfl, rho_in rfl (fv (hK 0 (memE rfl))), trivial⟩) rfl (fun wq hI => by exact run_int_neq (r := false) rfl rfl rfl rfl) ?_
      refine w_move (.inl rfl) (fun vs w hK => ⟨wants_none rfl, rho_in rfl (fv (hK 1 (memE rfl)))⟩) ?_
      refine w_move (.inl rfl) (fun vs w hK => ⟨wants_g rfl (fv (hK 2 (memE rfl))), rho_out rfl rfl⟩) ?_
      refine w_val [(123, _)] (_) (fun vs w hK => ⟨wants_g rfl (fv (hK 2 (memE rfl))), rho_in rfl (fv (hK 3 (memE rfl))), trivial⟩) rfl (fun wq hI => by exact run_conv_op rfl rfl (conv_rds (dst := 9) tb Try.underlying5 Try.underlying9 (rds_below HR5.out hI))) ?_
      refine w_move (.inl rfl) (fun vs w hK => ⟨wants_g rfl (fv (hK 2 (memE rfl))), rho_out rfl rfl⟩) ?_
      refine w_val [(125, _)] (_) (fun vs w hK => ⟨wants_g rfl (fv (hK 2 (memE rfl))), rho_in rfl (fv (hK 5 (memE rfl))), trivial⟩) rfl (fun wq hI => by exact run_conv_op rfl rfl (conv_rds (dst := 9) tb Try.underlying5 Try.underlying9 (rds_below HR2.out hI))) ?_
      refine w_val [(124, _), (126, _)] (_) (fun vs w hK => ⟨wants_g rfl (fv (hK 2 (memE rfl))), rho_in rfl (fv (hK 4 (memE rfl))), rho_in rfl (fv (hK 6 (memE rfl))), trivial⟩) rfl (fun wq hI => by exact run_neq_same rfl rfl rfl (by rw [HPE.out])) ?_
      refine w_pick (b := false) rfl (fun vs w hK => ⟨wants_none rfl, (rho_in rfl (fv (hK 2 (memE rfl)))), (rho_in rfl (fv (hK 7 (memE rfl))))⟩) ?_
      refine w_end rfl rfl rfl (fun vs wq hI hF => ?_)
      simp only [List.reverse_cons, List.reverse_nil, List.nil_append, List.cons_append, finL_val, finL_of, finL_any, finL_app, finL_new, finL_gr, finL_row, finL_box, finL_nil, Act.put, List.setIfInBounds_toArray, List.set_cons_zero, List.set_cons_succ, Nat.reduceAdd]
      have HB6 := Lib.hid (below_then HB5.out HB5.out.size hI)
      have CP := Lib.hid (parse_gen Ag ng cg pg wq (rds_below HR5.out hI) HBY.out hgc (by omega))
      clear hI hF HG5 HW5 HB5 HR2 HR5
      obtain ⟨w6, rfl⟩ : ∃ w6 : World, w6 = wq := ⟨_, rfl⟩
      go_wp2_with fail
      refine CP.out.mono ?_
      rintro e w7 ⟨hb7, bv, wv, ex, qs, rfl, hgd, hbv, hwv, hcase⟩
      obtain ⟨Ab, nbb, cb, rfl, _⟩ := gr_open hbv
      obtain ⟨Aw2, nw2, cw2, rfl, _⟩ := gr_open hwv
      rcases hcase with ⟨rfl, hip⟩ | ⟨_, _, hno⟩
      · obtain rfl : qs = ps := nn_inj (page_inj hip.1 HIP.out.1 (hip.2.trans HIP.out.2.symm))
        have HGD := Lib.hid hgd
        have HBV := Lib.hid hbv
        have HWV := Lib.hid hwv
        have HB7 := Lib.hid (below_then HB6.out HB6.out.size hb7)
        clear hb7 hgd hbv hwv hip HB6 CP
        go_upto_region 32 with (first | (refine wpList_store_box rfl 36 (.tmp 12) (.tmp 132) rfl w7.heap.size [.slice Ab nbb cb, .slice Aw2 nw2 cw2] rfl rfl (heap_alloc_new w7 _) rfl info36 rfl ?_; intro w8 hs8; have HS8 := Lib.hid hs8; clear hs8) | fail)
        have hb8 : Below w7.heap.size w7 w8 := HS8.out.then_ (below_alloc (Below.refl _ _) _) (Nat.le_refl _)
        have HX8 := Lib.hid HS8.out.at_
        have HBV8 := Lib.hid (gr_below HBV.out hb8)
        have HWV8 := Lib.hid (gr_below HWV.out hb8)
        have HB8 := Lib.hid (below_then HB7.out HB7.out.size hb8)
        clear hb8 HS8 HBV HWV HB7
        generalize w7.heap.size = b8 at HX8 ⊢
        refine plain_ (fun wq => Below w8.heap.size w8 wq) (fun _ => True) reg_3_32 rfl inv0 (fun _ _ _ _ => trivial) (Below.refl _ _) trivial ?_
        refine w_move (.inl rfl) (fun vs w hK => ⟨wants_none rfl, rho_out rfl rfl⟩) ?_
        refine w_val [(134, _)] (_) (fun vs w hK => ⟨wants_none rfl, rho_in rfl (fv (hK 0 (memE rfl))), trivial⟩) rfl (fun wq hI => by exact run_int_eql (r := true) rfl rfl rfl rfl) ?_
        refine w_move (.inl rfl) (fun vs w hK => ⟨wants_none rfl, rho_in rfl (fv (hK 1 (memE rfl)))⟩) ?_
        refine w_val [(12, _)] (.agg [Value.slice Ab nbb cb, .slice Aw2 nw2 cw2].toArray) (fun vs w hK => ⟨wants_g rfl (fv (hK 2 (memE rfl))), rho_out rfl rfl, trivial⟩) rfl (fun wq hI => by exact op_load_at rfl ⟨b8, 0, none⟩ [.slice Ab nbb cb, .slice Aw2 nw2 cw2] rfl (box_cells (box_stays HX8.out hI)) Try.underlying36 rfl info36) ?_
        refine w_callF (FW.of (isSts qs) (fun _ _ _ h hb => isSts_below h hb)) [(137, _)] _ (by decide) (fun vs w hK => ⟨wants_g rfl (fv (hK 2 (memE rfl))), rho_in rfl (fv (hK 3 (memE rfl))), trivial⟩) rfl rfl Try.func21 (by kernel_rfl) rfl (fun wq hI => (all_page _ _ qs wq w6.heap.size HGD.out (gr_below HBV8.out hI) (gr_below HWV8.out hI)).mono fun e w' ⟨v, he, ho, hb⟩ => ⟨v, he, hb, isSts_own ho⟩) (margs rfl) ?_
        refine w_move (.inl rfl) (fun vs w hK => ⟨wants_g rfl (fv (hK 2 (memE rfl))), rho_out rfl rfl⟩) ?_
        refine w_any (.val (.bool true)) (by decide) (fun vs wq hI hK => ?_) ?_
        · obtain ⟨Aq, nq, cq, e1, hsq⟩ : ∃ A n c, vs 4 = .slice A n c ∧ Sts encP 2 wq A n qs := hK 4 (memE rfl)
          refine ob_call [(138, .slice Aq nq cq), (139, .slice A k c)] _ (wants_g rfl (fv (hK 2 (memE rfl)))) ⟨rho_in rfl e1, rho_in rfl (fv (hK 5 (memE rfl))), trivial⟩ rfl rfl Try.func20 (by kernel_rfl) rfl (margs rfl) ((same_any Aq nq cq A k c qs qs wq hsq (sts_below HST.out (below_then HB8.out HB8.out.size hI))).mono ?_)
          rintro e w' ⟨rfl, hb⟩
          exact ⟨_, rfl, hb, congrArg Value.bool (decide_eq_true rfl)⟩
        refine w_pick (b := true) rfl (fun vs w hK => ⟨wants_none rfl, (rho_in rfl (fv (hK 2 (memE rfl)))), (rho_in rfl (fv (hK 6 (memE rfl))))⟩) ?_
        refine w_move (.inr rfl) (fun vs w hK => ⟨wants_none rfl, rho_in rfl (fv (hK 7 (memE rfl)))⟩) ?_
        refine w_end rfl rfl rfl (fun vs wq hI hF => ?_)
        simp only [List.reverse_cons, List.reverse_nil, List.nil_append, List.cons_append, finL_val, finL_of, finL_any, finL_app, finL_new, finL_gr, finL_row, finL_box, finL_nil, Act.put, List.setIfInBounds_toArray, List.set_cons_zero, List.set_cons_succ, Nat.reduceAdd]
        have HB9 := Lib.hid (below_then HB8.out HB8.out.size hI)
        clear hI hF
        go_wp2_with fail
        go_ret
        exact ⟨rfl, HB9.out⟩
      · exact absurd HIP.out (hno _)
end Go.Proofs.Ytnkeijdpjcclcaa.Pg


