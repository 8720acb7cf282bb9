/- The contract of record.All. -/
import Derived.Test.YtakjmhcdmchgdaaDoorRecordNexts
import Derived.Test.YtakjmhcdmchgdaaDoorOpen2
namespace Go.Proofs.YtakjmhcdmchgdaaDoor.Rec
set_option linter.unusedVariables false
set_option linter.unusedSimpArgs false
open Go.Proofs.YtakjmhcdmchgdaaDoor.Kit Go.Proofs.YtakjmhcdmchgdaaDoor.Num Go.RowKit Go.Proofs.YtakjmhcdmchgdaaDoorW.PrintWords Go.Proofs.YtakjmhcdmchgdaaDoorW.PrintLast Go.Proofs.YtakjmhcdmchgdaaDoorW.PrintMore NumPure
open Crc (Halves sum mask sum_any mask_any mask_lt sum_lt refsum_any refmask_any own_rds_)
theorem info22s : (Tryd.prog.info? 22).map (fun i => (i.zero, i.size, i.bytes)) = some (some (.slice none 0 0), 1, 24) := by kernel_rfl
theorem tbs : SlTy Tryd.prog 42 22 (.slice none 0 0) 24 := ⟨Tryd.underlying42, info22s, rfl, by decide⟩
theorem split_take {α : Type} {l : List α} {i j : Nat} (h : i ≤ j) : l.take j = l.take i ++ (l.take j).drop i := by
  have := (List.take_append_drop i (l.take j)).symm
  rwa [List.take_take, Nat.min_eq_left h] at this
theorem next_ok {l d : List Int} {m : Nat} (hb : Byte l) (h : next l = (d, m, 0)) : m = 12 + d.length ∧ m ≤ l.length ∧ l.take m = rec_ d ∧ d.length ≤ 1048576 := by
  have hw : Why l d m 0 := by have := why l hb; rwa [h] at this
  have h12 : 12 ≤ l.length := by
    rcases Nat.lt_or_ge l.length 12 with g | g
    · have := next_short l g
      rw [this] at h
      simp at h
    · exact g
  obtain ⟨hd, hm, h1, h2, h3, h4⟩ := why_ok hw
  have hb4 : Byte (l.take 4) := hb.take 4
  have hl4 : (l.take 4).length = 4 := by rw [List.length_take]; omega
  have e4 := le_leVal (l.take 4) hb4
  rw [hl4] at e4
  generalize hN : leVal (l.take 4) = N at *
  have hdl : d.length = N := by rw [hd, List.length_drop, List.length_take]; omega
  refine ⟨by omega, by omega, ?_, by omega⟩
  rw [hm]
  unfold rec_
  rw [← hd] at h4
  rw [hdl, e4, ← h1, ← h4, hd]
  have s1 := split_take (l := l) (show 4 ≤ 8 by omega)
  have s2 := split_take (l := l) (show 8 ≤ 12 by omega)
  have s3 := split_take (l := l) (show 12 ≤ 12 + N by omega)
  rw [← s1, ← s2, ← s3]
/-- Records read one behind the other. -/
inductive Chain (l : List Int) : Nat → List (List Int) → Prop
  | nil : Chain l 0 []
  | snoc {a : Nat} {ds : List (List Int)} (d : List Int) (m : Nat) (h : Chain l a ds) (ha : a < l.length) (hn : next (l.drop a) = (d, m, 0)) : Chain l (a + m) (ds ++ [d])
def lay (ds : List (List Int)) : List Int := ds.flatMap rec_
theorem lay_snoc (ds : List (List Int)) (d : List Int) : lay (ds ++ [d]) = lay ds ++ rec_ d := by simp [lay]
theorem chain_lay {l : List Int} {a : Nat} {ds : List (List Int)} (hb : Byte l) (h : Chain l a ds) : a ≤ l.length ∧ l.take a = lay ds ∧ 12 * ds.length ≤ a ∧ ∀ d ∈ ds, d.length ≤ 1048576 ∧ Byte d := by
  induction h with
  | nil => exact ⟨Nat.zero_le _, rfl, by simp, by intro d hd; cases hd⟩
  | @snoc a ds d m h ha hn ih =>
    obtain ⟨i1, i2, i3, i4⟩ := ih
    obtain ⟨k1, k2, k3, k4⟩ := next_ok (hb.drop a) hn
    rw [List.length_drop] at k2
    refine ⟨by omega, ?_, by rw [List.length_append, List.length_singleton]; omega, ?_⟩
    · rw [lay_snoc, ← i2, ← k3, List.take_add]
    · intro x hx
      rcases List.mem_append.1 hx with hx | hx
      · exact i4 x hx
      · rw [List.mem_singleton.1 hx]
        refine ⟨k4, ?_⟩
        have := next_byte (hb.drop a)
        rwa [hn] at this
/-- A row of rows of bytes. -/
structure Items (w : World) (B : Nat) (v : Value) (ds : List (List Int)) : Prop where
  row : ∃ xs : List Sl, GrE encS encS_one 22 w B v xs ∧ xs.length = ds.length ∧ ∀ i, i < ds.length → Gr .u8 5 w B (encS (xs.getD i default)) (ds.getD i []) ∧ Apart (encS (xs.getD i default)) v
theorem items_nil (w : World) (B : Nat) : Items w B (.slice none 0 0) [] := ⟨⟨[], gr_nil _ _ _, rfl, fun i hi => absurd hi (by simp)⟩⟩
theorem items_below {w w' : World} {B : Nat} {v : Value} {ds : List (List Int)} (h : Items w B v ds) (hb : Below w.heap.size w w') : Items w' B v ds := by
  obtain ⟨xs, h1, h2, h3⟩ := h.row
  exact ⟨⟨xs, gr_below h1 hb, h2, fun i hi => ⟨gr_below (h3 i hi).1 hb, (h3 i hi).2⟩⟩⟩
theorem apart_fresh {α : Type} {enc : α → Value} {h1 : ∀ x, (enc x).oneCell' = true} {e : TypeId} {w : World} {B : Nat} {u v : Value} {xs : List α} (hv : GrE enc h1 e w B v xs) (hu : ∀ k, u.ownBlock = some k → w.heap.size ≤ k) : Apart u v := ⟨by
  cases hk : u.ownBlock with
  | none => exact .inl rfl
  | some k =>
    have hk2 := hu k hk
    refine .inr (.inr fun he => ?_)
    have := gr_lt hv k he.symm
    omega⟩
theorem items_snoc {W w1 : World} {B : Nat} {v v1 : Value} {xs : List Sl} {ds : List (List Int)} {x : Sl} {d : List Int} (h2 : xs.length = ds.length) (h3 : ∀ i, i < ds.length → Gr .u8 5 W B (encS (xs.getD i default)) (ds.getD i []) ∧ Apart (encS (xs.getD i default)) v)
    (hx : Gr .u8 5 W B (encS x) d) (hax : Apart (encS x) v) (ho : GrE encS encS_one 22 w1 B v1 (xs ++ [x])) (hf : Fr W w1 v v1) : Items w1 B v1 (ds ++ [d]) := by
  refine ⟨⟨_, ho, by simp [h2], fun i hi => ?_⟩⟩
  rw [List.length_append, List.length_singleton] at hi
  rcases Nat.lt_or_ge i ds.length with g | g
  · obtain ⟨k1, k2⟩ := h3 i g
    rw [List.getD_eq_getElem?_getD, List.getElem?_append_left (by omega), ← List.getD_eq_getElem?_getD]
    rw [List.getD_eq_getElem?_getD (l := ds ++ [d]), List.getElem?_append_left (by omega), ← List.getD_eq_getElem?_getD]
    exact ⟨hf.keep_gr k1 k2, hf.apart_gr k1 k2⟩
  · obtain rfl : i = ds.length := by omega
    rw [List.getD_eq_getElem?_getD, List.getElem?_append_right (by omega), List.getD_eq_getElem?_getD (l := ds ++ [d]), List.getElem?_append_right (by omega), h2, Nat.sub_self]
    exact ⟨hf.keep_gr hx hax, hf.apart_gr hx hax⟩
def AllPost (l : List Int) (w : World) (e : Ending) (w' : World) : Prop := ∃ (v : Value) (a ex : Nat) (ds : List (List Int)), e = .returned (.tuple #[v, .int .i64 a, .int .i64 ex]) ∧ Items w' w.heap.size v ds ∧ Below w.heap.size w w' ∧ Chain l a ds ∧ ((ex = 0 ∧ (next (l.drop a)).2.2 = 8) ∨ (ex = 12 ∧ (next (l.drop a)).2.2 = 12))
theorem why_ex {l d : List Int} {m ex : Nat} (h : Why l d m ex) : ex = 0 ∨ ex = 8 ∨ ex = 12 := by cases h <;> simp
set_option maxRecDepth 20000 in
set_option maxHeartbeats 3200000 in
theorem all_any (A : Option Addr) (n c : Nat) (l : List Int) (w : World) (hT : Halves w) (hr : Rds .u8 w A n l) (hb : Byte l) (hnc : n ≤ c) (hn : n ≤ 1048576) :
    Calls Tryd.prog 27 #[.slice A n c] w (AllPost l w) := by
  have hll := rds_len hr
  have HRD := Lib.hid hr
  have HBT := Lib.hid hb
  have HLL := Lib.hid hll
  have HT := Lib.hid hT
  clear hr hb hll hT
  go_enter Tryd.func27, Tryd.ntmps27
  go_wp2_with fail
  go_loopw [5, 6] (fun out at_ wr => ∃ (a : Nat) (ds : List (List Int)) (v : Value), v = out ∧ at_ = .int .i64 a ∧ Hid (Chain l a ds) ∧ Hid (Items wr w.heap.size v ds) ∧ Hid (Below w.heap.size w wr)) (fun _ i _ => n - (intOf i).toNat)
  case atStart => exact ⟨0, [], _, rfl, rfl, Lib.hid .nil, Lib.hid (items_nil _ _), Lib.hid (Below.refl _ _)⟩
  case round =>
    obtain ⟨a, ds, v, hv, rfl, HC, HI, HW⟩ := hrel
    subst hv
    have hal := (chain_lay HBT.out HC.out).1
    have hdl := (chain_lay HBT.out HC.out).2.2.1
    rw [HLL.out] at hal
    by_cases hlt : a < n
    · have t1 : decide ((a : Int) < (n : Int)) = true := decide_eq_true (by omega)
      obtain ⟨A4, hcut, hC⟩ := cut_from (enc := Value.int .u8) (h1 := int_one .u8) 0 tb A n c a (n - a) (by omega) hnc (a : Int) rfl
      have C2 := Lib.hid (recNext_any A4 (n - a) (c - a) _ wr (halves_of HT.out HW.out) (hC wr _ (rds_below HRD.out HW.out)) (HBT.out.drop a) (by omega) (by omega))
      clear hC
      go_wp2_with fail
      refine C2.out.mono ?_
      rintro e w4 ⟨v4, rfl, ho4, hb4⟩
      have hwhy := why (l.drop a) (HBT.out.drop a)
      have hex := why_ex hwhy
      generalize hnx : next (l.drop a) = nx at ho4 hwhy hex ⊢
      obtain ⟨d, m, ex⟩ := nx
      simp only at ho4 hwhy hex ⊢
      obtain ⟨A5, n5, c5, rfl, h5c, HL5, h5m, hr5⟩ := gr_open ho4
      have HNX := Lib.hid hnx
      have HO4 := Lib.hid ho4
      have HB4 := Lib.hid hb4
      clear ho4 hb4 hr5 C2 hnx hwhy
      rcases hex with rfl | rfl | rfl
      · have hok := next_ok (HBT.out.drop a) HNX.out
        obtain ⟨hm, hml, _, hd⟩ := hok
        subst hm
        rw [List.length_drop, HLL.out] at hml
        obtain ⟨xs, hx1, hx2, hx3⟩ := (items_below HI.out HB4.out).row
        have HX1 := Lib.hid hx1
        have HX2 := Lib.hid hx2
        have HX3 := Lib.hid hx3
        obtain ⟨xs0, hy1, _⟩ := HI.out.row
        have HAP : Hid (Apart (encS (A5, n5, c5)) v) := Lib.hid (apart_fresh hy1 (fun k hk => gr_base HO4.out k hk))
        have HOB := Lib.hid (below_then HW.out HW.out.size HB4.out)
        have HOL : Hid (Gr .u8 5 w4 w.heap.size (encS (A5, n5, c5)) d) := Lib.hid (gr_lower HO4.out HW.out.size)
        have hcl : (xs.length + 1) * 24 ≤ 140737488355328 := by rw [HX2.out]; omega
        clear hx1 hx2 hx3 hy1 hd
        go_wp2_with (at_builtin; refine gapp_one (enc := encS) (h1 := encS_one) tbs (p := ((A5, n5, c5) : Sl)) rfl (.tmp 29) (.tmp 31) rfl rfl rfl HX1.out HOB.out HOB.out.size hcl ?_; intro v6 w6 ho hb6 hs1 hf; have HI6 : Hid (Items w6 w.heap.size v6 (ds ++ [d])) := Lib.hid (items_snoc HX2.out HX3.out HOL.out HAP.out ho hf); have HB6 : Hid (Below w.heap.size w w6) := Lib.hid hb6; clear ho hb6 hs1 hf)
        go_roundw
        case rel => exact ⟨a + (12 + d.length), ds ++ [d], _, rfl, by go_num, Lib.hid (.snoc d _ HC.out (by rw [HLL.out]; exact hlt) HNX.out), HI6, HB6⟩
        case measure => simp [intOf]; omega
      · have HI6 := Lib.hid (items_below HI.out HB4.out)
        have HB6 := Lib.hid (below_then HW.out HW.out.size HB4.out)
        clear HI HO4
        go_wp2_with fail
        go_ret3
        exact ⟨_, a, 0, ds, rfl, HI6.out, HB6.out, HC.out, .inl ⟨rfl, by rw [HNX.out]⟩⟩
      · have HI6 := Lib.hid (items_below HI.out HB4.out)
        have HB6 := Lib.hid (below_then HW.out HW.out.size HB4.out)
        clear HI HO4
        go_wp2_with fail
        go_ret3
        exact ⟨_, a, 12, ds, rfl, HI6.out, HB6.out, HC.out, .inr ⟨rfl, by rw [HNX.out]⟩⟩
    · obtain rfl : a = n := by omega
      have t1 : decide ((a : Int) < (a : Int)) = false := by simp
      have hnx : (next (l.drop a)).2.2 = 8 := by rw [next_short _ (by rw [List.length_drop, HLL.out]; omega)]
      go_wp2_with fail
      go_ret3
      exact ⟨_, a, 0, ds, rfl, HI.out, HW.out, HC.out, .inl ⟨rfl, hnx⟩⟩
end Go.Proofs.YtakjmhcdmchgdaaDoor.Rec

