/- The law's head. -/
import Derived.Test.YtgnicgcdhldmmaaDoorBlmE
namespace Go.Proofs.YtgnicgcdhldmmaaDoor.Blm
set_option linter.unusedVariables false
set_option linter.unusedSimpArgs false
open Go.Proofs.YtgnicgcdhldmmaaDoor.Crc Go.Proofs.YtgnicgcdhldmmaaDoor.Kit Go.RowKit Go.Proofs.YtgnicgcdhldmmaaDoorW.PrintWords Go.Proofs.YtgnicgcdhldmmaaDoorW.PrintLast Go.Proofs.YtgnicgcdhldmmaaDoorW.PrintMore
/-- A filter that lies in a variable. -/
structure Bx (w0 : World) (p g m : Nat) (xs : List Int) (W : World) : Prop where
  bel : Below w0.heap.size w0 W
  box : W.heap[p]? = some (.cells #[.slice (some ⟨g, 0, none⟩) m m] 27 (0, 0))
  row : Rds .u8 W (some ⟨g, 0, none⟩) m xs
theorem Bx.below {w0 W W' : World} {p g m : Nat} {xs : List Int} (h : Bx w0 p g m xs W) (hb : Below W.heap.size W W') : Bx w0 p g m xs W' :=
  ⟨below_then h.bel h.bel.size hb, by rw [hb.block p (mk_lt h.box)]; exact h.box, rds_below h.row hb⟩
theorem Bx.cell {w0 W : World} {p g m : Nat} {xs : List Int} (h : Bx w0 p g m xs W) : W.cell? ⟨p, 0, none⟩ = some (.slice (some ⟨g, 0, none⟩) m m) := by simp [World.cell?, h.box]
theorem gr_rds {k : IntKind} {e : TypeId} {w : World} {B n c : Nat} {A : Option Addr} {xs : List Int} (h : Gr k e w B (.slice A n c) xs) : Rds k w A n xs := by
  obtain ⟨A', n', c', he, _, _, _, h2⟩ := gr_open h
  injection he with e1 e2 e3
  subst e1 e2 e3
  exact h2
theorem bx_alloc {w0 w1 : World} {B g m : Nat} {xs : List Int} (hB : Below w0.heap.size w0 w1) (hO : Gr .u8 5 w1 B (.slice (some ⟨g, 0, none⟩) m m) xs) : Bx w0 w1.heap.size g m xs (w1.alloc (.cells #[.slice (some ⟨g, 0, none⟩) m m] 27)) :=
  ⟨below_alloc hB _, heap_alloc_new w1 _, rds_below (gr_rds hO) (below_alloc (Below.refl _ _) _)⟩
theorem size_alloc (w : World) (o : Obj) : (w.alloc o).heap.size = w.heap.size + 1 := by simp only [World.alloc, Array.size_push]
def sA : ByteArray := ⟨#[97]⟩
theorem numsA : numsOf sA = [97] := by decide +kernel
theorem exA0 : mayF (mkF 8 []) [97] = false := by decide +kernel
theorem exA1 : mayF (mkF 8 [sA]) [97] = true := by decide +kernel
theorem exLen : (mkF 8 [sA]).length = 8 := (mkF_ok 8 [sA]).1
set_option maxRecDepth 20000 in
set_option maxHeartbeats 1600000 in
theorem head_any (w : World) (hT : Halves w) : Calls Tryd.prog 8 #[] w fun e w' => e = .returned (.bool true) ∧ Below w.heap.size w w' := by
  have hr0 : RdsS w none 0 [] := rds_nil w none
  have HM := Lib.hid (make_any none 0 0 [] w hT hr0 rfl (by omega) (fun s h => by cases h))
  go_enter Tryd.func8, Tryd.ntmps8
  go_wp2_with fail
  refine HM.out.mono ?_
  rintro e w1 ⟨g1, rfl, hO1, hB1⟩
  rw [show nB 0 = 8 from rfl] at hO1 ⊢
  have hx1 := bx_alloc hB1 hO1
  have hlit := rds_lit (enc := Value.string) (h1 := str_one) (w1.alloc (.cells #[.slice (some ⟨g1, 0, none⟩) 8 8] 27)) 9 (0, 0) default [sA] (by simp) 1 rfl
  have hbl := below_alloc (Below.refl (w1.alloc (.cells #[.slice (some ⟨g1, 0, none⟩) 8 8] 27)).heap.size (w1.alloc (.cells #[.slice (some ⟨g1, 0, none⟩) 8 8] 27))) (.cells (encs Value.string [sA]).toArray 9)
  rw [size_alloc] at hlit
  have hx2 := hx1.below hbl
  change RdsS ((w1.alloc (.cells #[.slice (some ⟨g1, 0, none⟩) 8 8] 27)).alloc (.cells #[.string ⟨#[97]⟩] 9)) (some ⟨w1.heap.size + 1, 0, none⟩) 1 [sA] at hlit
  change Bx w w1.heap.size g1 8 (mkF 8 []) ((w1.alloc (.cells #[.slice (some ⟨g1, 0, none⟩) 8 8] 27)).alloc (.cells #[.string ⟨#[97]⟩] 9)) at hx2
  have HM2 := Lib.hid (make_any _ 1 1 [sA] _ (hT.below hx2.bel) hlit rfl (by omega) (fun s h => by rw [List.mem_singleton.1 h]; decide))
  have HX2 := Lib.hid hx2
  clear hx1 hx2 hlit hbl hO1 hB1
  go_wp2_with fail
  refine HM2.out.mono ?_
  rintro e w3 ⟨g3, rfl, hO3, hB3⟩
  rw [show nB 1 = 8 from rfl] at hO3 ⊢
  have hX3 := HX2.out.below hB3
  have hY3 := bx_alloc hX3.bel hO3
  have hX4 := hX3.below (below_alloc (Below.refl _ _) (.cells #[.slice (some ⟨g3, 0, none⟩) 8 8] 27))
  clear HX2 HM2 hO3 hB3 hX3
  generalize w1.heap.size + 1 = p1' at *
  generalize w1.heap.size = p1 at *
  have hlt3 := hY3.bel.size
  go_upto_region 3 with fail
  generalize hp3 : w3.heap.size = p3 at *
  generalize hW4 : w3.alloc (.cells #[.slice (some ⟨g3, 0, none⟩) 8 8] 27) = w4 at *
  have c1 := hX4.cell
  have c3 := hY3.cell
  have hm1 := may_any (some ⟨g1, 0, none⟩) 8 8 (mkF 8 []) sA w4 (hT.below hX4.bel) hX4.row (mkF_ok 8 []).1 (mkF_ok 8 []).2 (by omega) (by decide)
  rw [numsA, exA0] at hm1
  have HM1 := Lib.hid hm1
  have HX4 := Lib.hid hX4
  have HY4 := Lib.hid hY3
  clear hm1 hX4 hY3
  go_wp2_with fail
  refine HM1.out.mono ?_
  rintro e w5 ⟨rfl, hB5⟩
  have hY5 := HY4.out.below hB5
  have c5 := hY5.cell
  have hm2 := may_any (some ⟨g3, 0, none⟩) 8 8 (mkF 8 [sA]) sA w5 (hT.below hY5.bel) hY5.row (mkF_ok 8 [sA]).1 (mkF_ok 8 [sA]).2 (by omega) (by decide)
  rw [numsA, exA1] at hm2
  have HM2 := Lib.hid hm2
  have HY5 := Lib.hid hY5
  clear hm2 hY5 hB5 c1 c3
  go_wp2_with fail
  refine HM2.out.mono ?_
  rintro e w6 ⟨rfl, hB6⟩
  have hY6 := HY5.out.below hB6
  have c6 := hY6.cell
  have HM3 := Lib.hid (bytes_any (some ⟨g3, 0, none⟩) 8 8 (mkF 8 [sA]) w6 hY6.row (by omega))
  have HY6 := Lib.hid hY6
  clear hY6 hB6 c5
  go_wp2_with fail
  refine HM3.out.mono ?_
  rintro e w7 ⟨v, rfl, hO7, hB7⟩
  have hY7 := HY6.out.below hB7
  obtain ⟨A7, n7, c7, rfl, h7c, HL7, h7m, hr7⟩ := gr_open hO7
  obtain rfl : n7 = 9 := by have := HL7.out; rw [List.length_cons, exLen] at this; omega
  have HY7 := Lib.hid hY7
  clear hY7 hB7 c6 hO7 hr7
  go_wp2_with fail
  go_ret
  exact ⟨rfl, HY7.out.bel⟩
end Go.Proofs.YtgnicgcdhldmmaaDoor.Blm

