/- The filter of keys (bloom.Make). -/
import Derived.Test.YtgnicgcdhldmmaaDoorBlmB
namespace Go.Proofs.YtgnicgcdhldmmaaDoor.Blm
set_option linter.unusedVariables false
set_option linter.unusedSimpArgs false
open Go.Proofs.YtgnicgcdhldmmaaDoor.Crc Go.Proofs.YtgnicgcdhldmmaaDoor.Kit Go.RowKit Go.Proofs.YtgnicgcdhldmmaaDoorW.PrintWords Go.Proofs.YtgnicgcdhldmmaaDoorW.PrintLast Go.Proofs.YtgnicgcdhldmmaaDoorW.PrintMore
/-- A row with the first k bits of a key laid. -/
def lay (l : List Int) (n : Nat) (xs : List Int) : Nat → List Int
  | 0 => xs
  | k + 1 => setb (lay l n xs k) (plc l n k)
theorem lay_length (l : List Int) (n : Nat) (xs : List Int) : ∀ k, (lay l n xs k).length = xs.length
  | 0 => rfl
  | k + 1 => by rw [lay, setb_length, lay_length l n xs k]
theorem lay_byte (l : List Int) (n : Nat) {xs : List Int} (h : Crc.isByte xs) : ∀ k, Crc.isByte (lay l n xs k)
  | 0 => h
  | k + 1 => setb_byte (lay_byte l n h k) _
/-- The filter of keys. -/
def mkF (m : Nat) (names : List ByteArray) : List Int := names.foldl (fun xs s => lay (numsOf s) (8 * m) xs 6) (List.replicate m 0)
theorem mkF_snoc (m : Nat) (names : List ByteArray) (s : ByteArray) : mkF m (names ++ [s]) = lay (numsOf s) (8 * m) (mkF m names) 6 := by simp [mkF]
theorem mkF_ok (m : Nat) : ∀ (names : List ByteArray), (mkF m names).length = m ∧ Crc.isByte (mkF m names) := by
  have : ∀ (names : List ByteArray) (xs : List Int), xs.length = m → Crc.isByte xs → (names.foldl (fun xs s => lay (numsOf s) (8 * m) xs 6) xs).length = m ∧ Crc.isByte (names.foldl (fun xs s => lay (numsOf s) (8 * m) xs 6) xs) := by
    intro names
    induction names with
    | nil => exact fun xs h1 h2 => ⟨h1, h2⟩
    | cons s r ih => exact fun xs h1 h2 => ih _ (by rw [lay_length]; exact h1) (lay_byte _ _ h2 _)
  refine fun names => this names _ List.length_replicate fun x hx => ?_
  rw [(List.mem_replicate.1 hx).2]
  omega
def nB (n : Nat) : Nat := max ((n * 10 + 7) / 8) 8
theorem info27 : (Tryd.prog.info? 27).map (·.size) = some 1 := by kernel_rfl
abbrev RStr (w : World) (A : Option Addr) (n : Nat) (xs : List ByteArray) : Prop := RdsE Value.string (fun _ => rfl) w A n xs
set_option maxRecDepth 20000 in
set_option maxHeartbeats 1600000 in
theorem make_any (A : Option Addr) (n c : Nat) (names : List ByteArray) (w : World) (hT : Halves w) (hr : RdsS w A n names) (hl : names.length = n) (hn : n ≤ 60) (hsz : ∀ s ∈ names, s.size ≤ 140737488355328) :
    Calls Tryd.prog 10 #[.slice A n c] w fun e W' => ∃ g, e = .returned (.tuple #[.agg #[.slice (some ⟨g, 0, none⟩) (nB n) (nB n)], .int .i64 0]) ∧ Gr .u8 5 W' w.heap.size (.slice (some ⟨g, 0, none⟩) (nB n) (nB n)) (mkF (nB n) names) ∧ Below w.heap.size w W' := by
  go_enter Tryd.func10, Tryd.ntmps10
  go_upto_region 1 with fail
  have hx1 : (w.alloc (.cells #[.slice none 0 0] 27)).heap[w.heap.size]? = some (.cells #[.slice none 0 0] 27) := heap_alloc_new w _
  have hb1 : Below w.heap.size w (w.alloc (.cells #[.slice none 0 0] 27)) := below_alloc (Below.refl _ _) _
  change Code.wp _ _ _ _ (w.alloc (.cells #[.slice none 0 0] 27))
  generalize w.alloc (.cells #[.slice none 0 0] 27) = w1 at hx1 hb1 ⊢
  go_upto_region 4 with fail
  have hmax : mx (((n : Int) * 10 + 7) / 8) 8 = ((nB n : Nat) : Int) := by unfold nB mx; split <;> omega
  have hm1 : nB n ≤ 100 := by unfold nB; omega
  have hm0 : 8 ≤ nB n := by unfold nB; omega
  have hmk := print_make 25 5 .u8 1 Tryd.underlying25 info5 (by decide) (nB n) (by omega)
  generalize hmd : nB n = m at hmax hm1 hm0 hmk ⊢
  have HMX := Lib.hid hmax
  clear hmax
  go_wp2_with (first | (refine wpList_max2 rfl rfl rfl rfl HMX.out ?_) | fail)
  have hS0 : St w1 (w1.heap.size + 1) w1.heap.size m m (mkF m (names.take 0)) ((w1.alloc (Obj.cells (madeCells #[Value.int IntKind.u8 0] m) 5)).alloc (Obj.cells #[Value.slice (some { block := w1.heap.size, off := 0 }) m m] 27)) := by
    have hsz1 : (w1.alloc (Obj.cells (madeCells #[Value.int IntKind.u8 0] m) 5)).heap.size = w1.heap.size + 1 := by simp only [World.alloc, Array.size_push]
    have hbox := heap_alloc_new (w1.alloc (Obj.cells (madeCells #[Value.int IntKind.u8 0] m) 5)) (Obj.cells #[Value.slice (some { block := w1.heap.size, off := 0 }) m m] 27)
    rw [hsz1] at hbox
    exact ⟨below_alloc (below_alloc (Below.refl _ _) _) _, by omega, by omega, hbox, gr_below (gr_made .u8 5 m (Nat.le_refl _) (by omega)) (below_alloc (Below.refl _ _) _)⟩
  have hl1 : w1.heap.size ≤ w1.heap.size := Nat.le_refl _
  generalize hpp : w1.heap.size + 1 = p at hS0 ⊢
  generalize w1.heap.size = g at hS0 hpp ⊢
  generalize ((w1.alloc (Obj.cells (madeCells #[Value.int IntKind.u8 0] m) 5)).alloc (Obj.cells #[Value.slice (some { block := g, off := 0 }) m m] 27)) = W0 at hS0 ⊢
  have HS0 := Lib.hid hS0
  have HB1 := Lib.hid hb1
  have HL := Lib.hid hl
  clear hS0 hb1 hmk hl
  go_loopw [27] (fun i wr => ∃ k : Nat, k ≤ n ∧ i = .int .i64 k ∧ Hid (St w1 p g m m (mkF m (names.take k)) wr)) (fun i _ => n - (intOf i).toNat)
  case atStart => exact ⟨0, by omega, rfl, HS0⟩
  case round =>
    obtain ⟨k, hk, rfl, HS⟩ := hrel
    have hbw : Below w.heap.size w wr := below_then HB1.out HB1.out.size HS.out.bel
    by_cases hlt : k < n
    · obtain ⟨ad, rfl, hc⟩ := rds_at default (rds_below hr hbw) k hlt
      have hcb : wr.cell? ⟨p, 0, none⟩ = some (.slice (some ⟨g, 0, none⟩) m m) := by simp [World.cell?, HS.out.box]
      have hmem : names.getD k default ∈ names := by
        rw [List.getD_eq_getElem?_getD, List.getElem?_eq_getElem (by rw [HL.out]; exact hlt)]
        exact List.getElem_mem _
      have hss := hsz _ hmem
      have htk : names.take (k + 1) = names.take k ++ [names.getD k default] := by
        rw [List.take_succ_eq_append_getElem (by rw [HL.out]; exact hlt), List.getD_eq_getElem?_getD, List.getElem?_eq_getElem (by rw [HL.out]; exact hlt)]
        rfl
      generalize names.getD k default = s at hc hss htk
      have hok := mkF_ok m (names.take k)
      have hnext : mkF m (names.take (k + 1)) = lay (numsOf s) (8 * m) (mkF m (names.take k)) 6 := by rw [htk, mkF_snoc]
      have C := (places_any s hss (8 * m) (by omega) 17 _ #[.pointer (some ⟨p, 0, none⟩)] Tryd.func17 (by kernel_rfl) rfl (fun j W => St w1 p g m m (lay (numsOf s) (8 * m) (mkF m (names.take k)) j) W) (fun _ => False) wr (hT.below hbw) (fun W hb => HS.out.below hb)
        (fun j W hj hS => (lay_any W hS (lay_byte _ _ hok.2 _) (by omega) _ (plc_lt _ _ _ (by omega)) (Nat.lt_of_lt_of_le (plc_lt _ _ _ (by omega)) (by omega))).mono fun e W' ⟨he, hS'⟩ => .inl ⟨he, hS'⟩))
      rw [show ((8 * m : Nat) : Int) = 8 * (m : Int) by omega] at C
      have HC := Lib.hid (C.mono fun e W' h => (And.imp id (fun h => h.elim id False.elim) h : _ ∧ St w1 p g m m (lay (numsOf s) (8 * m) (mkF m (names.take k)) 6) W'))
      have HN := Lib.hid hnext
      clear hmem htk hok C hnext
      go_wp2_with fail
      refine HC.out.mono ?_
      rintro e w' ⟨rfl, hS'⟩
      have HS' := Lib.hid hS'
      clear hS'
      go_wp2_with fail
      go_roundw
      case rel => exact ⟨k + 1, by omega, by go_num, by rw [HN.out]; exact HS'⟩
      case measure => simp [intOf]; omega
    · obtain rfl : k = n := by omega
      rw [List.take_of_length_le (by rw [HL.out]; omega)] at HS
      have hx2 : wr.heap[w.heap.size]? = some (.cells #[.slice none 0 0] 27) := (HS.out.bel.block _ (mk_lt hx1)).trans hx1
      have hlw : w.heap.size < w1.heap.size := mk_lt hx1
      clear hx1
      go_wp2_with (first | (refine wpList_load_box rfl 27 _ rfl p [.slice (some ⟨g, 0, none⟩) m m] rfl HS.out.box Tryd.underlying27 rfl info27 ?_) | (refine wpList_store_box rfl 27 _ _ rfl w.heap.size [.slice (some ⟨g, 0, none⟩) m m] rfl rfl (old := [.slice none 0 0]) hx2 rfl info27 rfl ?_; intro w5 hs5; have HS5 := Lib.hid hs5; clear hs5) | fail)
      (try simp only [Exit.inBlock, Exit.then]); refine bodyPost_ret (results_box_tmp rfl rfl (loadVar_box HS5.out.at_ Tryd.underlying27 rfl info27)) rfl ?_
      rw [hmd]
      refine ⟨g, rfl, gr_lower (HS5.out.gr HS.out.row ?_) (Nat.le_of_lt hlw), HS5.out.then_ hbw (Nat.le_refl _)⟩
      intro he
      have := gr_base HS.out.row _ he
      omega
end Go.Proofs.YtgnicgcdhldmmaaDoor.Blm

