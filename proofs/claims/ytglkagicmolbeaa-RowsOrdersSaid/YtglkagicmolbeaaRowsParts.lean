/- The walk of the law RowsParts. -/
import Derived.Test.YtglkagicmolbeaaRowsF
namespace Go.Proofs.Ytglkagicmolbeaa.Rw
set_option linter.unusedVariables false
set_option linter.unusedSimpArgs false
open Go.Proofs.Ytglkagicmolbeaa.Kit Go.Proofs.Ytglkagicmolbeaa.Num Go.RowKit Go.Proofs.YtglkagicmolbeaaW.PrintWords Go.Proofs.YtglkagicmolbeaaW.PrintLast Go.Proofs.YtglkagicmolbeaaW.PrintMore NumPure
structure Box3 (g : Nat) (x y z : List Value) (w : World) : Prop where
  a : w.heap[g]? = some (.cells x.toArray 32)
  b : w.heap[g + 1]? = some (.cells y.toArray 32)
  c : w.heap[g + 2]? = some (.cells z.toArray 39)
theorem Box3.below {g : Nat} {x y z : List Value} {w w' : World} (h : Box3 g x y z w) (hb : Below w.heap.size w w') : Box3 g x y z w' := ⟨box_stays h.a hb, box_stays h.b hb, box_stays h.c hb⟩
theorem box3_new (w : World) (x y z : List Value) : Box3 w.heap.size x y z (((w.alloc (.cells x.toArray 32)).alloc (.cells y.toArray 32)).alloc (.cells z.toArray 39)) :=
  ⟨(heap_alloc_old _ _ (by simp; omega)).trans ((heap_alloc_old _ _ (by simp)).trans (heap_alloc_new w _)), (heap_alloc_old _ _ (by simp)).trans (by have := heap_alloc_new (w.alloc (.cells x.toArray 32)) (.cells y.toArray 32); simpa using this), by have := heap_alloc_new ((w.alloc (.cells x.toArray 32)).alloc (.cells y.toArray 32)) (.cells z.toArray 39); simpa using this⟩
theorem load_hash {w : World} {g : Nat} {a : List Int} {t : TypeId} (ha : a.length = 32) (h : w.heap[g]? = some (.cells (nums .u8 a).toArray t)) : (Instr.loadAt 32 (.pointer (some ⟨g, 0, none⟩))).run Try.prog w = .ok (.agg (nums .u8 a).toArray) w :=
  run_loadAt_mid w _ 0 32 (nums .u8 a) _ (range_block h) Try.underlying32 rfl (by rw [show (nums .u8 a).length = 32 by simp [nums, ha]]; exact size32)
theorem load_pt {w : World} {g : Nat} {a : List Int} {x : Int} {t : TypeId} (ha : a.length = 32) (h : w.heap[g]? = some (.cells (pt a x).toArray t)) : (Instr.loadAt 39 (.pointer (some ⟨g, 0, none⟩))).run Try.prog w = .ok (.agg (pt a x).toArray) w :=
  run_loadAt_mid w _ 0 39 (pt a x) _ (range_block h) Try.underlying39 rfl (by rw [show (pt a x).length = 33 by simp [pt, nums, ha]]; kernel_rfl)
theorem load_pt_id {w : World} {g : Nat} {a : List Int} {x : Int} {t : TypeId} (ha : a.length = 32) (h : w.heap[g]? = some (.cells (pt a x).toArray t)) : (Instr.loadAt 32 (.pointer (some ⟨g, 0, none⟩))).run Try.prog w = .ok (.agg (nums .u8 a).toArray) w :=
  run_loadAt_mid w _ 0 32 (nums .u8 a) _ (range_mid (n := 32) h (by simp [pt, nums, ← ha])) Try.underlying32 rfl (by rw [show (nums .u8 a).length = 32 by simp [nums, ha]]; exact size32)
theorem reg_12_8 : RegOk (opsOf Try.f12 8) [[], [0], [0, 1], [0, 1, 2], [0, 1, 2, 3], [0, 1, 2, 3, 4], [0, 1, 2, 3, 4, 5], [0, 1, 2, 3, 4, 5, 6], [0, 1, 2, 3, 4, 5, 6], [0, 1, 2, 3, 4, 5, 6, 8], [0, 1, 2, 3, 4, 5, 6, 7, 8, 9], [0, 1, 2, 3, 4, 5, 6, 7, 8, 9, 10], [0, 1, 2, 3, 4, 5, 6, 7, 8, 9, 10, 11], [0, 1, 2, 3, 4, 5, 6, 7, 8, 9, 10, 11, 12], [0, 1, 2, 3, 4, 5, 6, 7, 8, 9, 10, 11, 12], [0, 1, 2, 3, 4, 5, 6, 7, 8, 9, 10, 11, 12, 14], [0, 1, 2, 3, 4, 5, 6, 7, 8, 9, 10, 11, 12, 13, 14, 15], [0, 1, 2, 3, 4, 5, 6, 7, 8, 9, 10, 11, 12, 13, 14, 15, 16], [0, 1, 2, 3, 4, 5, 6, 7, 8, 9, 10, 11, 12, 13, 14, 15, 16, 17], [0, 1, 2, 3, 4, 5, 6, 7, 8, 9, 10, 11, 12, 13, 14, 15, 16, 17, 18], [0, 1, 2, 3, 4, 5, 6, 7, 8, 9, 10, 11, 12, 13, 14, 15, 16, 17, 18], [0, 1, 2, 3, 4, 5, 6, 7, 8, 9, 10, 11, 12, 13, 14, 15, 16, 17, 18, 19, 20], [0, 1, 2, 3, 4, 5, 6, 7, 8, 9, 10, 11, 12, 13, 14, 15, 16, 17, 18, 19, 20, 21]] [] [some 39, some 40, some 41, some 42, some 43, some 44, some 45, some 46, some 47, some 48, some 49, some 50, some 51, some 52, some 53, some 54, some 55, some 56, some 57, some 58, some 59, some 60, some 61] := regOk (by kernel_rfl)
theorem reg_12_10 : RegOk (opsOf Try.f12 10) [[], [], [], [2], [0, 1, 2, 3], [0, 1, 2, 3, 4], [0, 1, 2, 3, 4, 5], [0, 1, 2, 3, 4, 5], [0, 1, 2, 3, 4, 5], [0, 1, 2, 3, 4, 5, 8], [0, 1, 2, 3, 4, 5, 6, 7, 8, 9], [0, 1, 2, 3, 4, 5, 6, 7, 8, 9, 10], [0, 1, 2, 3, 4, 5, 6, 7, 8, 9, 10, 11], [0, 1, 2, 3, 4, 5, 6, 7, 8, 9, 10, 11, 12], [0, 1, 2, 3, 4, 5, 6, 7, 8, 9, 10, 11, 12], [0, 1, 2, 3, 4, 5, 6, 7, 8, 9, 10, 11, 12, 14], [0, 1, 2, 3, 4, 5, 6, 7, 8, 9, 10, 11, 12], [0, 1, 2, 3, 4, 5, 6, 7, 8, 9, 10, 11, 12, 16], [0, 1, 2, 3, 4, 5, 6, 7, 8, 9, 10, 11, 12, 14, 15, 16, 17], [0, 1, 2, 3, 4, 5, 6, 7, 8, 9, 10, 11, 12, 13, 14, 15, 16, 17, 18], [0, 1, 2, 3, 4, 5, 6, 7, 8, 9, 10, 11, 12, 13, 14, 15, 16, 17, 18, 19], [0, 1, 2, 3, 4, 5, 6, 7, 8, 9, 10, 11, 12, 13, 14, 15, 16, 17, 18, 19, 20], [0, 1, 2, 3, 4, 5, 6, 7, 8, 9, 10, 11, 12, 13, 14, 15, 16, 17, 18, 19, 20, 21], [0, 1, 2, 3, 4, 5, 6, 7, 8, 9, 10, 11, 12, 13, 14, 15, 16, 17, 18, 19, 20, 21], [0, 1, 2, 3, 4, 5, 6, 7, 8, 9, 10, 11, 12, 13, 14, 15, 16, 17, 18, 19, 20, 21], [0, 1, 2, 3, 4, 5, 6, 7, 8, 9, 10, 11, 12, 13, 14, 15, 16, 17, 18, 19, 20, 21, 23, 24], [0, 1, 2, 3, 4, 5, 6, 7, 8, 9, 10, 11, 12, 13, 14, 15, 16, 17, 18, 19, 20, 21], [0, 1, 2, 3, 4, 5, 6, 7, 8, 9, 10, 11, 12, 13, 14, 15, 16, 17, 18, 19, 20, 21, 23, 24, 25, 26], [0, 1, 2, 3, 4, 5, 6, 7, 8, 9, 10, 11, 12, 13, 14, 15, 16, 17, 18, 19, 20, 21, 22, 23, 24, 25, 26, 27], [0, 1, 2, 3, 4, 5, 6, 7, 8, 9, 10, 11, 12, 13, 14, 15, 16, 17, 18, 19, 20, 21, 22, 23, 24, 25, 26, 27, 28], [0, 1, 2, 3, 4, 5, 6, 7, 8, 9, 10, 11, 12, 13, 14, 15, 16, 17, 18, 19, 20, 21, 22, 23, 24, 25, 26, 27, 28, 29], [0, 1, 2, 3, 4, 5, 6, 7, 8, 9, 10, 11, 12, 13, 14, 15, 16, 17, 18, 19, 20, 21, 22, 23, 24, 25, 26, 27, 28, 29, 30], [0, 1, 2, 3, 4, 5, 6, 7, 8, 9, 10, 11, 12, 13, 14, 15, 16, 17, 18, 19, 20, 21, 22, 23, 24, 25, 26, 27, 28, 29, 30], [0, 1, 2, 3, 4, 5, 6, 7, 8, 9, 10, 11, 12, 13, 14, 15, 16, 17, 18, 19, 20, 21, 22, 23, 24, 25, 26, 27, 28, 29, 30, 31, 32], [0, 1, 2, 3, 4, 5, 6, 7, 8, 9, 10, 11, 12, 13, 14, 15, 16, 17, 18, 19, 20, 21, 22, 23, 24, 25, 26, 27, 28, 29, 30, 31, 32, 33], [0, 1, 2, 3, 4, 5, 6, 7, 8, 9, 10, 11, 12, 13, 14, 15, 16, 17, 18, 19, 20, 21, 22, 23, 24, 25, 26, 27, 28, 29, 30, 31, 32, 33, 34], [0, 1, 2, 3, 4, 5, 6, 7, 8, 9, 10, 11, 12, 13, 14, 15, 16, 17, 18, 19, 20, 21, 22, 23, 24, 25, 26, 27, 28, 29, 30, 31, 32, 33, 34], [0, 1, 2, 3, 4, 5, 6, 7, 8, 9, 10, 11, 12, 13, 14, 15, 16, 17, 18, 19, 20, 21, 22, 23, 24, 25, 26, 27, 28, 29, 30, 31, 32, 33, 34], [0, 1, 2, 3, 4, 5, 6, 7, 8, 9, 10, 11, 12, 13, 14, 15, 16, 17, 18, 19, 20, 21, 22, 23, 24, 25, 26, 27, 28, 29, 30, 31, 32, 33, 34, 37], [0, 1, 2, 3, 4, 5, 6, 7, 8, 9, 10, 11, 12, 13, 14, 15, 16, 17, 18, 19, 20, 21, 22, 23, 24, 25, 26, 27, 28, 29, 30, 31, 32, 33, 34, 35, 36, 37, 38], [0, 1, 2, 3, 4, 5, 6, 7, 8, 9, 10, 11, 12, 13, 14, 15, 16, 17, 18, 19, 20, 21, 22, 23, 24, 25, 26, 27, 28, 29, 30, 31, 32, 33, 34, 35, 36, 37, 38, 39], [0, 1, 2, 3, 4, 5, 6, 7, 8, 9, 10, 11, 12, 13, 14, 15, 16, 17, 18, 19, 20, 21, 22, 23, 24, 25, 26, 27, 28, 29, 30, 31, 32, 33, 34, 35, 36, 37, 38, 39, 40], [0, 1, 2, 3, 4, 5, 6, 7, 8, 9, 10, 11, 12, 13, 14, 15, 16, 17, 18, 19, 20, 21, 22, 23, 24, 25, 26, 27, 28, 29, 30, 31, 32, 33, 34, 35, 36, 37, 38, 39, 40, 41], [0, 1, 2, 3, 4, 5, 6, 7, 8, 9, 10, 11, 12, 13, 14, 15, 16, 17, 18, 19, 20, 21, 22, 23, 24, 25, 26, 27, 28, 29, 30, 31, 32, 33, 34, 35, 36, 37, 38, 39, 40, 41], [0, 1, 2, 3, 4, 5, 6, 7, 8, 9, 10, 11, 12, 13, 14, 15, 16, 17, 18, 19, 20, 21, 22, 23, 24, 25, 26, 27, 28, 29, 30, 31, 32, 33, 34, 35, 36, 37, 38, 39, 40, 41], [0, 1, 2, 3, 4, 5, 6, 7, 8, 9, 10, 11, 12, 13, 14, 15, 16, 17, 18, 19, 20, 21, 22, 23, 24, 25, 26, 27, 28, 29, 30, 31, 32, 33, 34, 35, 36, 37, 38, 39, 40, 41, 44], [0, 1, 2, 3, 4, 5, 6, 7, 8, 9, 10, 11, 12, 13, 14, 15, 16, 17, 18, 19, 20, 21, 22, 23, 24, 25, 26, 27, 28, 29, 30, 31, 32, 33, 34, 35, 36, 37, 38, 39, 40, 41, 42, 43, 44, 45], [0, 1, 2, 3, 4, 5, 6, 7, 8, 9, 10, 11, 12, 13, 14, 15, 16, 17, 18, 19, 20, 21, 22, 23, 24, 25, 26, 27, 28, 29, 30, 31, 32, 33, 34, 35, 36, 37, 38, 39, 40, 41, 42, 43, 44, 45, 46], [0, 1, 2, 3, 4, 5, 6, 7, 8, 9, 10, 11, 12, 13, 14, 15, 16, 17, 18, 19, 20, 21, 22, 23, 24, 25, 26, 27, 28, 29, 30, 31, 32, 33, 34, 35, 36, 37, 38, 39, 40, 41, 42, 43, 44, 45, 46, 47], [0, 1, 2, 3, 4, 5, 6, 7, 8, 9, 10, 11, 12, 13, 14, 15, 16, 17, 18, 19, 20, 21, 22, 23, 24, 25, 26, 27, 28, 29, 30, 31, 32, 33, 34, 35, 36, 37, 38, 39, 40, 41, 42, 43, 44, 45, 46, 47, 48], [0, 1, 2, 3, 4, 5, 6, 7, 8, 9, 10, 11, 12, 13, 14, 15, 16, 17, 18, 19, 20, 21, 22, 23, 24, 25, 26, 27, 28, 29, 30, 31, 32, 33, 34, 35, 36, 37, 38, 39, 40, 41, 42, 43, 44, 45, 46, 47, 48, 49], [0, 1, 2, 3, 4, 5, 6, 7, 8, 9, 10, 11, 12, 13, 14, 15, 16, 17, 18, 19, 20, 21, 22, 23, 24, 25, 26, 27, 28, 29, 30, 31, 32, 33, 34, 35, 36, 37, 38, 39, 40, 41, 42, 43, 44, 45, 46, 47, 48, 49, 50]] [] [some 62, some 63, some 64, some 65, some 66, some 67, some 68, some 69, some 70, some 71, some 72, some 73, some 74, some 75, some 76, some 77, some 78, some 79, some 80, some 81, some 82, some 83, some 84, some 85, some 86, some 87, some 88, some 89, some 90, some 91, some 92, some 93, some 94, some 95, some 96, some 97, some 98, some 99, some 100, some 101, some 102, some 103, some 104, some 105, some 106, some 107, some 108, some 109, some 110, some 111, some 112, some 10] := regOk (by kernel_rfl)
set_option maxRecDepth 20000 in
set_option maxHeartbeats 80000000 in
theorem parts_any (ha : List Int) (hb : List Int) (id : List Int) (out : Int) (h i : Int) (w : World) (hal : ha.length = 32) (haw : ∀ x ∈ ha, (Lit.int .u8 x).wf = true) (hbl : hb.length = 32) (hbw : ∀ x ∈ hb, (Lit.int .u8 x).wf = true) (hid : id.length = 32) (hidw : ∀ x ∈ id, (Lit.int .u8 x).wf = true) (how : (Lit.int .u32 out).wf = true)
    (_ : (Lit.int .i64 h).wf = true) (_ : (Lit.int .i64 i).wf = true) :
    Calls Try.prog 12 #[.agg (nums .u8 ha).toArray, .agg (nums .u8 hb).toArray, .agg (nums .u8 id ++ ([Value.int .u32 out] ++ [])).toArray, .int .i64 h, .int .i64 i] w fun e w' => e = .returned (.bool true) ∧ Below w.heap.size w w' := by
  have ho := wf_u32 how
  have hab : Byte ha := byte_wf haw
  have hbb : Byte hb := byte_wf hbw
  have hib : Byte id := byte_wf hidw
  change Calls Try.prog 12 #[.agg (nums .u8 ha).toArray, .agg (nums .u8 hb).toArray, .agg (pt id out).toArray, .int .i64 h, .int .i64 i] w _
  have C0 := Lib.hid (fun wq => head18_any wq)
  have CX := Lib.hid (fun wq => hist_any ha hal h i wq)
  have CY := Lib.hid (fun wq => unspent_any ha hal id hid out ho wq)
  have CHA := Lib.hid (fun wq => hists_any ha hal wq)
  have CHB := Lib.hid (fun wq => hists_any hb hbl wq)
  have CUA := Lib.hid (fun wq => unspents_any ha hal wq)
  have CUB := Lib.hid (fun wq => unspents_any hb hbl wq)
  have COP := Lib.hid (fun wq => out_any id hid out ho wq)
  have COI := Lib.hid (fun wq => outs_any id hid wq)
  have CUU := Lib.hid (fun wq => undo_any h i 3 wq)
  have CUS := Lib.hid (fun wq => undos_any h wq)
  have hza : (strOfNums ha).size = 32 := by rw [strOfNums_size]; exact hal
  have hzb : (strOfNums hb).size = 32 := by rw [strOfNums_size]; exact hbl
  have hzi : (strOfNums id).size = 32 := by rw [strOfNums_size]; exact hid
  obtain ⟨X, hX⟩ : ∃ X, X = (⟨#[104]⟩ : ByteArray) ++ strOfNums ha ++ F4 h ++ F4 i := ⟨_, rfl⟩
  obtain ⟨Y, hY⟩ : ∃ Y, Y = (⟨#[117]⟩ : ByteArray) ++ strOfNums ha ++ (strOfNums id ++ F4 out) := ⟨_, rfl⟩
  have hXs : X.size = 41 := by rw [hX]; simp only [ByteArray.size_append, F4_size, hza]; rfl
  have hYs : Y.size = 69 := by rw [hY]; simp only [ByteArray.size_append, F4_size, hza, hzi]; rfl
  have hx1 : A4 X 33 = U h := by rw [hX]; exact A4_at _ _ _ 33 h (by rw [ByteArray.size_append, hza]; rfl) rfl
  have hx2 : A4 X 37 = U i := by rw [hX]; exact A4_end _ _ 37 i (by simp only [ByteArray.size_append, F4_size, hza]; rfl) rfl
  have hUo : ((U out : Nat) : Int) = out := by unfold U; omega
  have hPP : PP Y 33 = (pt id out, 0) := by
    have e1 : A4 Y 65 = U out := by rw [hY, ← ByteArray.append_assoc]; exact A4_end _ _ 65 out (by simp only [ByteArray.size_append, hza, hzi]; rfl) rfl
    have e2 : ((numsOf Y).drop 33).take 32 = id := by
      have e3 : ((⟨#[117]⟩ : ByteArray) ++ strOfNums ha).size = 33 := by rw [ByteArray.size_append, hza]; rfl
      rw [hY, numsOf_append, ← e3, ← numsOf_length, List.drop_left, numsOf_append, numsOf_strOfNums _ hib, List.take_append_of_le_length (by omega), List.take_of_length_le (by omega)]
    unfold PP
    rw [if_pos ⟨by omega, by rw [hYs]; rfl⟩, show (33 : Int).toNat = 33 from rfl, e1, e2, hUo]
  have CPX := Lib.hid (fun wq => parsePlace_any X (by omega) wq)
  rw [if_pos hXs, if_pos hXs, if_pos hXs, hx1, hx2] at CPX
  have CPY := Lib.hid (fun wq => parsePoint_any Y (by omega) 33 ⟨by omega, by omega⟩ wq)
  rw [hPP] at CPY
  have b1 : BG X ((⟨#[104]⟩ : ByteArray) ++ strOfNums ha) = true := by rw [hX, ByteArray.append_assoc]; exact BG_app _ _
  have b2 : BG Y ((⟨#[117]⟩ : ByteArray) ++ strOfNums ha) = true := by rw [hY]; exact BG_app _ _
  have b3 : BG ((⟨#[99]⟩ : ByteArray) ++ (strOfNums id ++ F4 out)) ((⟨#[99]⟩ : ByteArray) ++ strOfNums id) = true := by rw [← ByteArray.append_assoc]; exact BG_app _ _
  have b4 : BG ((⟨#[114]⟩ : ByteArray) ++ F4 h ++ F4 i ++ F4 3) ((⟨#[114]⟩ : ByteArray) ++ F4 h) = true := by rw [ByteArray.append_assoc]; exact BG_app _ _
  have b5 : (decide (ha = hb) || (!BG X ((⟨#[104]⟩ : ByteArray) ++ strOfNums hb) && !BG Y ((⟨#[117]⟩ : ByteArray) ++ strOfNums hb))) = true := by
    by_cases he : ha = hb
    · rw [decide_eq_true he]; rfl
    · have hne : strOfNums ha ≠ strOfNums hb := fun e => he (by
        have := congrArg numsOf e
        rwa [numsOf_strOfNums _ hab, numsOf_strOfNums _ hbb] at this)
      have e1 : BG X ((⟨#[104]⟩ : ByteArray) ++ strOfNums hb) = false := by rw [hX, ByteArray.append_assoc]; exact BG_ne _ _ _ _ (by rw [hza, hzb]) hne
      have e2 : BG Y ((⟨#[117]⟩ : ByteArray) ++ strOfNums hb) = false := by rw [hY]; exact BG_ne _ _ _ _ (by rw [hza, hzb]) hne
      rw [e1, e2, decide_eq_false he]
      rfl
  rw [← hX] at CX
  rw [← hY] at CY
  have hUh := and32 h
  have hUi := and32 i
  clear hX hY hXs hYs hx1 hx2 hUo hPP hza hzb hzi hab hbb hib haw hbw hidw how ho
  generalize (⟨#[104]⟩ : ByteArray) ++ strOfNums ha = HA at CHA b1
  generalize (⟨#[104]⟩ : ByteArray) ++ strOfNums hb = HB at CHB b5
  generalize (⟨#[117]⟩ : ByteArray) ++ strOfNums ha = UA at CUA b2
  generalize (⟨#[117]⟩ : ByteArray) ++ strOfNums hb = UB at CUB b5
  generalize (⟨#[99]⟩ : ByteArray) ++ (strOfNums id ++ F4 out) = OP at COP b3
  generalize (⟨#[99]⟩ : ByteArray) ++ strOfNums id = OI at COI b3
  generalize (⟨#[114]⟩ : ByteArray) ++ F4 h ++ F4 i ++ F4 3 = UU at CUU b4
  generalize (⟨#[114]⟩ : ByteArray) ++ F4 h = US at CUS b4
  generalize hnh : ((U h : Nat) : Int) = uh at CPX hUh
  generalize hni : ((U i : Nat) : Int) = ui at CPX hUi
  have HFIN : Hid (((((BG X HA && BG Y UA) && BG OP OI) && BG UU US) && (decide (ha = hb) || (!BG X HB && !BG Y UB))) = true) := Lib.hid (by rw [b1, b2, b3, b4, b5]; rfl)
  have HAL := Lib.hid hal
  have HBL := Lib.hid hbl
  have HIL := Lib.hid hid
  have HUH := Lib.hid hUh
  have HUI := Lib.hid hUi
  clear b1 b2 b3 b4 b5 hUh hUi hnh hni hal hbl hid
  have HBB := Lib.hid (box3_new w (nums .u8 ha) (nums .u8 hb) (pt id out))
  have HB0 : Hid (Below w.heap.size w (((w.alloc (.cells (nums .u8 ha).toArray 32)).alloc (.cells (nums .u8 hb).toArray 32)).alloc (.cells (pt id out).toArray 39))) := Lib.hid (below_alloc (below_alloc (below_alloc (Below.refl _ _) _) _) _)
  go_enter Try.func12, Try.ntmps12
  go_upto_region 1 with fail
  generalize ((w.alloc (.cells (nums .u8 ha).toArray 32)).alloc (.cells (nums .u8 hb).toArray 32)).alloc (.cells (pt id out).toArray 39) = w0 at HBB HB0 ⊢
  go_wp2_with fail
  refine (C0.out _).mono ?_
  rintro e w1 ⟨rfl, hb1⟩
  have HG1 := Lib.hid (HBB.out.below hb1)
  have HW1 := Lib.hid (below_then HB0.out HB0.out.size hb1)
  clear hb1 HBB HB0 C0
  go_wp2_with (refine wpList_load_box rfl 32 (.tmp 5) rfl w.heap.size (nums .u8 ha) rfl HG1.out.a Try.underlying32 rfl (by rw [show (nums .u8 ha).length = 32 by simp [nums, HAL.out]]; exact size32) ?_)
  refine (CX.out _).mono ?_
  rintro e w2 ⟨rfl, hb2⟩
  have HG2 := Lib.hid (HG1.out.below hb2)
  have HW2 := Lib.hid (below_then HW1.out HW1.out.size hb2)
  clear hb2 HG1 HW1
  go_wp2_with (first
    | (refine wpList_load_box rfl 32 (.tmp 5) rfl w.heap.size (nums .u8 ha) rfl HG2.out.a Try.underlying32 rfl (by rw [show (nums .u8 ha).length = 32 by simp [nums, HAL.out]]; exact size32) ?_)
    | (refine wpList_load_box rfl 39 (.tmp 7) rfl (w.heap.size + 2) (pt id out) rfl HG2.out.c Try.underlying39 rfl (by rw [show (pt id out).length = 33 by simp [pt, nums, HIL.out]]; kernel_rfl) ?_))
  refine (CY.out _).mono ?_
  rintro e w3 ⟨rfl, hb3⟩
  have HG3 := Lib.hid (HG2.out.below hb3)
  have HW3 := Lib.hid (below_then HW2.out HW2.out.size hb3)
  clear hb3 HG2 HW2
  go_wp2_with fail
  refine (CPX.out _).mono ?_
  rintro e w4 ⟨rfl, hb4⟩
  have HG4 := Lib.hid (HG3.out.below hb4)
  have HW4 := Lib.hid (below_then HW3.out HW3.out.size hb4)
  clear hb4 HG3 HW3
  go_wp2_with fail
  refine (CPY.out _).mono ?_
  rintro e w5 ⟨rfl, hb5⟩
  have HG5 := Lib.hid (HG4.out.below hb5)
  have HW5 := Lib.hid (below_then HW4.out HW4.out.size hb5)
  clear hb5 HG4 HW4
  go_upto_region 8 with (refine wpList_store_box rfl 39 (.tmp 17) (.tmp 37) rfl w5.heap.size (pt id out) rfl rfl (heap_alloc_new w5 _) (by rw [show (pt id out).length = 33 by simp [pt, nums, HIL.out]]; rfl) (by rw [show (pt id out).length = 33 by simp [pt, nums, HIL.out]]; kernel_rfl) (pt_one _ _) ?_; intro w6 hs6; have HS6 := Lib.hid hs6; clear hs6)
  have hb6 : Below w5.heap.size w5 w6 := HS6.out.then_ (below_alloc (Below.refl _ _) _) (Nat.le_refl _)
  have HG6 := Lib.hid (HG5.out.below hb6)
  have HW6 := Lib.hid (below_then HW5.out HW5.out.size hb6)
  have HX6 := Lib.hid HS6.out.at_
  clear hb6 HS6 HG5 HW5
  refine plain_ (fun wq => Below w6.heap.size w6 wq) (fun _ => True) reg_12_8 rfl inv0 (fun _ _ _ _ => trivial) (Below.refl _ _) trivial ?_
  refine w_move (.inl rfl) (fun vs w hK => ⟨wants_none rfl, rho_out rfl rfl⟩) ?_
  refine w_val [(39, _)] (_) (fun vs w hK => ⟨wants_none rfl, rho_in rfl (fv (hK 0 (memE rfl))), trivial⟩) rfl (fun wq hI => by exact run_int_neq rfl rfl rfl rfl) ?_
  refine w_move (.inl rfl) (fun vs w hK => ⟨wants_none rfl, rho_in rfl (fv (hK 1 (memE rfl)))⟩) ?_
  refine w_moveG (.inl rfl) (fun vs w hK => wantsF rfl (fv (hK 2 (memE rfl)))) (fun hG vs w hK => (rho_out rfl rfl)) ?_
  refine w_valG [(42, _)] (_) (fun vs w hK => wantsF rfl (fv (hK 2 (memE rfl)))) (fun hG vs w hK => ⟨(rho_in rfl (fvg (hK 3 (memE rfl)) hG)), trivial⟩) rfl (fun hG wq hI => by exact run_int_neq rfl rfl rfl rfl) ?_
  refine w_or rfl (fun vs w hK => wants_none rfl) (fun vs w hK => (rho_in rfl (fv (hK 2 (memE rfl))))) (fun hB vs w hK => (rho_in rfl (fvg (hK 4 (memE rfl)) (gnot hB)))) ?_
  refine w_move (.inl rfl) (fun vs w hK => ⟨wants_none rfl, rho_in rfl (fv (hK 5 (memE rfl)))⟩) ?_
  refine w_moveG (.inl rfl) (fun vs w hK => wantsF rfl (fv (hK 6 (memE rfl)))) (fun hG vs w hK => (rho_out rfl rfl)) ?_
  refine w_moveG (.inl rfl) (fun vs w hK => wantsF rfl (fv (hK 6 (memE rfl)))) (fun hG vs w hK => (rho_out rfl rfl)) ?_
  refine w_valG [(47, _)] (_) (fun vs w hK => wantsF rfl (fv (hK 6 (memE rfl)))) (fun hG vs w hK => ⟨(rho_in rfl (fvg (hK 8 (memE rfl)) hG)), trivial⟩) rfl (fun hG wq hI => by exact op_and rfl rfl rfl HUH.out) ?_
  refine w_valG [(46, _), (48, _)] (_) (fun vs w hK => wantsF rfl (fv (hK 6 (memE rfl)))) (fun hG vs w hK => ⟨(rho_in rfl (fvg (hK 7 (memE rfl)) hG)), (rho_in rfl (fvg (hK 9 (memE rfl)) hG)), trivial⟩) rfl (fun hG wq hI => by exact run_int_neq rfl rfl rfl rfl) ?_
  refine w_or rfl (fun vs w hK => wants_none rfl) (fun vs w hK => (rho_in rfl (fv (hK 6 (memE rfl))))) (fun hB vs w hK => (rho_in rfl (fvg (hK 10 (memE rfl)) (gnot hB)))) ?_
  refine w_move (.inl rfl) (fun vs w hK => ⟨wants_none rfl, rho_in rfl (fv (hK 11 (memE rfl)))⟩) ?_
  refine w_moveG (.inl rfl) (fun vs w hK => wantsF rfl (fv (hK 12 (memE rfl)))) (fun hG vs w hK => (rho_out rfl rfl)) ?_
  refine w_moveG (.inl rfl) (fun vs w hK => wantsF rfl (fv (hK 12 (memE rfl)))) (fun hG vs w hK => (rho_out rfl rfl)) ?_
  refine w_valG [(53, _)] (_) (fun vs w hK => wantsF rfl (fv (hK 12 (memE rfl)))) (fun hG vs w hK => ⟨(rho_in rfl (fvg (hK 14 (memE rfl)) hG)), trivial⟩) rfl (fun hG wq hI => by exact op_and rfl rfl rfl HUI.out) ?_
  refine w_valG [(52, _), (54, _)] (_) (fun vs w hK => wantsF rfl (fv (hK 12 (memE rfl)))) (fun hG vs w hK => ⟨(rho_in rfl (fvg (hK 13 (memE rfl)) hG)), (rho_in rfl (fvg (hK 15 (memE rfl)) hG)), trivial⟩) rfl (fun hG wq hI => by exact run_int_neq rfl rfl rfl rfl) ?_
  refine w_or rfl (fun vs w hK => wants_none rfl) (fun vs w hK => (rho_in rfl (fv (hK 12 (memE rfl))))) (fun hB vs w hK => (rho_in rfl (fvg (hK 16 (memE rfl)) (gnot hB)))) ?_
  refine w_move (.inl rfl) (fun vs w hK => ⟨wants_none rfl, rho_in rfl (fv (hK 17 (memE rfl)))⟩) ?_
  refine w_valG [(17, _)] (_) (fun vs w hK => wantsF rfl (fv (hK 18 (memE rfl)))) (fun hG vs w hK => ⟨(rho_out rfl rfl), trivial⟩) rfl (fun hG wq hI => by exact run_load_op rfl rfl (load_pt HIL.out (box_stays HX6.out hI))) ?_
  refine w_valG [(7, _)] (_) (fun vs w hK => wantsF rfl (fv (hK 18 (memE rfl)))) (fun hG vs w hK => ⟨(rho_out rfl rfl), trivial⟩) rfl (fun hG wq hI => by exact run_load_op rfl rfl (load_pt HIL.out (HG6.out.below hI).c)) ?_
  refine w_valG [(58, _), (59, _)] (_) (fun vs w hK => wantsF rfl (fv (hK 18 (memE rfl)))) (fun hG vs w hK => ⟨(rho_in rfl (fvg (hK 19 (memE rfl)) hG)), (rho_in rfl (fvg (hK 20 (memE rfl)) hG)), trivial⟩) rfl (fun hG wq hI => by exact op_agg_neq rfl rfl rfl (by kernel_rfl) (pt_equalIn 9997 id id out out HIL.out HIL.out wq)) ?_
  refine w_or rfl (fun vs w hK => wants_none rfl) (fun vs w hK => (rho_in rfl (fv (hK 18 (memE rfl))))) (fun hB vs w hK => (rho_in rfl (fvg (hK 21 (memE rfl)) (gnot hB)))) ?_
  refine w_as (c' := .bool false) (by simp) ?_
  refine w_endM [false, false, false, false, false, false, false, false, false, false, false, false, false, false, false, false, false, false, false, false, false, false, true] rfl rfl rfl (fun vs wq hI hF => ?_)
  simp only [List.reverse_cons, List.reverse_nil, List.nil_append, List.cons_append, finL_val, finL_of, finL_any, finL_app, finL_new, finL_gr, finL_row, finL_box, finL_nil, Act.put, List.setIfInBounds_toArray, List.set_cons_zero, List.set_cons_succ, Nat.reduceAdd, maskF, finL_imp, Bool.not_false, Bool.not_true, Bool.true_and, Bool.false_and]
  have HG7 := Lib.hid (HG6.out.below hI)
  have HW7 := Lib.hid (below_then HW6.out HW6.out.size hI)
  clear hI hF HG6 HW6 HX6
  obtain ⟨w7, rfl⟩ : ∃ w7 : World, w7 = wq := ⟨_, rfl⟩
  go_upto_region 10 with fail
  refine draws_ (fun wq => Below w7.heap.size w7 wq) (fun _ => True) (by kernel_rfl) reg_12_10 rfl inv0 (fun _ _ _ _ => trivial) (below_drew (Below.refl _ _)) trivial ?_
  refine w_move (.inl rfl) (fun vs w hK => ⟨wants_none rfl, rho_out rfl rfl⟩) ?_
  refine w_move (.inl rfl) (fun vs w hK => ⟨wants_none rfl, rho_out rfl rfl⟩) ?_
  refine w_val [(5, _)] (_) (fun vs w hK => ⟨wants_none rfl, rho_out rfl rfl, trivial⟩) rfl (fun wq hI => by exact run_load_op rfl rfl (load_hash HAL.out (HG7.out.below hI).a)) ?_
  refine w_call [(64, _)] _ _ (by decide) (fun vs w hK => ⟨wants_none rfl, rho_in rfl (fv (hK 2 (memE rfl))), trivial⟩) rfl rfl Try.func30 (by kernel_rfl) rfl (fun wq hI => CHA.out wq) (margs rfl) ?_
  refine w_callv [(62, _), (63, _), (65, _)] _ _ (by decide) (fun vs w hK => ⟨wants_none rfl, rho_in rfl (fv (hK 0 (memE rfl))), rho_in rfl (fv (hK 1 (memE rfl))), rho_in rfl (fv (hK 3 (memE rfl))), trivial⟩) rfl rfl rfl Try.func48 (by kernel_rfl) rfl (fun wq hI => begins_any X HA wq) (margsC rfl) ?_
  refine w_move (.inl rfl) (fun vs w hK => ⟨wants_none rfl, rho_in rfl (fv (hK 4 (memE rfl)))⟩) ?_
  refine w_moveG (.inl rfl) (fun vs w hK => wantsT rfl (fv (hK 5 (memE rfl)))) (fun hG vs w hK => (rho_out rfl rfl)) ?_
  refine w_moveG (.inl rfl) (fun vs w hK => wantsT rfl (fv (hK 5 (memE rfl)))) (fun hG vs w hK => (rho_out rfl rfl)) ?_
  refine w_valG [(5, _)] (_) (fun vs w hK => wantsT rfl (fv (hK 5 (memE rfl)))) (fun hG vs w hK => ⟨(rho_out rfl rfl), trivial⟩) rfl (fun hG wq hI => by exact run_load_op rfl rfl (load_hash HAL.out (HG7.out.below hI).a)) ?_
  refine w_callG [(70, _)] _ _ (by decide) (fun vs w hK => wantsT rfl (fv (hK 5 (memE rfl)))) (fun hG vs w hK => ⟨(rho_in rfl (fvg (hK 8 (memE rfl)) hG)), trivial⟩) rfl rfl Try.func31 (by kernel_rfl) rfl (fun hG wq hI => CUA.out wq) (margs rfl) ?_
  refine w_callvG [(68, _), (69, _), (71, _)] _ _ (by decide) (fun vs w hK => wantsT rfl (fv (hK 5 (memE rfl)))) (fun hG vs w hK => ⟨(rho_in rfl (fvg (hK 6 (memE rfl)) hG)), (rho_in rfl (fvg (hK 7 (memE rfl)) hG)), (rho_in rfl (fvg (hK 9 (memE rfl)) hG)), trivial⟩) rfl rfl rfl Try.func48 (by kernel_rfl) rfl (fun hG wq hI => begins_any Y UA wq) (margsC rfl) ?_
  refine w_and rfl (fun vs w hK => wants_none rfl) (fun vs w hK => (rho_in rfl (fv (hK 5 (memE rfl))))) (fun hB vs w hK => (rho_in rfl (fvg (hK 10 (memE rfl)) hB))) ?_
  refine w_move (.inl rfl) (fun vs w hK => ⟨wants_none rfl, rho_in rfl (fv (hK 11 (memE rfl)))⟩) ?_
  refine w_moveG (.inl rfl) (fun vs w hK => wantsT rfl (fv (hK 12 (memE rfl)))) (fun hG vs w hK => (rho_out rfl rfl)) ?_
  refine w_valG [(7, _)] (_) (fun vs w hK => wantsT rfl (fv (hK 12 (memE rfl)))) (fun hG vs w hK => ⟨(rho_out rfl rfl), trivial⟩) rfl (fun hG wq hI => by exact run_load_op rfl rfl (load_pt HIL.out (HG7.out.below hI).c)) ?_
  refine w_callG [(76, _)] _ _ (by decide) (fun vs w hK => wantsT rfl (fv (hK 12 (memE rfl)))) (fun hG vs w hK => ⟨(rho_in rfl (fvg (hK 14 (memE rfl)) hG)), trivial⟩) rfl rfl Try.func22 (by kernel_rfl) rfl (fun hG wq hI => COP.out wq) (margs rfl) ?_
  refine w_valG [(7, _)] (_) (fun vs w hK => wantsT rfl (fv (hK 12 (memE rfl)))) (fun hG vs w hK => ⟨(rho_out rfl rfl), trivial⟩) rfl (fun hG wq hI => by simp only [execOp, Option.map_some, Option.map_none, lk_tmp, lk_const, lkT_cons, ↓reduceIte, Nat.reduceEqDiff]; go_simp; (first | done | rfl)) ?_
  refine w_valG [(78, _)] (_) (fun vs w hK => wantsT rfl (fv (hK 12 (memE rfl)))) (fun hG vs w hK => ⟨(rho_in rfl (fvg (hK 16 (memE rfl)) hG)), trivial⟩) rfl (fun hG wq hI => by exact run_load_op rfl rfl (load_pt_id HIL.out (HG7.out.below hI).c)) ?_
  refine w_callG [(79, _)] _ _ (by decide) (fun vs w hK => wantsT rfl (fv (hK 12 (memE rfl)))) (fun hG vs w hK => ⟨(rho_in rfl (fvg (hK 17 (memE rfl)) hG)), trivial⟩) rfl rfl Try.func32 (by kernel_rfl) rfl (fun hG wq hI => COI.out wq) (margs rfl) ?_
  refine w_callvG [(75, _), (77, _), (80, _)] _ _ (by decide) (fun vs w hK => wantsT rfl (fv (hK 12 (memE rfl)))) (fun hG vs w hK => ⟨(rho_in rfl (fvg (hK 13 (memE rfl)) hG)), (rho_in rfl (fvg (hK 15 (memE rfl)) hG)), (rho_in rfl (fvg (hK 18 (memE rfl)) hG)), trivial⟩) rfl rfl rfl Try.func48 (by kernel_rfl) rfl (fun hG wq hI => begins_any OP OI wq) (margsC rfl) ?_
  refine w_and rfl (fun vs w hK => wants_none rfl) (fun vs w hK => (rho_in rfl (fv (hK 12 (memE rfl))))) (fun hB vs w hK => (rho_in rfl (fvg (hK 19 (memE rfl)) hB))) ?_
  refine w_move (.inl rfl) (fun vs w hK => ⟨wants_none rfl, rho_in rfl (fv (hK 20 (memE rfl)))⟩) ?_
  refine w_moveG (.inl rfl) (fun vs w hK => wantsT rfl (fv (hK 21 (memE rfl)))) (fun hG vs w hK => (rho_out rfl rfl)) ?_
  refine w_moveG (.inl rfl) (fun vs w hK => wantsT rfl (fv (hK 21 (memE rfl)))) (fun hG vs w hK => (rho_out rfl rfl)) ?_
  refine w_moveG (.inl rfl) (fun vs w hK => wantsT rfl (fv (hK 21 (memE rfl)))) (fun hG vs w hK => (rho_out rfl rfl)) ?_
  refine w_callG [(85, _), (86, _)] _ _ (by decide) (fun vs w hK => wantsT rfl (fv (hK 21 (memE rfl)))) (fun hG vs w hK => ⟨(rho_in rfl (fvg (hK 23 (memE rfl)) hG)), (rho_in rfl (fvg (hK 24 (memE rfl)) hG)), trivial⟩) rfl rfl Try.func24 (by kernel_rfl) rfl (fun hG wq hI => CUU.out wq) (margs rfl) ?_
  refine w_moveG (.inl rfl) (fun vs w hK => wantsT rfl (fv (hK 21 (memE rfl)))) (fun hG vs w hK => (rho_out rfl rfl)) ?_
  refine w_callG [(88, _)] _ _ (by decide) (fun vs w hK => wantsT rfl (fv (hK 21 (memE rfl)))) (fun hG vs w hK => ⟨(rho_in rfl (fvg (hK 26 (memE rfl)) hG)), trivial⟩) rfl rfl Try.func33 (by kernel_rfl) rfl (fun hG wq hI => CUS.out wq) (margs rfl) ?_
  refine w_callvG [(84, _), (87, _), (89, _)] _ _ (by decide) (fun vs w hK => wantsT rfl (fv (hK 21 (memE rfl)))) (fun hG vs w hK => ⟨(rho_in rfl (fvg (hK 22 (memE rfl)) hG)), (rho_in rfl (fvg (hK 25 (memE rfl)) hG)), (rho_in rfl (fvg (hK 27 (memE rfl)) hG)), trivial⟩) rfl rfl rfl Try.func48 (by kernel_rfl) rfl (fun hG wq hI => begins_any UU US wq) (margsC rfl) ?_
  refine w_and rfl (fun vs w hK => wants_none rfl) (fun vs w hK => (rho_in rfl (fv (hK 21 (memE rfl))))) (fun hB vs w hK => (rho_in rfl (fvg (hK 28 (memE rfl)) hB))) ?_
  refine w_move (.inl rfl) (fun vs w hK => ⟨wants_none rfl, rho_in rfl (fv (hK 29 (memE rfl)))⟩) ?_
  refine w_valG [(5, _)] (_) (fun vs w hK => wantsT rfl (fv (hK 30 (memE rfl)))) (fun hG vs w hK => ⟨(rho_out rfl rfl), trivial⟩) rfl (fun hG wq hI => by exact run_load_op rfl rfl (load_hash HAL.out (HG7.out.below hI).a)) ?_
  refine w_valG [(6, _)] (_) (fun vs w hK => wantsT rfl (fv (hK 30 (memE rfl)))) (fun hG vs w hK => ⟨(rho_out rfl rfl), trivial⟩) rfl (fun hG wq hI => by exact run_load_op rfl rfl (load_hash HBL.out (HG7.out.below hI).b)) ?_
  refine w_valG [(93, _), (94, _)] (_) (fun vs w hK => wantsT rfl (fv (hK 30 (memE rfl)))) (fun hG vs w hK => ⟨(rho_in rfl (fvg (hK 31 (memE rfl)) hG)), (rho_in rfl (fvg (hK 32 (memE rfl)) hG)), trivial⟩) rfl (fun hG wq hI => by exact op_agg_eql rfl rfl rfl (by kernel_rfl) (hash_equalIn 9998 ha hb HAL.out HBL.out wq)) ?_
  refine w_moveG (.inl rfl) (fun vs w hK => wantsT rfl (fv (hK 30 (memE rfl)))) (fun hG vs w hK => (rho_in rfl (fvg (hK 33 (memE rfl)) hG))) ?_
  refine w_moveG (.inl rfl) (fun vs w hK => wantsFg rfl (fv (hK 34 (memE rfl)))) (fun hG vs w hK => (rho_out rfl rfl)) ?_
  refine w_moveG (.inl rfl) (fun vs w hK => wantsFg rfl (fv (hK 34 (memE rfl)))) (fun hG vs w hK => (rho_out rfl rfl)) ?_
  refine w_valG [(6, _)] (_) (fun vs w hK => wantsFg rfl (fv (hK 34 (memE rfl)))) (fun hG vs w hK => ⟨(rho_out rfl rfl), trivial⟩) rfl (fun hG wq hI => by exact run_load_op rfl rfl (load_hash HBL.out (HG7.out.below hI).b)) ?_
  refine w_callG [(99, _)] _ _ (by decide) (fun vs w hK => wantsFg rfl (fv (hK 34 (memE rfl)))) (fun hG vs w hK => ⟨(rho_in rfl (fvg (hK 37 (memE rfl)) hG)), trivial⟩) rfl rfl Try.func30 (by kernel_rfl) rfl (fun hG wq hI => CHB.out wq) (margs rfl) ?_
  refine w_callvG [(97, _), (98, _), (100, _)] _ _ (by decide) (fun vs w hK => wantsFg rfl (fv (hK 34 (memE rfl)))) (fun hG vs w hK => ⟨(rho_in rfl (fvg (hK 35 (memE rfl)) hG)), (rho_in rfl (fvg (hK 36 (memE rfl)) hG)), (rho_in rfl (fvg (hK 38 (memE rfl)) hG)), trivial⟩) rfl rfl rfl Try.func48 (by kernel_rfl) rfl (fun hG wq hI => begins_any X HB wq) (margsC rfl) ?_
  refine w_valG [(101, _)] (_) (fun vs w hK => wantsFg rfl (fv (hK 34 (memE rfl)))) (fun hG vs w hK => ⟨(rho_in rfl (fvg (hK 39 (memE rfl)) hG)), trivial⟩) rfl (fun hG wq hI => by exact op_not rfl rfl rfl) ?_
  refine w_moveG (.inl rfl) (fun vs w hK => wantsFg rfl (fv (hK 34 (memE rfl)))) (fun hG vs w hK => (rho_in rfl (fvg (hK 40 (memE rfl)) hG))) ?_
  refine w_moveG (.inl rfl) (fun vs w hK => wantsTg rfl (fv (hK 41 (memE rfl)))) (fun hG vs w hK => (rho_out rfl rfl)) ?_
  refine w_moveG (.inl rfl) (fun vs w hK => wantsTg rfl (fv (hK 41 (memE rfl)))) (fun hG vs w hK => (rho_out rfl rfl)) ?_
  refine w_valG [(6, _)] (_) (fun vs w hK => wantsTg rfl (fv (hK 41 (memE rfl)))) (fun hG vs w hK => ⟨(rho_out rfl rfl), trivial⟩) rfl (fun hG wq hI => by exact run_load_op rfl rfl (load_hash HBL.out (HG7.out.below hI).b)) ?_
  refine w_callG [(106, _)] _ _ (by decide) (fun vs w hK => wantsTg rfl (fv (hK 41 (memE rfl)))) (fun hG vs w hK => ⟨(rho_in rfl (fvg (hK 44 (memE rfl)) hG)), trivial⟩) rfl rfl Try.func31 (by kernel_rfl) rfl (fun hG wq hI => CUB.out wq) (margs rfl) ?_
  refine w_callvG [(104, _), (105, _), (107, _)] _ _ (by decide) (fun vs w hK => wantsTg rfl (fv (hK 41 (memE rfl)))) (fun hG vs w hK => ⟨(rho_in rfl (fvg (hK 42 (memE rfl)) hG)), (rho_in rfl (fvg (hK 43 (memE rfl)) hG)), (rho_in rfl (fvg (hK 45 (memE rfl)) hG)), trivial⟩) rfl rfl rfl Try.func48 (by kernel_rfl) rfl (fun hG wq hI => begins_any Y UB wq) (margsC rfl) ?_
  refine w_valG [(108, _)] (_) (fun vs w hK => wantsTg rfl (fv (hK 41 (memE rfl)))) (fun hG vs w hK => ⟨(rho_in rfl (fvg (hK 46 (memE rfl)) hG)), trivial⟩) rfl (fun hG wq hI => by exact op_not rfl rfl rfl) ?_
  refine w_andG rfl (fun vs w hK => wantsFg rfl (fv (hK 34 (memE rfl)))) (fun hG vs w hK => (rho_in rfl (fvg (hK 41 (memE rfl)) hG))) (fun hG hB vs w hK => (rho_in rfl (fvg (hK 47 (memE rfl)) (gand hG hB)))) ?_
  refine w_orG rfl (fun vs w hK => wantsT rfl (fv (hK 30 (memE rfl)))) (fun hG vs w hK => (rho_in rfl (fvg (hK 34 (memE rfl)) hG))) (fun hG hB vs w hK => (rho_in rfl (fvg (hK 48 (memE rfl)) (gand hG (gnot hB))))) ?_
  refine w_and rfl (fun vs w hK => wants_none rfl) (fun vs w hK => (rho_in rfl (fv (hK 30 (memE rfl))))) (fun hB vs w hK => (rho_in rfl (fvg (hK 49 (memE rfl)) hB))) ?_
  refine w_as (c' := .bool true) (congrArg Value.bool HFIN.out) ?_
  refine w_move (.inr rfl) (fun vs w hK => ⟨wants_none rfl, rho_in rfl (fv (hK 50 (memE rfl)))⟩) ?_
  refine w_endM [false, false, false, false, false, false, false, false, false, false, false, false, false, false, false, false, false, false, false, false, false, false, false, false, false, false, false, false, false, false, false, false, false, false, false, false, false, false, false, false, false, false, false, false, false, false, false, false, false, false, false, true] rfl rfl rfl (fun vs wq hI hF => ?_)
  simp only [List.reverse_cons, List.reverse_nil, List.nil_append, List.cons_append, finL_val, finL_of, finL_any, finL_app, finL_new, finL_gr, finL_row, finL_box, finL_nil, Act.put, List.setIfInBounds_toArray, List.set_cons_zero, List.set_cons_succ, Nat.reduceAdd, maskF, finL_imp, Bool.not_false, Bool.not_true, Bool.true_and, Bool.false_and]
  have HW8 := Lib.hid (below_then HW7.out HW7.out.size hI)
  clear hI hF
  go_wp2_with fail
  go_ret
  exact ⟨rfl, HW8.out⟩
end Go.Proofs.Ytglkagicmolbeaa.Rw

