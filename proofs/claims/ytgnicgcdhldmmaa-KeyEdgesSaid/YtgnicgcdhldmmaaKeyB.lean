/- Contracts of package key: Inner. -/
import Derived.Test.YtgnicgcdhldmmaaKeyA
namespace Go.Proofs.Ytgnicgcdhldmmaa.Key
set_option linter.unusedVariables false
set_option linter.unusedSimpArgs false
open Go.Proofs.Ytgnicgcdhldmmaa.Kit Go.Proofs.Ytgnicgcdhldmmaa.Num Go.RowKit Go.Proofs.YtgnicgcdhldmmaaW.PrintWords Go.Proofs.YtgnicgcdhldmmaaW.PrintLast Go.Proofs.YtgnicgcdhldmmaaW.PrintMore NumPure
def esc (l : List Int) : List Int := l.flatMap fun c => if c = 0 then [0, 255] else [c]
theorem esc_snoc (l : List Int) (c : Int) : esc (l ++ [c]) = esc l ++ (if c = 0 then [0, 255] else [c]) := by simp [esc]
theorem esc_length (l : List Int) : (esc l).length ≤ 2 * l.length := by
  induction l with
  | nil => simp [esc]
  | cons c r ih =>
    have h : (esc (c :: r)).length = (if c = 0 then [(0 : Int), 255] else [c]).length + (esc r).length := by simp [esc]
    rw [h, List.length_cons]
    split <;> simp <;> omega
/-- The number that tells an entry's number and kind. -/
def Ent.num (x : Ent) : Nat := (2 * x.seq) % 18446744073709551616 + (if x.del then 0 else 1)
theorem num_lt (x : Ent) : x.num < 18446744073709551616 := by
  unfold Ent.num
  split <;> omega
def Ent.flip (x : Ent) : Nat := 18446744073709551615 - x.num
def Ent.inL (x : Ent) : List Int := esc (numsOf x.key) ++ [0, 1] ++ be x.flip 8
def Ent.inner (x : Ent) : ByteArray := strOfNums x.inL
theorem inL_length (x : Ent) : x.inL.length = (esc (numsOf x.key)).length + 10 := by simp [Ent.inL, be_length]
theorem u64_not (u : Nat) (hu : u < 18446744073709551616) : Go.bits .xor .u64 IntKind.u64.max (u : Int) = ((18446744073709551615 - u : Nat) : Int) := by
  have h1 : BitVec.ofInt 64 IntKind.u64.max = BitVec.allOnes 64 := by decide
  show IntKind.u64.wrap (((BitVec.ofInt 64 IntKind.u64.max) ^^^ BitVec.ofInt 64 (u : Int)).toNat : Int) = _
  rw [h1, BitVec.ofInt_natCast, BitVec.allOnes_xor, BitVec.toNat_not, BitVec.toNat_ofNat, Nat.mod_eq_of_lt hu]
  simp [IntKind.wrap, IntKind.signed, IntKind.bits]
  omega
set_option maxRecDepth 20000 in
set_option maxHeartbeats 3200000 in
theorem inner_any (x : Ent) (hx : x.ok) (hkk : x.key.size ≤ 70000) (w : World) : Calls Try.prog 13 #[x.ag] w fun e w' => e = .returned (.string x.inner) ∧ Below w.heap.size w w' := by
  have hfl : x.flip < 18446744073709551616 := by have := num_lt x; unfold Ent.flip; omega
  have HIN : Hid (x.inner = strOfNums (esc (numsOf x.key) ++ [0, 1] ++ be x.flip 8)) := Lib.hid rfl
  have HFL : Hid (x.flip = 18446744073709551615 - ((2 * x.seq) % 18446744073709551616 + (if x.del then 0 else 1))) := Lib.hid rfl
  obtain ⟨K, s, d, V⟩ := x
  obtain ⟨h1, h2, h3⟩ := hx
  generalize Ent.flip ⟨K, s, d, V⟩ = f at HIN HFL hfl
  generalize Ent.inner ⟨K, s, d, V⟩ = R at HIN ⊢
  simp only [Ent.ag, Ent.cells] at h1 h2 h3 hkk HIN HFL ⊢
  have hba : Below w.heap.size w (w.alloc (.cells #[.string K, .int .u64 s, .bool d, .string V] 24)) := below_alloc (Below.refl _ _) _
  obtain ⟨v1, w1, hcv, hb1, ho1, _⟩ := conv_bytes (t := 33) Try.underlying9 Try.underlying33 Try.underlying5 (w.alloc (.cells #[.string K, .int .u64 s, .bool d, .string V] 24)) K (by simp only [maxLen]; omega) hba.size
  have HBA := Lib.hid (below_then hba hba.size hb1)
  obtain ⟨A1, n1, c1, rfl, h1c, HL1, h1m, hr1⟩ := gr_open ho1
  have hn1 : n1 = K.size := by rw [← HL1.out, numsOf_length]
  have hn7 : n1 ≤ 70000 := by omega
  clear hn1
  have hbt := numsOf_byte K
  generalize numsOf K = L at hr1 HL1 HIN hbt
  have HR1 := Lib.hid hr1
  have HBT := Lib.hid hbt
  obtain ⟨u, hu⟩ : ∃ u : Nat, u = (2 * s) % 18446744073709551616 := ⟨_, rfl⟩
  have hu2 : IntKind.u64.wrap ((s : Int) * 2) = (u : Int) := by rw [hu]; simp [IntKind.wrap, IntKind.signed, IntKind.bits]; omega
  have hul : u < 18446744073709551616 := by omega
  obtain ⟨g, hg⟩ : ∃ g : Nat, g = u + 1 := ⟨_, rfl⟩
  have hor : Go.bits .or .u64 (u : Int) 1 = (g : Int) := by
    have h := u64_or_nat u 1 hul (by omega)
    rw [show ((1 : Nat) : Int) = 1 from rfl] at h
    rw [h]
    congr 1
    have h2 := Nat.two_pow_add_eq_or_of_lt (i := 1) (b := 1) (by omega) (u / 2)
    have h3 : 2 ^ 1 * (u / 2) = u := by omega
    rw [h3] at h2
    rw [hg]
    exact h2.symm
  have hgl : g < 18446744073709551616 := by omega
  have HG := Lib.hid hg
  have HUL := Lib.hid hul
  have HGL := Lib.hid hgl
  have HFF := Lib.hid hfl
  have HU := Lib.hid hu
  clear ho1 hr1 hbt hu hba hb1 hg hul hgl hfl h1
  go_enter Try.func13, Try.ntmps13
  cases d
  · have hnot : Go.bits .xor .u64 IntKind.u64.max (g : Int) = (f : Int) := by rw [u64_not _ HGL.out, HFL.out]; congr 1; have := HU.out; have := HG.out; simp; omega
    go_wp2_with fail
    go_loopw [4, 19] (fun b i wr => ∃ (k : Nat) (v : Value), v = b ∧ i = .int .i64 k ∧ k ≤ n1 ∧ Hid (GrB wr w1.heap.size v (esc (L.take k))) ∧ Hid (Below w1.heap.size w1 wr)) (fun _ i _ => n1 - (intOf i).toNat)
    case atStart => exact ⟨0, _, rfl, rfl, Nat.zero_le _, Lib.hid (gr_nil _ _ _), Lib.hid (Below.refl _ _)⟩
    case round =>
      obtain ⟨k, v, hv, rfl, hk, HO, HB⟩ := hrel
      subst hv
      have hel := esc_length (L.take k)
      rw [List.length_take, HL1.out] at hel
      by_cases hlt : k < n1
      · have t2 : decide ((k : Int) < (n1 : Int)) = true := decide_eq_true (by omega)
        obtain ⟨ad, e1, hc1⟩ := rds_at 0 (rds_below HR1.out HB.out) k hlt
        subst e1
        obtain ⟨c, hc, hcl⟩ := getD_nat HBT.out k
        rw [hc] at hc1
        have hsn : esc (L.take (k + 1)) = esc (L.take k) ++ (if (c : Int) = 0 then [0, 255] else [(c : Int)]) := by
          rw [List.take_succ_eq_append_getElem (by rw [HL1.out]; exact hlt), esc_snoc]
          rw [List.getD_eq_getElem?_getD, List.getElem?_eq_getElem (by rw [HL1.out]; exact hlt)] at hc
          simp only [Option.getD_some] at hc
          rw [hc]
        have i0 : (0 : Int) ≤ (k : Int) := by omega
        have i1 : (k : Int) < (n1 : Int) := by omega
        clear hc
        by_cases hz : c = 0
        · subst hz
          rw [if_pos (show ((0 : Nat) : Int) = 0 from rfl)] at hsn
          have HSN := Lib.hid hsn
          clear hsn
          go_wp2_with (first
            | (at_builtin; refine gapp_one (enc := Value.int .u8) (h1 := int_one .u8) tb (p := (0 : Int)) rfl (.tmp 23) (.tmp 25) rfl rfl rfl HO.out HB.out HB.out.size ?cL ?_; (case cL => omega); intro v6 w6 ho hb6 hs1 hf; have HO6 : Hid (GrB w6 w1.heap.size v6 (esc (L.take k) ++ [0])) := Lib.hid ho; have HB6 : Hid (Below w1.heap.size w1 w6) := Lib.hid hb6; clear ho hb6 hs1 hf)
            | (at_builtin; refine gapp_one (enc := Value.int .u8) (h1 := int_one .u8) tb (p := (255 : Int)) rfl (.tmp 29) (.tmp 30) rfl rfl rfl HO6.out HB6.out HB6.out.size ?cL ?_; (case cL => simp; omega); intro v7 w7 ho hb6 hs1 hf; have HO7 : Hid (GrB w7 w1.heap.size v7 (esc (L.take (k + 1)))) := Lib.hid (by rw [HSN.out, show ([0, 255] : List Int) = [0] ++ [255] from rfl, ← List.append_assoc]; exact ho); have HB7 : Hid (Below w1.heap.size w1 w7) := Lib.hid hb6; clear ho hb6 hs1 hf))
          go_roundw
          case rel => exact ⟨k + 1, _, rfl, by go_num, by omega, HO7, HB7⟩
          case measure => simp [intOf]; omega
        · have t3 : ((c : Int) == 0) = false := by simp; omega
          rw [if_neg (by omega)] at hsn
          have HSN := Lib.hid hsn
          have HZ := Lib.hid hz
          clear hsn hz
          go_wp2_with (at_builtin; refine gapp_one (enc := Value.int .u8) (h1 := int_one .u8) tb (p := (c : Int)) rfl (.tmp 23) (.tmp 25) rfl rfl rfl HO.out HB.out HB.out.size ?cL ?_; (case cL => omega); intro v6 w6 ho hb6 hs1 hf; have HO6 : Hid (GrB w6 w1.heap.size v6 (esc (L.take (k + 1)))) := Lib.hid (by rw [HSN.out]; exact ho); have HB6 : Hid (Below w1.heap.size w1 w6) := Lib.hid hb6; clear ho hb6 hs1 hf)
          go_roundw
          case rel => exact ⟨k + 1, _, rfl, by go_num, by omega, HO6, HB6⟩
          case measure => simp [intOf]; omega
      · obtain rfl : k = n1 := by omega
        have t2 : decide ((k : Int) < (k : Int)) = false := by simp
        have htk : L.take k = L := List.take_of_length_le (by rw [HL1.out]; exact Nat.le_refl _)
        have HO' : Hid (GrB wr w1.heap.size v (esc L)) := Lib.hid (by have := HO.out; rwa [htk] at this)
        rw [htk] at hel
        have C2 := Lib.hid (fun wq v xs a b c => putBig_any f 8 HFF.out v xs w1 wq a b c)
        have hlit : Rds .u8 (wr.alloc (.cells #[.int .u8 0, .int .u8 1] 5)) (some ⟨wr.heap.size, 0, none⟩) 2 [0, 1] := rds_lit wr 5 (0, 0) 0 [0, 1] (by simp) 2 rfl
        have HLIT := Lib.hid hlit
        have HOL := Lib.hid (gr_below HO'.out (below_alloc (Below.refl _ _) (.cells #[.int .u8 0, .int .u8 1] 5)))
        have HBL := Lib.hid (below_alloc HB.out (.cells #[.int .u8 0, .int .u8 1] 5))
        clear hlit htk HO HO'
        go_wp2_with (at_builtin; refine gapp_row tb rfl (.tmp 33) (.tmp 34) rfl rfl rfl HOL.out HLIT.out HBL.out HBL.out.size ?cL ?_; (case cL => omega); intro v6 w6 ho hb6 hs1 hf; have HO6 : Hid (GrB w6 w1.heap.size v6 (esc L ++ [0, 1])) := Lib.hid ho; have HB6 : Hid (Below w1.heap.size w1 w6) := Lib.hid hb6; clear ho hb6 hs1 hf)
        have hxl : (esc L ++ [0, 1]).length + 8 ≤ 140737488355328 := by rw [List.length_append]; simp; omega
        refine (C2.out w6 v6 _ HO6.out HB6.out hxl).mono ?_
        rintro e w7 ⟨v7, rfl, hA⟩
        have hcv2 := conv_gr (dst := 9) tb Try.underlying5 Try.underlying9 hA.own
        rw [show min (Int.toNat 8) 8 = 8 from rfl, ← HIN.out] at hcv2
        have HB7 := Lib.hid (below_then HBA.out HBA.out.size hA.bel)
        clear hA C2 hxl
        go_wp2_with fail
        go_ret
        exact ⟨rfl, HB7.out⟩
  · have hnot : Go.bits .xor .u64 IntKind.u64.max (u : Int) = (f : Int) := by rw [u64_not _ HUL.out, HFL.out]; congr 1; have := HU.out; have := HG.out; simp; omega
    go_wp2_with fail
    go_loopw [4, 19] (fun b i wr => ∃ (k : Nat) (v : Value), v = b ∧ i = .int .i64 k ∧ k ≤ n1 ∧ Hid (GrB wr w1.heap.size v (esc (L.take k))) ∧ Hid (Below w1.heap.size w1 wr)) (fun _ i _ => n1 - (intOf i).toNat)
    case atStart => exact ⟨0, _, rfl, rfl, Nat.zero_le _, Lib.hid (gr_nil _ _ _), Lib.hid (Below.refl _ _)⟩
    case round =>
      obtain ⟨k, v, hv, rfl, hk, HO, HB⟩ := hrel
      subst hv
      have hel := esc_length (L.take k)
      rw [List.length_take, HL1.out] at hel
      by_cases hlt : k < n1
      · have t2 : decide ((k : Int) < (n1 : Int)) = true := decide_eq_true (by omega)
        obtain ⟨ad, e1, hc1⟩ := rds_at 0 (rds_below HR1.out HB.out) k hlt
        subst e1
        obtain ⟨c, hc, hcl⟩ := getD_nat HBT.out k
        rw [hc] at hc1
        have hsn : esc (L.take (k + 1)) = esc (L.take k) ++ (if (c : Int) = 0 then [0, 255] else [(c : Int)]) := by
          rw [List.take_succ_eq_append_getElem (by rw [HL1.out]; exact hlt), esc_snoc]
          rw [List.getD_eq_getElem?_getD, List.getElem?_eq_getElem (by rw [HL1.out]; exact hlt)] at hc
          simp only [Option.getD_some] at hc
          rw [hc]
        have i0 : (0 : Int) ≤ (k : Int) := by omega
        have i1 : (k : Int) < (n1 : Int) := by omega
        clear hc
        by_cases hz : c = 0
        · subst hz
          rw [if_pos (show ((0 : Nat) : Int) = 0 from rfl)] at hsn
          have HSN := Lib.hid hsn
          clear hsn
          go_wp2_with (first
            | (at_builtin; refine gapp_one (enc := Value.int .u8) (h1 := int_one .u8) tb (p := (0 : Int)) rfl (.tmp 23) (.tmp 25) rfl rfl rfl HO.out HB.out HB.out.size ?cL ?_; (case cL => omega); intro v6 w6 ho hb6 hs1 hf; have HO6 : Hid (GrB w6 w1.heap.size v6 (esc (L.take k) ++ [0])) := Lib.hid ho; have HB6 : Hid (Below w1.heap.size w1 w6) := Lib.hid hb6; clear ho hb6 hs1 hf)
            | (at_builtin; refine gapp_one (enc := Value.int .u8) (h1 := int_one .u8) tb (p := (255 : Int)) rfl (.tmp 29) (.tmp 30) rfl rfl rfl HO6.out HB6.out HB6.out.size ?cL ?_; (case cL => simp; omega); intro v7 w7 ho hb6 hs1 hf; have HO7 : Hid (GrB w7 w1.heap.size v7 (esc (L.take (k + 1)))) := Lib.hid (by rw [HSN.out, show ([0, 255] : List Int) = [0] ++ [255] from rfl, ← List.append_assoc]; exact ho); have HB7 : Hid (Below w1.heap.size w1 w7) := Lib.hid hb6; clear ho hb6 hs1 hf))
          go_roundw
          case rel => exact ⟨k + 1, _, rfl, by go_num, by omega, HO7, HB7⟩
          case measure => simp [intOf]; omega
        · have t3 : ((c : Int) == 0) = false := by simp; omega
          rw [if_neg (by omega)] at hsn
          have HSN := Lib.hid hsn
          have HZ := Lib.hid hz
          clear hsn hz
          go_wp2_with (at_builtin; refine gapp_one (enc := Value.int .u8) (h1 := int_one .u8) tb (p := (c : Int)) rfl (.tmp 23) (.tmp 25) rfl rfl rfl HO.out HB.out HB.out.size ?cL ?_; (case cL => omega); intro v6 w6 ho hb6 hs1 hf; have HO6 : Hid (GrB w6 w1.heap.size v6 (esc (L.take (k + 1)))) := Lib.hid (by rw [HSN.out]; exact ho); have HB6 : Hid (Below w1.heap.size w1 w6) := Lib.hid hb6; clear ho hb6 hs1 hf)
          go_roundw
          case rel => exact ⟨k + 1, _, rfl, by go_num, by omega, HO6, HB6⟩
          case measure => simp [intOf]; omega
      · obtain rfl : k = n1 := by omega
        have t2 : decide ((k : Int) < (k : Int)) = false := by simp
        have htk : L.take k = L := List.take_of_length_le (by rw [HL1.out]; exact Nat.le_refl _)
        have HO' : Hid (GrB wr w1.heap.size v (esc L)) := Lib.hid (by have := HO.out; rwa [htk] at this)
        rw [htk] at hel
        have C2 := Lib.hid (fun wq v xs a b c => putBig_any f 8 HFF.out v xs w1 wq a b c)
        have hlit : Rds .u8 (wr.alloc (.cells #[.int .u8 0, .int .u8 1] 5)) (some ⟨wr.heap.size, 0, none⟩) 2 [0, 1] := rds_lit wr 5 (0, 0) 0 [0, 1] (by simp) 2 rfl
        have HLIT := Lib.hid hlit
        have HOL := Lib.hid (gr_below HO'.out (below_alloc (Below.refl _ _) (.cells #[.int .u8 0, .int .u8 1] 5)))
        have HBL := Lib.hid (below_alloc HB.out (.cells #[.int .u8 0, .int .u8 1] 5))
        clear hlit htk HO HO'
        go_wp2_with (at_builtin; refine gapp_row tb rfl (.tmp 33) (.tmp 34) rfl rfl rfl HOL.out HLIT.out HBL.out HBL.out.size ?cL ?_; (case cL => omega); intro v6 w6 ho hb6 hs1 hf; have HO6 : Hid (GrB w6 w1.heap.size v6 (esc L ++ [0, 1])) := Lib.hid ho; have HB6 : Hid (Below w1.heap.size w1 w6) := Lib.hid hb6; clear ho hb6 hs1 hf)
        have hxl : (esc L ++ [0, 1]).length + 8 ≤ 140737488355328 := by rw [List.length_append]; simp; omega
        refine (C2.out w6 v6 _ HO6.out HB6.out hxl).mono ?_
        rintro e w7 ⟨v7, rfl, hA⟩
        have hcv2 := conv_gr (dst := 9) tb Try.underlying5 Try.underlying9 hA.own
        rw [show min (Int.toNat 8) 8 = 8 from rfl, ← HIN.out] at hcv2
        have HB7 := Lib.hid (below_then HBA.out HBA.out.size hA.bel)
        clear hA C2 hxl
        go_wp2_with fail
        go_ret
        exact ⟨rfl, HB7.out⟩
end Go.Proofs.Ytgnicgcdhldmmaa.Key

