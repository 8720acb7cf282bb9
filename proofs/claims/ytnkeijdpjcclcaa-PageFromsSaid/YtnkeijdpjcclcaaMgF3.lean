/- Merged of: Dep PgS PgT PgU PgW PgR PgV Gr2 PageParses PageFroms RowPageFroms -/
import Derived.Test.YtnkeijdpjcclcaaMgF2
import Derived.Test.YtnkeijdpjcclcaaRows
import Derived.WalkKit
import Derived.ProofKit
import Derived.OpenShut
import Derived.ShutString
import Derived.ChangeOld
import Derived.Below
import Derived.SizedLaws
import Derived.Test.YtnkeijdpjcclcaaWSized
-- Dep
/- Regions that draw their order, with facts that look at what came up before (an alloc's pointer and the store through it). -/
namespace Go.Proofs.Ytnkeijdpjcclcaa.Kit
set_option linter.unusedVariables false
set_option linter.unusedSimpArgs false
open Go.RowKit Go.Proofs.YtnkeijdpjcclcaaW.PrintWords Go.Proofs.YtnkeijdpjcclcaaW.PrintLast Go.Proofs.YtnkeijdpjcclcaaW.PrintMore

section
variable {P : Program} {ops : Array Oper} {Q : Exit → Act → World → Prop}
/-- The state in the midst of a drawn order. L: the operations that write in turn (each one's fact serves the next alone). -/
structure MidD (ops : Array Oper) (D : List (List Nat)) (L : List Nat) (Inv J : World → Prop) (F : (Nat → Value) → Nat → World → Prop) (fx : Nat → Bool) (a0 : Act) (vs : Nat → Value) (l : Array Bool) (a : Act) (w : World) : Prop where
  size : l.size = ops.size
  tsz : a.tmps.size = a0.tmps.size
  dfr : a.defers = a0.defers
  out : ∀ t, (∀ i, l.getD i false = true → dstOf ops i ≠ some t) → a.tmps[t]? = a0.tmps[t]?
  mem : ∀ i t, l.getD i false = true → dstOf ops i = some t → t < a0.tmps.size → a.tmps[t]? = some (vs i)
  shut : ∀ i, l.getD i false = true → ∀ j ∈ D.getD i [], l.getD j false = true
  inv : Inv w
  head : (∀ k ∈ L, l.getD k false = false) → J w
  facts : ∀ i, l.getD i false = true → (i ∈ L → ∀ k ∈ L, l.getD k false = true → k ≤ i) → (fx i = true ∨ i ∈ L ∨ ∀ q ∈ L, ¬ l.getD q false = true) → F vs i w
/-- In the midst of an order, an operation that may come up: its obligation in the text's order serves. -/
theorem midD_ob {D : List (List Nat)} {L : List Nat} {Inv J : World → Prop} {F : (Nat → Value) → Nat → World → Prop} {fx : Nat → Bool} {a0 a : Act} {vs : Nat → Value} {l : Array Bool} {w : World} {dsts : List (Option Tmp)} {R : Value → World → Prop} (hC : Chk ops D) (hd : ops.toList.map (·.dst) = dsts)
    (hsz : ∀ j t, dstOf ops j = some t → t < a0.tmps.size) (hM : MidD ops D L Inv J F fx a0 vs l a w) {i : Nat} {o : Oper} (ho : ops[i]? = some o) (hun : ¬ l.getD i false = true) (hds : ∀ j ∈ D.getD i [], l.getD j false = true)
    (hg : ∀ g want, o.guard = some (g, want) → g ∈ D.getD i [] ∧ (dstOf ops g).isSome = true)
    (h : Ob P (dsts.take i) o vs a0 w R) : Yl P ops o a w R := by
  have hil : i < ops.size := (Array.getElem?_eq_some_iff.1 ho).1
  have e1 : execOp a.eval o = execOp (rho (dsts.take i) vs a0) o := execOp_congr o (fun cs b => hC.sel i o cs b ho) fun x hx => by
    cases x with
    | tmp t =>
      have ht : t ∈ o.looksAt ops := List.mem_append_left _ (List.mem_filterMap.2 ⟨.tmp t, by simpa using hx, rfl⟩)
      show a.tmps.getD t undef = (match srcOf (dsts.take i) 0 t with | some j => vs j | none => a0.tmps.getD t undef)
      cases hs : srcOf (dsts.take i) 0 t with
      | some j =>
        obtain ⟨_, h2⟩ := srcOf_some hs
        rw [Nat.sub_zero] at h2
        obtain ⟨hji, hj⟩ := (dsts_at hd i j t).1 h2
        have hjl : l.getD j false = true := by
          rcases hC.look i j o t ho hj ht (by omega) with h | h
          · exact hds j h
          · have := (hC.dep j i (dst_lt hj) h).1
            omega
        have := hM.mem j t hjl hj (hsz j t hj)
        simp [this]
      | none =>
        have hout : ∀ j, l.getD j false = true → dstOf ops j ≠ some t := fun j hjl hj => by
          by_cases hij : i = j
          · subst hij; exact hun hjl
          · rcases hC.look i j o t ho hj ht hij with h | h
            · exact srcOf_none hs j ((dsts_at hd i j t).2 ⟨(hC.dep i j hil h).1, hj⟩)
            · exact hun (hM.shut j hjl i h)
        have := hM.out t hout
        simp [this]
    | _ => rfl
  have e2 : Region.wanted o (yielded ops a.tmps) = Wants o vs := by
    unfold Region.wanted Wants
    cases hgd : o.guard with
    | none => rfl
    | some gw =>
      obtain ⟨g, want⟩ := gw
      obtain ⟨h1, h2⟩ := hg g want hgd
      obtain ⟨d, hdd⟩ := Option.isSome_iff_exists.1 h2
      have hm := hM.mem g d (hds g h1) hdd (hsz g d hdd)
      have : yielded ops a.tmps g = (match vs g with | .bool b => some b | _ => none) := by
        unfold yielded
        have hdd' : (ops[g]?).bind (·.dst) = some d := hdd
        rw [hdd']
        simp only [Option.bind_some, hm]
        cases vs g <;> rfl
      simp only [this]
      cases vs g <;> rfl
  unfold Ob at h
  unfold Yl
  rw [e1, e2]
  exact h
theorem midD_next {D : List (List Nat)} {L : List Nat} {Inv J : World → Prop} {F : (Nat → Value) → Nat → World → Prop} {fx : Nat → Bool} {a0 a : Act} {vs : Nat → Value} {l : Array Bool} {w : World} (hC : Chk ops D)
    (hchain : ∀ i ∈ L, ∀ k ∈ L, i < k → i ∈ D.getD k []) (hcg : ∀ i vs vs' w, vs i = vs' i → (∀ j ∈ D.getD i [], vs j = vs' j) → F vs i w → F vs' i w) (hst : ∀ vs i w w', F vs i w → Below w.heap.size w w' → F vs i w') (hfx : ∀ vs i w w', i ∉ L → fx i = true → F vs i w → F vs i w') (hJs : ∀ w w', J w → Below w.heap.size w w' → J w')
    (hM : MidD ops D L Inv J F fx a0 vs l a w) {i : Nat} {o : Oper} (ho : ops[i]? = some o) (hun : ¬ l.getD i false = true) (hds : ∀ j ∈ D.getD i [], l.getD j false = true) {v : Value} {w' : World} (hI : Inv w') (hS : i ∉ L → Below w.heap.size w w') (hF : F (upd vs i v) i w') :
    MidD ops D L Inv J F fx a0 (upd vs i v) (l.setIfInBounds i true) (a.put o.dst v) w' := by
  have hil : i < ops.size := (Array.getElem?_eq_some_iff.1 ho).1
  have his : i < l.size := by rw [hM.size]; exact hil
  have hdo : dstOf ops i = o.dst := by simp [dstOf, ho]
  have hset : ∀ k, (l.setIfInBounds i true).getD k false = true → k = i ∨ l.getD k false = true := fun k hk => by
    by_cases hki : k = i
    · exact .inl hki
    · rw [getD_set_ne false (Ne.symm hki)] at hk
      exact .inr hk
  refine ⟨by rw [Array.size_setIfInBounds]; exact hM.size, by rw [put_size]; exact hM.tsz, by rw [put_defers]; exact hM.dfr, fun t ht => ?_, fun k t hk hkd htl => ?_, fun k hk j hj => ?_, hI, fun hno => ?_, fun k hk hmax => ?_⟩
  · rw [put_get, if_neg (fun hh => ht i (getD_set_self his) (by rw [hdo]; exact hh.1))]
    exact hM.out t (fun k hk => ht k (getD_set_true hk))
  · by_cases hki : k = i
    · subst hki
      rw [put_get, if_pos ⟨by rw [← hdo]; exact hkd, by rw [hM.tsz]; exact htl⟩, upd_same]
    · rw [put_get, if_neg (fun hh => hki (hC.dist k i t hkd (by rw [hdo]; exact hh.1))), upd_other _ _ hki]
      exact hM.mem k t ((hset k hk).resolve_left hki) hkd htl
  · rcases hset k hk with rfl | h
    · exact getD_set_true (hds j hj)
    · exact getD_set_true (hM.shut k h j hj)
  · by_cases hiL : i ∈ L
    · have := hno i hiL
      rw [getD_set_self his] at this
      cases this
    · refine hJs w w' (hM.head fun k hk => ?_) (hS hiL)
      have := hno k hk
      rwa [getD_set_ne false (show i ≠ k from fun h => hiL (by rw [h]; exact hk))] at this
  · intro hcond
    by_cases hki : k = i
    · subst hki
      exact hF
    · have hcong : ∀ W, F vs k W → F (upd vs i v) k W := fun W => hcg k vs (upd vs i v) W (upd_other _ _ hki).symm fun j hj => by
        have hjl := hM.shut k ((hset k hk).resolve_left hki) j hj
        exact (upd_other vs v (fun e => hun (by rw [← e]; exact hjl))).symm
      refine hcong w' ?_
      have hkl := (hset k hk).resolve_left hki
      by_cases hiL : i ∈ L
      · have hkL : k ∉ L := fun hkL => by
          have h1 := hmax hkL i hiL (getD_set_self his)
          exact hun (hM.shut k hkl i (hchain i hiL k hkL (by omega)))
        have hfk : fx k = true := by
          rcases hcond with h | h | h
          · exact h
          · exact absurd h hkL
          · exact absurd (getD_set_self his) (h i hiL)
        exact hfx _ k w w' hkL hfk (hM.facts k hkl (fun h => absurd h hkL) (.inl hfk))
      · exact hst _ k w w' (hM.facts k hkl (fun h k' hk' hl' => hmax h k' hk' (getD_set_true hl')) (hcond.imp id (Or.imp id fun h q hq hl => h q hq (getD_set_true hl)))) (hS hiL)
theorem midD_end {D : List (List Nat)} {L : List Nat} {Inv J : World → Prop} {F : (Nat → Value) → Nat → World → Prop} {fx : Nat → Bool} {a0 a : Act} {vs : Nat → Value} {l : Array Bool} {w : World} (hC : Chk ops D)
    (hM : MidD ops D L Inv J F fx a0 vs l a w) (hfull : ∀ i, i < ops.size → l.getD i false = true) : a = putN ops vs ops.size a0 := by
  refine act_ext (by rw [hM.tsz, putN_size]) (fun t => ?_) (by rw [hM.dfr, putN_defers])
  by_cases hx : ∃ i, dstOf ops i = some t
  · obtain ⟨i, hi⟩ := hx
    by_cases ht : t < a0.tmps.size
    · rw [hM.mem i t (hfull i (dst_lt hi)) hi ht, putN_in hC.dist vs a0 t i hi ht _ (dst_lt hi)]
    · rw [Array.getElem?_eq_none (by rw [hM.tsz]; omega), Array.getElem?_eq_none (by rw [putN_size]; omega)]
  · rw [hM.out t (fun i _ hi => hx ⟨i, hi⟩), putN_out vs a0 t _ (fun j _ hj => hx ⟨j, hj⟩)]
/-- All that is asked of a region's operations, in the text's order, at any world of Inv. -/
structure AllD (P : Program) (ops : Array Oper) (Q : Exit → Act → World → Prop) (D : List (List Nat)) (L : List Nat) (Inv J : World → Prop) (F : (Nat → Value) → Nat → World → Prop) (fx : Nat → Bool) (a0 : Act) (dsts : List (Option Tmp)) : Prop where
  chk : Chk ops D
  dst : ops.toList.map (·.dst) = dsts
  room : ∀ j t, dstOf ops j = some t → t < a0.tmps.size
  grd : ∀ i o g want, ops[i]? = some o → o.guard = some (g, want) → g ∈ D.getD i [] ∧ (dstOf ops g).isSome = true
  chain : ∀ i ∈ L, ∀ k ∈ L, i < k → i ∈ D.getD k []
  cong : ∀ i vs vs' w, vs i = vs' i → (∀ j ∈ D.getD i [], vs j = vs' j) → F vs i w → F vs' i w
  stay : ∀ vs i w w', F vs i w → Below w.heap.size w w' → F vs i w'
  fix : ∀ vs i w w', i ∉ L → fx i = true → F vs i w → F vs i w'
  jst : ∀ w w', J w → Below w.heap.size w w' → J w'
  step : ∀ i o, ops[i]? = some o → ∀ (vs : Nat → Value) (w : World), Inv w → (i ∈ L → (∀ k ∈ L, i ≤ k) → J w) → (earlyB D L i = true → J w) → (∀ j ∈ (D.getD i []).filter (fun j => useE D L (fx j) j i), F vs j w) → Ob P (dsts.take i) o vs a0 w (fun v w' => Inv w' ∧ (i ∉ L → Below w.heap.size w w') ∧ F (upd vs i v) i w')
  last : ∀ (vs : Nat → Value) (w : World), Inv w → (∀ i, i < ops.size → useE D L (fx i) i ops.size = true → F vs i w) → Q .normal (putN ops vs ops.size a0) w
theorem midD_go {D : List (List Nat)} {L : List Nat} {Inv J : World → Prop} {F : (Nat → Value) → Nat → World → Prop} {fx : Nat → Bool} {a0 a : Act} {dsts : List (Option Tmp)} {vs : Nat → Value} {l : Array Bool} {w : World} (H : AllD P ops Q D L Inv J F fx a0 dsts)
    (hM : MidD ops D L Inv J F fx a0 vs l a w) {i : Nat} {o : Oper} (ho : ops[i]? = some o) (hun : ¬ l.getD i false = true) (hds : ∀ j ∈ D.getD i [], l.getD j false = true) {K : Act → World → Prop}
    (hK : ∀ vs' a' w', MidD ops D L Inv J F fx a0 vs' (l.setIfInBounds i true) a' w' → K a' w') : wpOp P ops Q i K a w := by
  have hearly : earlyB D L i = true → ∀ q ∈ L, ¬ l.getD q false = true := fun he q hq hql => by
    rcases earlyB_spec he q hq with h | h
    · subst h; exact hun hql
    · exact hun (hM.shut q hql i h)
  exact (midD_ob H.chk H.dst H.room hM ho hun hds (fun g want hg => H.grd i o g want ho hg) (H.step i o ho vs w hM.inv (fun hiL hmin => hM.head fun k hk => by
    rw [← Bool.not_eq_true]
    intro hkl
    by_cases hik : k = i
    · exact hun (hik ▸ hkl)
    · exact hun (hM.shut k hkl i (H.chain i hiL k hk (by have := hmin k hk; omega)))) (fun he => hM.head fun k hk => by
    rw [← Bool.not_eq_true]
    exact hearly he k hk) (fun j hj => by
    obtain ⟨hj1, hj2⟩ := List.mem_filter.1 hj
    obtain ⟨hj2, hj3⟩ := useE_spec hj2
    refine hM.facts j (hds j hj1) (fun hjL k hkL hkl => ?_) (hj3.elim (fun h => .inr (.inl h)) fun h => h.elim (fun h => .inr (.inr (hearly h))) .inl)
    rcases useB_spec hj2 hjL k hkL with h | ⟨hiL, h⟩
    · exact h
    · exfalso
      rcases Nat.lt_or_ge i k with h2 | h2
      · exact hun (hM.shut k hkl i (H.chain i hiL k hkL h2))
      · obtain rfl : i = k := by omega
        exact hun hkl))).wpOp ho
    fun v w' ⟨hI, hS, hF⟩ => hK _ _ _ (midD_next H.chk H.chain H.cong H.stay H.fix H.jst hM ho hun hds hI hS hF)
/-- **Whatever order is drawn**: each operation's obligation is told once. -/
theorem anyD_go {D : List (List Nat)} {L : List Nat} {Inv J : World → Prop} {F : (Nat → Value) → Nat → World → Prop} {fx : Nat → Bool} {a0 : Act} {dsts : List (Option Tmp)} (H : AllD P ops Q D L Inv J F fx a0 dsts) :
    ∀ (fuel : Nat) (l : Array Bool) (vs : Nat → Value) (a : Act) (w : World), cnt l ops.size ≤ fuel → MidD ops D L Inv J F fx a0 vs l a w → wpAny P .any ops Q fuel l a w := by
  have hfin : ∀ (l : Array Bool) (vs : Nat → Value) (a : Act) (w : World), MidD ops D L Inv J F fx a0 vs l a w → (∀ i, i < ops.size → l.getD i false = true) → Q .normal a w := by
    intro l vs a w hM hfull
    rw [midD_end H.chk hM hfull]
    exact H.last vs w hM.inv (fun i hi hu => hM.facts i (hfull i hi) (fun hiL k hkL hkl => by
      rcases useB_spec (useE_spec hu).1 hiL k hkL with h | ⟨_, h⟩
      · exact h
      · have := getD_false_lt hkl
        rw [hM.size] at this
        omega) ((useE_spec hu).2.elim (fun h => .inr (.inl h)) fun h => h.elim (fun h => .inr (.inr fun q hq hql => by
          have hqs := getD_false_lt hql
          rw [hM.size] at hqs
          rcases earlyB_spec h q hq with h2 | h2
          · omega
          · have := (H.chk.dep q _ hqs h2).1
            omega)) .inl))
  have hdone : ∀ (l : Array Bool) (vs : Nat → Value) (a : Act) (w : World), MidD ops D L Inv J F fx a0 vs l a w → Region.ready .any ops l = [] → Q .normal a w := by
    intro l vs a w hM hr
    refine hfin l vs a w hM fun i => ?_
    induction i using Nat.strongRecOn with
    | _ i ih =>
      intro hi
      refine Classical.byContradiction fun hn => ?_
      have : i ∈ Region.ready .any ops l := mem_ready.2 ⟨getD_true_of_lt (by rw [hM.size]; exact hi) hn, _, Array.getElem?_eq_getElem hi, fun e he hb => by
        have h1 := H.chk.low i _ (Array.getElem?_eq_getElem hi) e he hb
        exact ih e.on h1 (by omega)⟩
      rw [hr] at this
      cases this
  intro fuel
  induction fuel with
  | zero =>
    intro l vs a w hf hM
    have hfull := cnt_zero (l := l) ops.size (by omega)
    refine ⟨?_, hfin l vs a w hM hfull⟩
    rw [List.eq_nil_iff_forall_not_mem]
    intro j hj
    obtain ⟨h0, o, ho, _⟩ := mem_ready.1 hj
    have hjl : j < ops.size := (Array.getElem?_eq_some_iff.1 ho).1
    have := hfull j hjl
    have hjs : j < l.size := by rw [hM.size]; exact hjl
    simp [hjs] at h0 this
    rw [this] at h0
    cases h0
  | succ fuel ih =>
    intro l vs a w hf hM
    refine ⟨hdone l vs a w hM, fun i hi => ?_⟩
    obtain ⟨h0, o, ho, hall⟩ := mem_ready.1 hi
    have hil : i < ops.size := (Array.getElem?_eq_some_iff.1 ho).1
    have his : i < l.size := by rw [hM.size]; exact hil
    have hun : ¬ l.getD i false = true := by
      simp [his] at h0 ⊢
      exact h0
    have hds : ∀ j ∈ D.getD i [], l.getD j false = true := fun j hj => by
      obtain ⟨hlt, o', ho', e, he, hb, hor⟩ := H.chk.dep i j hil hj
      rw [ho] at ho'
      injection ho' with ho'
      subst ho'
      have h1 := hall e he hb
      rcases hor with rfl | ⟨_, h2⟩
      · exact h1
      · exact hM.shut _ h1 j h2
    refine midD_go H hM ho hun hds fun vs' a' w' hM' => ih _ vs' a' w' ?_ hM'
    have := cnt_set his hun ops.size hil
    omega
theorem midD_start {D : List (List Nat)} {L : List Nat} {Inv J : World → Prop} {F : (Nat → Value) → Nat → World → Prop} {fx : Nat → Bool} {a0 : Act} {w : World} (hI : Inv w) (hJ : J w) : MidD ops D L Inv J F fx a0 (fun _ => undef) (Array.replicate ops.size false) a0 w :=
  ⟨by simp, rfl, rfl, fun _ _ => rfl, fun i _ h => by rcases Nat.lt_or_ge i ops.size with h' | h' <;> simp [h'] at h, fun i h => by rcases Nat.lt_or_ge i ops.size with h' | h' <;> simp [h'] at h, hI, fun _ => hJ, fun i h => by rcases Nat.lt_or_ge i ops.size with h' | h' <;> simp [h'] at h⟩
/-- A region that draws its order. -/
theorem anyD_region {id : Nat} {a0 : Act} {w0 : World} {D : List (List Nat)} {L : List Nat} {Inv J : World → Prop} {F : (Nat → Value) → Nat → World → Prop} {fx : Nat → Bool} {dsts : List (Option Tmp)} (hm : P.follows .mixedOrders = true) (hI : Inv w0.drew) (hJ : J w0.drew)
    (H : AllD P ops Q D L Inv J F fx a0 dsts) : (Code.region id ops true).wp P Q a0 w0 :=
  wp_region_any hm (anyD_go H ops.size _ (fun _ => undef) a0 w0.drew (by rw [cnt_all _ _ (Nat.le_refl _)]; exact Nat.le_refl _) (midD_start hI hJ))
/-- A region in the text's order. -/
theorem seqD_go {D : List (List Nat)} {L : List Nat} {Inv J : World → Prop} {F : (Nat → Value) → Nat → World → Prop} {fx : Nat → Bool} {a0 : Act} {dsts : List (Option Tmp)} (H : AllD P ops Q D L Inv J F fx a0 dsts) :
    ∀ (m k : Nat) (l : Array Bool) (vs : Nat → Value) (a : Act) (w : World), k + m = ops.size → (∀ j, l.getD j false = true ↔ j < k) → MidD ops D L Inv J F fx a0 vs l a w → wpOps P ops Q (List.range' k m) a w := by
  intro m
  induction m with
  | zero =>
    intro k l vs a w hkm hl hM
    have hfull : ∀ i, i < ops.size → l.getD i false = true := fun i hi => (hl i).2 (by omega)
    show Q .normal a w
    rw [midD_end H.chk hM hfull]
    exact H.last vs w hM.inv (fun i hi hu => hM.facts i (hfull i hi) (fun hiL k hkL hkl => by
      rcases useB_spec (useE_spec hu).1 hiL k hkL with h | ⟨_, h⟩
      · exact h
      · have := getD_false_lt hkl
        rw [hM.size] at this
        omega) ((useE_spec hu).2.elim (fun h => .inr (.inl h)) fun h => h.elim (fun h => .inr (.inr fun q hq hql => by
          have hqs := getD_false_lt hql
          rw [hM.size] at hqs
          rcases earlyB_spec h q hq with h2 | h2
          · omega
          · have := (H.chk.dep q _ hqs h2).1
            omega)) .inl))
  | succ m ih =>
    intro k l vs a w hkm hl hM
    rw [List.range'_succ, wpOps_cons]
    have hk : k < ops.size := by omega
    refine midD_go H hM (Array.getElem?_eq_getElem hk) (fun h => by have := (hl k).1 h; omega) (fun j hj => (hl j).2 (H.chk.dep k j hk hj).1) fun vs' a' w' hM' => ih (k + 1) _ vs' a' w' (by omega) (fun j => ?_) hM'
    by_cases hjk : j = k
    · subst hjk
      rw [getD_set_self (by rw [hM.size]; exact hk)]
      exact ⟨fun _ => by omega, fun _ => rfl⟩
    · rw [getD_set_ne false (Ne.symm hjk), hl j]
      omega
theorem seqD_region {id : Nat} {a0 : Act} {w0 : World} {D : List (List Nat)} {L : List Nat} {Inv J : World → Prop} {F : (Nat → Value) → Nat → World → Prop} {fx : Nat → Bool} {dsts : List (Option Tmp)} (hI : Inv w0) (hJ : J w0)
    (H : AllD P ops Q D L Inv J F fx a0 dsts) : (Code.region id ops false).wp P Q a0 w0 :=
  wp_region (by rw [List.range_eq_range']; exact seqD_go H ops.size 0 _ (fun _ => undef) a0 w0 (by omega) (fun j => by rcases Nat.lt_or_ge j ops.size with h' | h' <;> simp [h']) (midD_start hI hJ))
/-- A region that draws its order: the obligations by hand, facts may look at what came up before. -/
theorem drawsD_ {id : Nat} {a0 : Act} {w0 : World} {D : List (List Nat)} {L : List Nat} {dsts : List (Option Tmp)} (I J : World → Prop) (F : (Nat → Value) → Nat → World → Prop) (fx : Nat → Bool) (hm : P.follows .mixedOrders = true) (hr : RegOk ops D L dsts) (hroom : roomB dsts a0.tmps.size = true)
    (hJ : ∀ w w', J w → Below w.heap.size w w' → J w') (h0 : I w0.drew) (hJ0 : J w0.drew)
    (cong : ∀ i vs vs' w, vs i = vs' i → (∀ j ∈ D.getD i [], vs j = vs' j) → F vs i w → F vs' i w)
    (stay : ∀ vs i w w', F vs i w → Below w.heap.size w w' → F vs i w')
    (fix : ∀ vs i w w', i ∉ L → fx i = true → F vs i w → F vs i w')
    (step : ∀ i o, ops[i]? = some o → ∀ (vs : Nat → Value) (w : World), I w → (i ∈ L → (∀ k ∈ L, i ≤ k) → J w) → (earlyB D L i = true → J w) → (∀ j ∈ (D.getD i []).filter (fun j => useE D L (fx j) j i), F vs j w) → Ob P (dsts.take i) o vs a0 w (fun v w' => I w' ∧ (i ∉ L → Below w.heap.size w w') ∧ F (upd vs i v) i w'))
    (last : ∀ (vs : Nat → Value) (w : World), I w → (∀ i, i < ops.size → useE D L (fx i) i ops.size = true → F vs i w) → Q .normal (putL dsts 0 vs a0) w) : (Code.region id ops true).wp P Q a0 w0 := by
  have hC := chk_of hr.chk
  refine anyD_region (D := D) (L := L) (Inv := I) (J := J) (F := F) (fx := fx) (dsts := dsts) hm h0 hJ0 ⟨hC, hr.dst, fun j t hj => ?_, fun i o g want hi hg => ?_, hr.chain, cong, stay, fix, hJ, step, fun vs w hI hF => ?_⟩
  · have hm : some t ∈ dsts := by
      rw [← hr.dst]
      unfold dstOf at hj
      cases ho : ops[j]? with
      | none => rw [ho] at hj; cases hj
      | some o =>
        rw [ho] at hj
        exact List.mem_map.2 ⟨o, by simpa using Array.mem_of_getElem? ho, hj⟩
    exact roomB_spec dsts _ hroom t hm
  · have h := hr.grd
    simp only [guardsB, List.all_eq_true, List.mem_range] at h
    have h2 := h i (Array.getElem?_eq_some_iff.1 hi).1
    rw [hi] at h2
    simp only [hg, Bool.and_eq_true, List.contains_iff_mem] at h2
    exact h2
  · rw [putN_putL vs a0 dsts hr.dst _ (Nat.le_refl _), List.take_of_length_le (by rw [← hr.dst]; simp)]
    exact last vs w hI hF
end
end Go.Proofs.Ytnkeijdpjcclcaa.Kit
-- PgS
/- sort.Search, whatever function is handed to it. -/
namespace Go.Proofs.Ytnkeijdpjcclcaa.Pg
set_option linter.unusedVariables false
set_option linter.unusedSimpArgs false
open Go.Proofs.Ytnkeijdpjcclcaa.Kit Go.Proofs.Ytnkeijdpjcclcaa.Num Go.RowKit Go.Proofs.YtnkeijdpjcclcaaW.PrintWords Go.Proofs.YtnkeijdpjcclcaaW.PrintLast Go.Proofs.YtnkeijdpjcclcaaW.PrintMore NumPure
theorem half_i64 (q : Nat) (h : q ≤ 4000000000) : ((q : Nat) : Int) / 2 ^ min ((1 : Int)).toNat IntKind.u64.bits = ((q / 2 : Nat) : Int) := by
  show ((q : Nat) : Int) / 2 ^ 1 = _
  omega
theorem reg_49_3 : RegOk (opsOf Try.f49 3) [[], [], [0, 1], [0, 1, 2], [0, 1, 2, 3], [0, 1, 2, 3, 4], [0, 1, 2, 3, 4, 5]] [] [some 12, some 13, some 14, some 15, some 16, some 17, some 7] := regOk (by kernel_rfl)
set_option maxRecDepth 20000 in
set_option maxHeartbeats 1600000 in
theorem search_any (n : Nat) (hn : n ≤ 1000000000) (p : Nat → Bool) (hmono : ∀ i j, i ≤ j → j < n → p i = true → p j = true) (F : Nat) (fn : Func) (cp : Array Value) (hf : Try.prog.funcs[F]? = some fn) (hname : (fn.name == "runtime.NumGoroutine") = false) (hb : fn.body.isSome = true) (w : World)
    (hstep : ∀ i W, i < n → Below w.heap.size w W → Calls Try.prog F (#[.int .i64 (i : Nat)] ++ cp) W fun e W' => e = .returned (.bool (p i)) ∧ Below W.heap.size W W') :
    Calls Try.prog 49 #[.int .i64 (n : Nat), .func (.func F) #[] cp] w fun e w' => ∃ i : Nat, e = .returned (.int .i64 (i : Nat)) ∧ i ≤ n ∧ (∀ j, j < i → p j = false) ∧ (i < n → p i = true) ∧ Below w.heap.size w w' := by
  have HS := Lib.hid hstep
  have HM := Lib.hid hmono
  clear hstep hmono
  go_enter Try.func49, Try.ntmps49
  go_wp2_with fail
  go_loopw [5, 6, 7] (fun x y z wr => ∃ i j : Nat, i ≤ j ∧ j ≤ n ∧ x = .int .i64 i ∧ y = .int .i64 j ∧ Hid (∀ q, q < i → p q = false) ∧ Hid (j < n → p j = true) ∧ Hid (Below w.heap.size w wr)) (fun x y _ _ => (intOf y).toNat - (intOf x).toNat)
  case atStart => exact ⟨0, n, by omega, by omega, rfl, rfl, Lib.hid (fun q hq => absurd hq (by omega)), Lib.hid (fun h => absurd h (by omega)), Lib.hid (Below.refl _ _)⟩
  case round =>
    obtain ⟨i, j, hij, hjn, rfl, rfl, HL, HR, HW⟩ := hrel
    by_cases hlt : i < j
    · have t1 : decide ((i : Int) < (j : Int)) = true := decide_eq_true (by omega)
      have hh1 : i ≤ (i + j) / 2 := by omega
      have hh2 : (i + j) / 2 < j := by omega
      have hq := half_i64 (i + j) (by omega)
      generalize hhd : (i + j) / 2 = h at hh1 hh2 hq
      have HQ := Lib.hid hq
      clear hhd hq
      go_upto_region 3 with fail
      refine plain_ (fun wq => Below wr.heap.size wr wq) (fun _ => True) reg_49_3 rfl inv0 (fun _ _ _ _ => trivial) (Below.refl _ _) trivial ?_
      refine w_move (.inl rfl) (fun vs w hK => ⟨wants_none rfl, rho_out rfl rfl⟩) ?_
      refine w_move (.inl rfl) (fun vs w hK => ⟨wants_none rfl, rho_out rfl rfl⟩) ?_
      refine w_val [(12, _), (13, _)] (_) (fun vs w hK => ⟨wants_none rfl, rho_in rfl (fv (hK 0 (memE rfl))), rho_in rfl (fv (hK 1 (memE rfl))), trivial⟩) rfl (fun wq hI => by exact run_int_add (c := ((i + j : Nat) : Int)) rfl rfl rfl (by rw [i64_id (by omega) (by omega)]; omega)) ?_
      refine w_val [(14, _)] (_) (fun vs w hK => ⟨wants_none rfl, rho_in rfl (fv (hK 2 (memE rfl))), trivial⟩) rfl (fun wq hI => by exact op_conv_int (k := .i64) (k2 := .u64) rfl Try.underlying3 Try.underlying78 rfl (u64_nat _ (by omega))) ?_
      refine w_val [(15, _)] (_) (fun vs w hK => ⟨wants_none rfl, rho_in rfl (fv (hK 3 (memE rfl))), trivial⟩) rfl (fun wq hI => by exact op_shr (k := .u64) rfl rfl rfl (by decide) HQ.out) ?_
      refine w_val [(16, _)] (_) (fun vs w hK => ⟨wants_none rfl, rho_in rfl (fv (hK 4 (memE rfl))), trivial⟩) rfl (fun wq hI => by exact op_conv_int (k := .u64) (k2 := .i64) rfl Try.underlying78 Try.underlying3 rfl (i64_id (by omega) (by omega))) ?_
      refine w_move (.inr rfl) (fun vs w hK => ⟨wants_none rfl, rho_in rfl (fv (hK 5 (memE rfl)))⟩) ?_
      refine w_end rfl rfl rfl (fun vs wq hI hF => ?_)
      simp only [List.reverse_cons, List.reverse_nil, List.nil_append, List.cons_append, finL_val, finL_of, finL_any, finL_app, finL_new, finL_gr, finL_row, finL_box, finL_nil, Act.put, List.setIfInBounds_toArray, List.set_cons_zero, List.set_cons_succ, Nat.reduceAdd]
      have HW1 := Lib.hid (below_then HW.out HW.out.size hI)
      clear hF HQ hI HW
      have hS := HS.out h wq (by omega) HW1.out
      have HS1 := Lib.hid hS
      clear hS
      go_wp2_with fail
      rw [enters_ hf hname hb]
      refine Calls.mono HS1.out ?_
      rintro e w2 ⟨rfl, hb2⟩
      have HW2 := Lib.hid (below_then HW1.out HW1.out.size hb2)
      clear hb2 HS1 HW1
      obtain ⟨D, hD⟩ : ∃ D, p h = D := ⟨_, rfl⟩
      rw [hD]
      cases D with
      | true =>
        have HR2 : Hid (h < n → p h = true) := Lib.hid fun _ => hD
        clear hD HR
        go_wp2_with fail
        go_round
        case rel => exact ⟨i, h, by omega, by omega, rfl, rfl, HL, HR2, HW2⟩
        case measure => simp [intOf]; omega
      | false =>
        have HL2 : Hid (∀ q, q < h + 1 → p q = false) := Lib.hid fun q hq => by
          rcases Bool.eq_false_or_eq_true (p q) with g | g
          · have := HM.out q h (by omega) (by omega) g
            rw [hD] at this
            cases this
          · exact g
        clear hD HL
        go_wp2_with fail
        go_round
        case rel => exact ⟨h + 1, j, by omega, by omega, by go_num, rfl, HL2, HR, HW2⟩
        case measure => simp [intOf]; omega
    · obtain rfl : i = j := by omega
      have t1 : decide ((i : Int) < (i : Int)) = false := by simp
      go_wp2_with fail
      go_ret
      exact ⟨i, rfl, hjn, HL.out, HR.out, HW.out⟩
end Go.Proofs.Ytnkeijdpjcclcaa.Pg
-- PgT
/- The closures of From: the name of a whole pair is behind a name; a pair's name is not ahead of it. -/
namespace Go.Proofs.Ytnkeijdpjcclcaa.Pg
set_option linter.unusedVariables false
set_option linter.unusedSimpArgs false
open Go.Proofs.Ytnkeijdpjcclcaa.Kit Go.Proofs.Ytnkeijdpjcclcaa.Num Go.RowKit Go.Proofs.YtnkeijdpjcclcaaW.PrintWords Go.Proofs.YtnkeijdpjcclcaaW.PrintLast Go.Proofs.YtnkeijdpjcclcaaW.PrintMore NumPure
theorem op_alloc {P : Program} {o : Oper} {l : List (Nat × Value)} {t : TypeId} {i : TypeInfo} {z : Value} {w : World} (ho : o.op = .alloc t) (hi : P.info? t = some i) (hz : i.zero = some z) :
    (execOp (lk l) o).run P w = .ok (.value (.pointer (some ⟨w.heap.size, 0, none⟩))) (w.alloc (.cells z.cells t)) := by
  unfold execOp
  simp [ho, Instr.alloc, zeroValue, typeInfo, hi, hz, newVar, newRow, Result.andThen]
theorem zero30 : (Try.prog.info? 30).bind (·.zero) = some (.agg #[.string ⟨#[]⟩, .string ⟨#[]⟩]) := by kernel_rfl
theorem op_alloc30 {o : Oper} {l : List (Nat × Value)} {w : World} (ho : o.op = .alloc 30) :
    (execOp (lk l) o).run Try.prog w = .ok (.value (.pointer (some ⟨w.heap.size, 0, none⟩))) (w.alloc (.cells #[.string ⟨#[]⟩, .string ⟨#[]⟩] 30)) := by
  obtain ⟨i, hi, hz⟩ := Option.bind_eq_some_iff.1 zero30
  exact op_alloc ho hi hz
/-- What is known behind each operation of the closure's region. -/
def f50F (B : Nat) (cs : List Value) (nm vl : ByteArray) (vs : Nat → Value) (i : Nat) (w : World) : Prop :=
  (i ≠ 11 → i ≠ 12 → cs[i]? = some (vs i)) ∧
  (i = 11 → ∃ g, vs 11 = .pointer (some ⟨g, 0, none⟩) ∧ B ≤ g ∧ ∃ old : List Value, old.length = 2 ∧ w.heap[g]? = some (.cells old.toArray 30 (0, 0))) ∧
  (i = 12 → ∃ g, vs 11 = .pointer (some ⟨g, 0, none⟩) ∧ w.heap[g]? = some (.cells #[.string nm, .string vl] 30 (0, 0)))
theorem f50k {B : Nat} {cs : List Value} {nm vl : ByteArray} {vs : Nat → Value} {i : Nat} {w : World} {c : Value} (h : f50F B cs nm vl vs i w) (h1 : i ≠ 11) (h2 : i ≠ 12) (hc : cs[i]? = some c) : vs i = c := by
  have := h.1 h1 h2
  rw [hc] at this
  exact (Option.some.inj this).symm
theorem op_extract {P : Program} {o : Oper} {l : List (Nat × Value)} {x : Operand} {k : Nat} {vs : Array Value} {c : Value} {w : World} (ho : o.op = .extract x k) (hx : lk l x = .tuple vs) (hv : vs[k]? = some c) : (execOp (lk l) o).run P w = .ok (.value c) w := by
  unfold execOp
  simp [ho, hx, Instr.extract, hv, Result.andThen]
theorem f50r {B : Nat} {cs : List Value} {nm vl : ByteArray} {vs : Nat → Value} {i : Nat} {w0 w w' : World} {c : Value} (h : Below w0.heap.size w0 w) (hb : Below w.heap.size w w') (h1 : i ≠ 11) (h2 : i ≠ 12) (hc : cs[i]? = some c) :
    Below w0.heap.size w0 w' ∧ (i ∉ [12] → Below w.heap.size w w') ∧ f50F B cs nm vl (upd vs i c) i w' :=
  ⟨below_then h h.size hb, fun _ => hb, fun _ _ => by rw [upd_same]; exact hc, fun e => absurd e h1, fun e => absurd e h2⟩
theorem reg_50_1 : RegOk (opsOf Try.f50 1) [[], [], [1], [], [1, 2, 3], [1, 2, 3, 4], [0, 1, 2, 3, 4, 5], [0, 1, 2, 3, 4, 5, 6], [0, 1, 2, 3, 4, 5, 6, 7], [0, 1, 2, 3, 4, 5, 6, 7], [0, 1, 2, 3, 4, 5, 6, 7], [], [0, 1, 2, 3, 4, 5, 6, 7, 8, 11], [0, 1, 2, 3, 4, 5, 6, 7, 8, 9, 11, 12], [0, 1, 2, 3, 4, 5, 6, 7, 8, 9, 10, 11, 12, 13]] [12] [some 9, some 10, some 11, some 12, some 13, some 14, some 15, some 8, some 16, some 17, some 18, some 5, none, some 6, some 7] := regOk (by kernel_rfl)
set_option maxRecDepth 20000 in
set_option maxHeartbeats 1600000 in
theorem lam_any (Ab : Option Addr) (nb cb : Nat) (aw : Addr) (nw cw : Nat) (xs ws : List Int) (i : Nat) (a : Nat) (nm vl : ByteArray) (nx : Nat) (name : ByteArray) (g1 g2 : Nat) (w : World)
    (hr : Rds .u8 w Ab nb xs) (hb : Byte xs) (hnc : nb ≤ cb) (hn : nb ≤ 1000000) (hrw : Rds .i64 w (some aw) nw ws) (hi : i < nw) (hwi : ws.getD i 0 = (a : Int)) (ha : a ≤ nb)
    (ho : oneP xs a [] = some ((numsOf nm, numsOf vl), nx)) (h1 : w.heap[g1]? = some (.cells #[.slice Ab nb cb, .slice (some aw) nw cw] 36 (0, 0))) (h2 : w.heap[g2]? = some (.cells #[.string name] 9 (0, 0))) :
    Calls Try.prog 50 #[.int .i64 (i : Nat), .pointer (some ⟨g1, 0, none⟩), .pointer (some ⟨g2, 0, none⟩)] w fun e w' => e = .returned (.bool (Op.bytesLess name.toList nm.toList)) ∧ Below w.heap.size w w' := by
  have HR := Lib.hid hr
  have HB := Lib.hid hb
  have HRW := Lib.hid hrw
  have HO := Lib.hid ho
  have HWI := Lib.hid hwi
  have H1 := Lib.hid h1
  have H2 := Lib.hid h2
  clear hr hb hrw ho hwi h1 h2
  go_enter Try.func50, Try.ntmps50
  go_upto_region 1 with fail
  have hcell : w.cell? (aw.add i) = some (.int .i64 (a : Nat)) := by
    obtain ⟨ad, e1, hc⟩ := rds_at 0 HRW.out i hi
    injection e1 with e1
    subst e1
    rw [hc, HWI.out]
  have HC := Lib.hid hcell
  clear hcell
  refine drawsD_ (fun wq => Below w.heap.size w wq) (fun _ => True) (f50F w.heap.size [.agg #[.slice Ab nb cb, .slice (some aw) nw cw], .pointer (some ⟨g1, 1, none⟩), .slice (some aw) nw cw, .int .i64 (i : Nat), .pointer (some (aw.add i)), .int .i64 (a : Nat), .tuple #[.agg #[.string nm, .string vl], .int .i64 (nx : Nat), .int .i64 0], .tuple #[.agg #[.string nm, .string vl], .int .i64 (nx : Nat), .int .i64 0], .agg [.string nm, .string vl].toArray, .int .i64 (nx : Nat), .int .i64 0, undef, undef, .int .i64 (nx : Nat), .int .i64 0] nm vl) (fun i => decide (i ≠ 11)) (by kernel_rfl) reg_50_1 rfl (fun _ _ _ _ => trivial) (below_drew (Below.refl _ _)) trivial ?_ ?_ ?_ ?_ ?_
  · intro i vs vs' W h1 h2 h
    refine ⟨fun a b => by rw [← h1]; exact h.1 a b, fun e => ?_, fun e => ?_⟩
    · subst e
      rw [← h1]
      exact h.2.1 rfl
    · subst e
      rw [← h2 11 (List.mem_of_elem_eq_true rfl)]
      exact h.2.2 rfl
  · intro vs i W W' h hb
    refine ⟨h.1, fun e => ?_, fun e => ?_⟩
    · obtain ⟨g, k1, k2, old, k3, k4⟩ := h.2.1 e
      exact ⟨g, k1, k2, old, k3, box_stays k4 hb⟩
    · obtain ⟨g, k1, k2⟩ := h.2.2 e
      exact ⟨g, k1, box_stays k2 hb⟩
  · intro vs i W W' h12 h11 h
    have h11 := of_decide_eq_true h11
    refine ⟨h.1, fun e => absurd e h11, fun e => absurd (by subst e; exact List.mem_singleton.2 rfl) h12⟩
  · intro i o hio vs wq hI _ _ hK
    have hil : i < 15 := (Array.getElem?_eq_some_iff.1 hio).1
    rcases (by omega : i = 0 ∨ i = 1 ∨ i = 2 ∨ i = 3 ∨ i = 4 ∨ i = 5 ∨ i = 6 ∨ i = 7 ∨ i = 8 ∨ i = 9 ∨ i = 10 ∨ i = 11 ∨ i = 12 ∨ i = 13 ∨ i = 14) with rfl | rfl | rfl | rfl | rfl | rfl | rfl | rfl | rfl | rfl | rfl | rfl | rfl | rfl | rfl <;> obtain rfl := Option.some.inj hio
    · exact ob_run [(1, .pointer (some ⟨g1, 0, none⟩))] (wants_none rfl) ⟨rho_out rfl rfl, trivial⟩ rfl (op_load_at rfl ⟨g1, 0, none⟩ [.slice Ab nb cb, .slice (some aw) nw cw] rfl (box_cells (box_stays H1.out hI)) Try.underlying36 rfl info36) (f50r hI (Below.refl _ _) (by decide) (by decide) rfl)
    · exact ob_run [(1, .pointer (some ⟨g1, 0, none⟩))] (wants_none rfl) ⟨rho_out rfl rfl, trivial⟩ rfl (op_field rfl rfl Try.underlying36 rfl rfl rfl info34 (by decide)) (f50r hI (Below.refl _ _) (by decide) (by decide) rfl)
    · exact ob_run [(10, .pointer (some ⟨g1, 1, none⟩))] (wants_none rfl) ⟨rho_in rfl (f50k (hK 1 (List.mem_of_elem_eq_true rfl)) (by decide) (by decide) rfl), trivial⟩ rfl (run_load_cell (ad := ⟨g1, 1, none⟩) (v := .slice (some aw) nw cw) rfl rfl rfl Try.underlying34 rfl (by have h := box_stays H1.out hI; simp [World.cell?, h])) (f50r hI (Below.refl _ _) (by decide) (by decide) rfl)
    · exact ob_copy (.inl rfl) (wants_none rfl) (rho_out rfl rfl) (f50r hI (Below.refl _ _) (by decide) (by decide) rfl)
    · exact ob_run [(11, .slice (some aw) nw cw), (12, .int .i64 (i : Nat))] (wants_none rfl) ⟨rho_in rfl (f50k (hK 2 (List.mem_of_elem_eq_true rfl)) (by decide) (by decide) rfl), rho_in rfl (f50k (hK 3 (List.mem_of_elem_eq_true rfl)) (by decide) (by decide) rfl), trivial⟩ rfl (run_index_cell tb34 rfl rfl rfl rfl hi) (f50r hI (Below.refl _ _) (by decide) (by decide) rfl)
    · exact ob_run [(13, .pointer (some (aw.add i)))] (wants_none rfl) ⟨rho_in rfl (f50k (hK 4 (List.mem_of_elem_eq_true rfl)) (by decide) (by decide) rfl), trivial⟩ rfl (run_load_cell (v := .int .i64 (a : Nat)) rfl rfl rfl Try.underlying3 rfl (below_cell hI HC.out)) (f50r hI (Below.refl _ _) (by decide) (by decide) rfl)
    · refine ob_call [(9, .agg #[.slice Ab nb cb, .slice (some aw) nw cw]), (14, .int .i64 (a : Nat))] _ (wants_none rfl) ⟨rho_in rfl (f50k (hK 0 (List.mem_of_elem_eq_true rfl)) (by decide) (by decide) rfl), rho_in rfl (f50k (hK 5 (List.mem_of_elem_eq_true rfl)) (by decide) (by decide) rfl), trivial⟩ rfl rfl Try.func51 (by kernel_rfl) rfl (margs rfl) ?_
      refine (one_any Ab nb cb (some aw) nw cw xs a ⟨#[]⟩ wq (rds_below HR.out hI) HB.out hnc hn ha (by show (0 : Nat) ≤ 1000000; omega)).mono ?_
      rintro e w2 ⟨hb2, ⟨nm2, vl2, nx2, rfl, ho2⟩ | ⟨rfl, ho2⟩⟩
      · rw [numsOf_empty, HO.out] at ho2
        simp only [Option.some.injEq, Prod.mk.injEq] at ho2
        obtain ⟨⟨k1, k2⟩, rfl⟩ := ho2
        obtain rfl := numsOf_inj k1
        obtain rfl := numsOf_inj k2
        exact ⟨_, rfl, f50r hI hb2 (by decide) (by decide) rfl⟩
      · rw [numsOf_empty, HO.out] at ho2
        cases ho2
    · exact ob_copy (.inl rfl) (wants_none rfl) (rho_in rfl (f50k (hK 6 (List.mem_of_elem_eq_true rfl)) (by decide) (by decide) rfl)) (f50r hI (Below.refl _ _) (by decide) (by decide) rfl)
    · exact ob_run [(8, _)] (wants_none rfl) ⟨rho_in rfl (f50k (hK 7 (List.mem_of_elem_eq_true rfl)) (by decide) (by decide) rfl), trivial⟩ rfl (op_extract rfl rfl rfl) (f50r hI (Below.refl _ _) (by decide) (by decide) rfl)
    · exact ob_run [(8, _)] (wants_none rfl) ⟨rho_in rfl (f50k (hK 7 (List.mem_of_elem_eq_true rfl)) (by decide) (by decide) rfl), trivial⟩ rfl (op_extract rfl rfl rfl) (f50r hI (Below.refl _ _) (by decide) (by decide) rfl)
    · exact ob_run [(8, _)] (wants_none rfl) ⟨rho_in rfl (f50k (hK 7 (List.mem_of_elem_eq_true rfl)) (by decide) (by decide) rfl), trivial⟩ rfl (op_extract rfl rfl rfl) (f50r hI (Below.refl _ _) (by decide) (by decide) rfl)
    · exact ob_run [] (wants_none rfl) trivial rfl (op_alloc30 rfl) ⟨below_then hI hI.size (below_alloc (Below.refl _ _) _), fun _ => below_alloc (Below.refl _ _) _, fun e => absurd rfl e, fun _ => ⟨wq.heap.size, upd_same _ _ _, hI.size, _, rfl, heap_alloc_new wq _⟩, fun e => by cases e⟩
    · obtain ⟨g, e1, e2, old, e3, e4⟩ := (hK 11 (List.mem_of_elem_eq_true rfl)).2.1 rfl
      exact ob_store_box [(5, .pointer (some ⟨g, 0, none⟩)), (16, .agg [.string nm, .string vl].toArray)] (wants_none rfl) ⟨rho_in rfl e1, rho_in rfl (f50k (hK 8 (List.mem_of_elem_eq_true rfl)) (by decide) (by decide) rfl), trivial⟩ rfl rfl rfl rfl e4 e3 info30 rfl (fun w' hs => ⟨hs.then_ hI e2, fun h => absurd (List.mem_singleton.2 rfl) h, ⟨fun _ e => absurd rfl e, fun (e : 12 = 11) => absurd e (by decide), fun _ => ⟨g, (upd_other _ _ (by decide)).trans e1, hs.at_⟩⟩⟩)
    · exact ob_copy (.inr rfl) (wants_none rfl) (rho_in rfl (f50k (hK 9 (List.mem_of_elem_eq_true rfl)) (by decide) (by decide) rfl)) (f50r hI (Below.refl _ _) (by decide) (by decide) rfl)
    · exact ob_copy (.inr rfl) (wants_none rfl) (rho_in rfl (f50k (hK 10 (List.mem_of_elem_eq_true rfl)) (by decide) (by decide) rfl)) (f50r hI (Below.refl _ _) (by decide) (by decide) rfl)
  · intro vs wq hI hF
    obtain ⟨g, e1, e2⟩ := (hF 12 (by decide) rfl).2.2 rfl
    have HW := Lib.hid hI
    have hc1 : wq.cell? ⟨g, 0, none⟩ = some (.string nm) := by simp [World.cell?, e2]
    have hc2 : wq.cell? ⟨g2, 0, none⟩ = some (.string name) := by
      have h := box_stays H2.out hI
      simp [World.cell?, h]
    clear hF hI HR HB HRW HO HWI H1 H2 HC e2
    simp only [putL, Nat.reduceAdd, e1, Act.put, List.setIfInBounds_toArray, List.set_cons_zero, List.set_cons_succ]
    clear e1
    go_wp2_with fail
    go_ret
    refine ⟨congrArg (fun b => Ending.returned (Value.bool b)) ?_, HW.out⟩
    rw [← Bool.not_or, leq_not, Bool.not_not]
/-- IndexFunc's closure. -/
theorem lam2_any (x : PB) (name : ByteArray) (g2 : Nat) (w : World) (h2 : w.heap[g2]? = some (.cells #[.string name] 9 (0, 0))) :
    Calls Try.prog 54 #[.agg (encP x).toArray, .pointer (some ⟨g2, 0, none⟩)] w fun e w' => e = .returned (.bool (!Op.bytesLess x.1.toList name.toList)) ∧ Below w.heap.size w w' := by
  have hx1 : (w.alloc (.cells #[.string x.1, .string x.2] 30)).heap[w.heap.size]? = some (.cells #[.string x.1, .string x.2] 30 (0, 0)) := heap_alloc_new w _
  have HB1 := Lib.hid (below_alloc (Below.refl w.heap.size w) (.cells #[.string x.1, .string x.2] 30))
  have hc1 : (w.alloc (.cells #[.string x.1, .string x.2] 30)).cell? ⟨w.heap.size, 0, none⟩ = some (.string x.1) := box_cells (cs := [.string x.1, .string x.2]) hx1 0 _ rfl
  have hc2 : (w.alloc (.cells #[.string x.1, .string x.2] 30)).cell? ⟨g2, 0, none⟩ = some (.string name) := by
    exact box_cells (cs := [.string name]) (box_stays h2 HB1.out) 0 _ rfl
  have HC1 := Lib.hid hc1
  have HC2 := Lib.hid hc2
  clear h2 hx1 hc1 hc2
  show Calls Try.prog 54 #[.agg #[.string x.1, .string x.2], .pointer (some ⟨g2, 0, none⟩)] w _
  go_enter Try.func54, Try.ntmps54
  go_upto_region 1 with fail
  generalize w.alloc (.cells #[.string x.1, .string x.2] 30) = w1 at HC1 HC2 HB1 ⊢
  have hc1 := HC1.out
  have hc2 := HC2.out
  go_wp2_with fail
  go_ret
  refine ⟨congrArg (fun b => Ending.returned (Value.bool b)) ?_, HB1.out⟩
  rfl
end Go.Proofs.Ytnkeijdpjcclcaa.Pg
-- PgU
/- slices.IndexFunc at pairs, whatever function is handed to it; start. -/
namespace Go.Proofs.Ytnkeijdpjcclcaa.Pg
set_option linter.unusedVariables false
set_option linter.unusedSimpArgs false
open Go.Proofs.Ytnkeijdpjcclcaa.Kit Go.Proofs.Ytnkeijdpjcclcaa.Num Go.RowKit Go.Proofs.YtnkeijdpjcclcaaW.PrintWords Go.Proofs.YtnkeijdpjcclcaaW.PrintLast Go.Proofs.YtnkeijdpjcclcaaW.PrintMore NumPure
set_option maxRecDepth 20000 in
set_option maxHeartbeats 1600000 in
theorem indexf_any (A : Option Addr) (n c : Nat) (ps : List PB) (q : PB → Bool) (F : Nat) (fn : Func) (cp : Array Value) (hf : Try.prog.funcs[F]? = some fn) (hname : (fn.name == "runtime.NumGoroutine") = false) (hb : fn.body.isSome = true) (w : World) (hr : Sts encP 2 w A n ps)
    (hstep : ∀ x W, x ∈ ps → Below w.heap.size w W → Calls Try.prog F (#[.agg (encP x).toArray] ++ cp) W fun e W' => e = .returned (.bool (q x)) ∧ Below W.heap.size W W') :
    Calls Try.prog 53 #[.slice A n c, .func (.func F) #[] cp] w fun e w' => Below w.heap.size w w' ∧ ((e = .returned (.int .i64 (-1)) ∧ ∀ (j : Nat) (x : PB), ps[j]? = some x → q x = false) ∨ ∃ k : Nat, k < n ∧ e = .returned (.int .i64 (k : Nat)) ∧ (∀ (j : Nat) (x : PB), j < k → ps[j]? = some x → q x = false) ∧ ∀ x : PB, ps[k]? = some x → q x = true) := by
  have HS := Lib.hid hstep
  have HR := Lib.hid hr
  have HL := Lib.hid hr.len
  have hmx := hr.max
  clear hstep hr
  go_enter Try.func53, Try.ntmps53
  go_wp2_with fail
  go_loopw [8] (fun x wr => ∃ i : Nat, i ≤ n ∧ x = .int .i64 i ∧ Hid (∀ (j : Nat) (y : PB), j < i → ps[j]? = some y → q y = false) ∧ Hid (Below w.heap.size w wr)) (fun x _ => n - (intOf x).toNat)
  case atStart => exact ⟨0, by omega, rfl, Lib.hid (fun j y hj => absurd hj (by omega)), Lib.hid (Below.refl _ _)⟩
  case round =>
    obtain ⟨i, hi, rfl, HN, HW⟩ := hrel
    by_cases hlt : i < n
    · have t1 : decide ((i : Int) < (n : Int)) = true := decide_eq_true (by omega)
      obtain ⟨ad, rfl, hc⟩ := (sts_below HR.out HW.out).row (by omega)
      obtain ⟨x, hp⟩ : ∃ x : PB, ps[i]? = some x := ⟨_, List.getElem?_eq_getElem (by rw [HL.out]; exact hlt)⟩
      have hcell := hc i _ hp
      have hS := HS.out x wr (List.mem_of_getElem? hp) HW.out
      have HS1 := Lib.hid hS
      have HP := Lib.hid hp
      clear hc hS hp
      go_wp2_with (first
        | (refine wpList_index_st rfl 22 _ _ rfl sts22 rfl rfl rfl hlt ?_)
        | (refine wpList_load_at rfl 30 _ rfl _ (encP x) rfl hcell Try.underlying30 rfl info30 ?_)
        | fail)
      rw [enters_ hf hname hb]
      refine Calls.mono HS1.out ?_
      rintro e w2 ⟨rfl, hb2⟩
      have HW2 := Lib.hid (below_then HW.out HW.out.size hb2)
      clear hb2 HS1 HW hcell
      obtain ⟨D, hD⟩ : ∃ D, q x = D := ⟨_, rfl⟩
      rw [hD]
      have HD := Lib.hid hD
      clear hD
      cases D with
      | true =>
        go_wp2_with fail
        go_ret
        exact ⟨HW2.out, .inr ⟨i, hlt, rfl, HN.out, fun y hy => by rw [HP.out] at hy; injection hy with hy; subst hy; exact HD.out⟩⟩
      | false =>
        have HN2 : Hid (∀ (j : Nat) (y : PB), j < i + 1 → ps[j]? = some y → q y = false) := Lib.hid fun j y hj hy => by
          rcases Nat.lt_or_ge j i with g | g
          · exact HN.out j y g hy
          · obtain rfl : j = i := by omega
            rw [HP.out] at hy
            injection hy with hy
            subst hy
            exact HD.out
        clear HN HP HD
        go_wp2_with fail
        go_roundw
        case rel => exact ⟨i + 1, by omega, by go_num, HN2, HW2⟩
        case measure => simp [intOf]; omega
    · obtain rfl : i = n := by omega
      have t1 : decide ((i : Int) < (i : Int)) = false := by simp
      go_wp2_with fail
      go_ret
      refine ⟨HW.out, .inl ⟨rfl, fun j x hx => HN.out j x ?_ hx⟩⟩
      have := (List.getElem?_eq_some_iff.1 hx).1
      rw [HL.out] at this
      exact this
/-- start of a place; of none: 0. -/
theorem start_any (bv : Value) (aw : Option Addr) (nw cw : Nat) (ws : List Int) (i : Nat) (a : Nat) (w : World) (h1 : bv.oneCell' = true) (hrw : Rds .i64 w aw nw ws) (hi : i ≤ nw) (hwi : 0 < i → ws.getD (i - 1) 0 = (a : Int)) (h0 : i = 0 → a = 0) :
    Calls Try.prog 52 #[.agg #[bv, .slice aw nw cw], .int .i64 ((i : Nat) - 1 : Int)] w fun e w' => e = .returned (.int .i64 (a : Nat)) ∧ Below w.heap.size w w' := by
  have hx1 : (w.alloc (.cells #[bv, .slice aw nw cw] 36)).heap[w.heap.size]? = some (.cells #[bv, .slice aw nw cw] 36 (0, 0)) := heap_alloc_new w _
  have HB1 := Lib.hid (below_alloc (Below.refl w.heap.size w) (.cells #[bv, .slice aw nw cw] 36))
  have hc1 : (w.alloc (.cells #[bv, .slice aw nw cw] 36)).cell? ⟨w.heap.size, 1, none⟩ = some (.slice aw nw cw) := box_cells (cs := [bv, .slice aw nw cw]) hx1 1 _ rfl
  have HRW := Lib.hid (rds_below hrw HB1.out)
  clear hrw
  rcases Nat.eq_zero_or_pos i with rfl | hpos
  · obtain rfl := h0 rfl
    go_enter Try.func52, Try.ntmps52
    go_wp2_with fail
    go_ret
    exact ⟨rfl, HB1.out⟩
  · obtain ⟨ad, rfl, hc⟩ := rds_at 0 HRW.out (i - 1) (by omega)
    rw [hwi hpos] at hc
    have hi1 : ((i : Nat) : Int) - 1 = ((i - 1 : Nat) : Int) := by omega
    rw [hi1]
    have hk : i - 1 < nw := by omega
    generalize i - 1 = k at hc hk ⊢
    have t1 : decide ((k : Int) < 0) = false := decide_eq_false (by omega)
    have HC := Lib.hid hc
    have HC1 := Lib.hid hc1
    clear hc hc1 hx1 hwi h0 hi1 HRW
    go_enter Try.func52, Try.ntmps52
    go_upto_region 1 with fail
    generalize w.alloc (.cells #[bv, .slice (some ad) nw cw] 36) = w1 at HC HC1 HB1 ⊢
    have hc := HC.out
    have hc1 := HC1.out
    go_wp2_with (first | (refine wpList_index_row tb34 rfl rfl rfl rfl hk ?_) | fail)
    go_ret
    exact ⟨rfl, HB1.out⟩
end Go.Proofs.Ytnkeijdpjcclcaa.Pg
-- PgW
/- The pages of the law PageWhole, without the program. -/
namespace Go.Proofs.Ytnkeijdpjcclcaa.Pg
set_option linter.unusedVariables false
set_option linter.unusedSimpArgs false
open Go.Proofs.Ytnkeijdpjcclcaa.Kit Go.Proofs.Ytnkeijdpjcclcaa.Num Go.RowKit Go.Proofs.YtnkeijdpjcclcaaW.PrintWords Go.Proofs.YtnkeijdpjcclcaaW.PrintLast Go.Proofs.YtnkeijdpjcclcaaW.PrintMore NumPure
def nmL (i L : Nat) : List Int := [107, 101, 121, ((97 + i / 26 : Nat) : Int), ((97 + i % 26 : Nat) : Int)] ++ List.replicate L 120
def nameW (i : Nat) : Nat → ByteArray
  | 0 => (⟨#[107, 101, 121]⟩ : ByteArray) ++ strOfNums [((97 + i / 26 : Nat) : Int), ((97 + i % 26 : Nat) : Int)]
  | L + 1 => nameW i L ++ ⟨#[120]⟩
theorem nums_nameW (i : Nat) (hi : i < 100) : ∀ L, numsOf (nameW i L) = nmL i L
  | 0 => by
    have h1 : numsOf (⟨#[107, 101, 121]⟩ : ByteArray) = [107, 101, 121] := by rw [numsOf_data]; rfl
    rw [nameW, numsOf_append, h1, numsOf_strOfNums]
    · simp [nmL]
    · intro x hx
      simp only [List.mem_cons, List.not_mem_nil, or_false] at hx
      rcases hx with rfl | rfl <;> omega
  | L + 1 => by
    have h1 : numsOf (⟨#[120]⟩ : ByteArray) = [120] := by rw [numsOf_data]; rfl
    rw [nameW, numsOf_append, nums_nameW i hi L, h1]
    simp only [nmL, List.append_assoc, List.replicate_succ']
theorem nameW_size (i L : Nat) (hi : i < 100) : (nameW i L).size = 5 + L := by
  rw [← numsOf_length, nums_nameW i hi]; simp [nmL]; omega
def listW (L n : Nat) : List PB := (List.range n).map fun i => (nameW i L, ⟨#[118]⟩)
theorem listW_length (L n : Nat) : (listW L n).length = n := by simp [listW]
theorem listW_succ (L n : Nat) : listW L (n + 1) = listW L n ++ [(nameW n L, ⟨#[118]⟩)] := by simp [listW, List.range_succ]
theorem listW_get (L n k : Nat) (h : k < n) : (listW L n).getD k default = (nameW k L, ⟨#[118]⟩) := by
  rw [List.getD_eq_getElem?_getD, List.getElem?_eq_getElem (by rw [listW_length]; exact h)]
  simp [listW]
theorem listW_sizes (L n : Nat) (hn : n ≤ 100) (hL : L ≤ 100) : ∀ p ∈ listW L n, p.1.size ≤ 300 ∧ p.2.size ≤ 300 := by
  intro p hp
  obtain ⟨i, hi, rfl⟩ := List.mem_map.1 hp
  have := List.mem_range.1 hi
  refine ⟨?_, ?_⟩
  · show (nameW i L).size ≤ 300
    rw [nameW_size i L (by omega)]; omega
  · show (⟨#[118]⟩ : ByteArray).size ≤ 300
    decide
theorem nmL_lt (i j L : Nat) (h : i < j) (hj : j < 100) : ltN (nmL i L) (nmL j L) = true := by
  have h1 : i / 26 < j / 26 ∨ (i / 26 = j / 26 ∧ i % 26 < j % 26) := by omega
  simp only [nmL, List.cons_append, List.nil_append, ltN]
  simp only [Int.lt_irrefl, if_false, if_true]
  rcases h1 with h1 | ⟨h1, h2⟩
  · rw [if_pos (by omega)]
  · rw [if_neg (by omega), if_pos (by omega), if_pos (by omega)]
theorem fit_gen {l : List PR} (hs : ∀ p ∈ l, p.1.length ≤ 300 ∧ p.2.length ≤ 300) : ∀ k, k ≤ l.length → (bodyAt l k).length ≤ 700 * k
  | 0, _ => by simp [bodyAt]
  | k + 1, hk => by
    have ih := fit_gen hs k (by omega)
    have hlk : k < l.length := by omega
    have hp := hs l[k] (List.getElem_mem hlk)
    have h1 : nmAt l k = l[k].1 := by simp [nmAt, List.getD_eq_getElem?_getD, List.getElem?_eq_getElem hlk]
    have h2 : vlAt l k = l[k].2 := by simp [vlAt, List.getD_eq_getElem?_getD, List.getElem?_eq_getElem hlk]
    have h3 := same_name l k
    rw [h1] at h3
    have e : (rowOf (sameAt l k) (nmAt l k) (vlAt l k)).length ≤ 700 := by
      unfold rowOf
      rw [h1, h2]
      have a1 := put7_len10 (n := sameAt l k) (by omega)
      have a2 := put7_len10 (n := l[k].1.length - sameAt l k) (by omega)
      have a3 := put7_len10 (n := l[k].2.length) (by omega)
      simp only [List.length_append, List.length_drop]
      omega
    simp only [bodyAt, List.length_append]
    omega
theorem goodW (L n : Nat) (hn : n ≤ 100) (hL : L ≤ 100) : Good (nn (listW L n)) n := by
  intro k hk
  refine ⟨?_, ?_⟩
  · rcases Nat.eq_zero_or_pos k with h | h
    · exact .inl h
    · refine .inr ?_
      have e1 : lastAt (nn (listW L n)) k = nmL (k - 1) L := by
        unfold lastAt
        rw [if_neg (by omega), nm_nn, listW_get L n _ (by omega)]
        exact nums_nameW _ (by omega) L
      have e2 : nmAt (nn (listW L n)) k = nmL k L := by
        rw [nm_nn, listW_get L n _ hk]
        exact nums_nameW _ (by omega) L
      rw [e1, e2]
      exact nmL_lt _ _ L (by omega) (by omega)
  · have hs : ∀ p ∈ nn (listW L n), p.1.length ≤ 300 ∧ p.2.length ≤ 300 := by
      intro p hp
      obtain ⟨q, hq, rfl⟩ := List.mem_map.1 hp
      rw [numsOf_length, numsOf_length]
      exact listW_sizes L n hn hL q hq
    have := fit_gen hs (k + 1) (by rw [nn_length, listW_length]; omega)
    unfold Fit
    omega
theorem body_front {l l' : List PR} : ∀ k, (∀ j, j < k → nmAt l j = nmAt l' j ∧ vlAt l j = vlAt l' j) → bodyAt l k = bodyAt l' k
  | 0, _ => rfl
  | k + 1, h => by
    have ih := body_front k (fun j hj => h j (by omega))
    have h1 := h k (by omega)
    have h2 : lastAt l k = lastAt l' k := by
      unfold lastAt
      split
      · rfl
      · exact (h (k - 1) (by omega)).1
    have h3 : sameAt l k = sameAt l' k := by unfold sameAt; rw [h1.1, h2]
    simp only [bodyAt, ih, h1.1, h1.2, h3]
theorem page_grow (L k : Nat) : (pageOf (nn (listW L k))).length < (pageOf (nn (listW L (k + 1)))).length := by
  rw [page_length, page_length, nn_length, nn_length, listW_length, listW_length]
  have h1 : bodyAt (nn (listW L k)) k = bodyAt (nn (listW L (k + 1))) k := body_front k (fun j hj => by
    rw [nm_nn, nm_nn, vl_nn, vl_nn, listW_get L k j hj, listW_get L (k + 1) j (by omega)]
    exact ⟨rfl, rfl⟩)
  have h2 := body_mono (nn (listW L (k + 1))) k
  have h3 : cntAt k ≤ cntAt (k + 1) := by unfold cntAt; omega
  rw [h1]
  omega
theorem places_get (l : List PR) : ∀ k i, i < cntAt k → (places l k).getD i 0 = ((bodyAt l (8 * i)).length : Int)
  | 0, i, h => by simp [cntAt] at h
  | k + 1, i, h => by
    have ih := places_get l k
    rw [cnt_succ] at h
    simp only [places]
    split
    · next h8 =>
      rw [if_pos h8] at h
      rcases Nat.lt_or_ge i (cntAt k) with g | g
      · rw [List.getD_eq_getElem?_getD, List.getElem?_append_left (by rw [places_length]; exact g), ← List.getD_eq_getElem?_getD]
        exact ih i g
      · obtain rfl : i = cntAt k := by omega
        have hk : 8 * cntAt k = k := by unfold cntAt; omega
        rw [List.getD_eq_getElem?_getD, List.getElem?_append_right (by rw [places_length]; exact Nat.le_refl _), places_length, Nat.sub_self, hk]
        rfl
    · next h8 =>
      rw [if_neg h8] at h
      exact ih i h
theorem nums4_get (xs : List Int) (e : Nat) : ∀ k i, i < k → (nums4 xs e k).getD i 0 = ((leVal ((xs.drop (e + 4 * i)).take 4) : Nat) : Int)
  | 0, i, h => by omega
  | k + 1, i, h => by
    rw [nums4]
    rcases Nat.lt_or_ge i k with g | g
    · rw [List.getD_eq_getElem?_getD, List.getElem?_append_left (by rw [nums4_length]; exact g), ← List.getD_eq_getElem?_getD]
      exact nums4_get xs e k i g
    · obtain rfl : i = k := by omega
      rw [List.getD_eq_getElem?_getD, List.getElem?_append_right (by rw [nums4_length]; exact Nat.le_refl _), nums4_length, Nat.sub_self]
      rfl
/-- What the law looks at, of every eighth pair. -/
theorem wholeW (L n i : Nat) (hn : n ≤ 100) (hL : L ≤ 100) (hi : i < cntAt n) (hn0 : 8 * i < n) (xs : List Int) (hxs : pageOf (nn (listW L n)) = xs) :
    leVal ((xs.drop (xs.length - 4 - 4 * cntAt n + 4 * i)).take 4) = (bodyAt (nn (listW L n)) (8 * i)).length ∧ xs.getD (bodyAt (nn (listW L n)) (8 * i)).length 0 = 0 ∧ xs.getD ((bodyAt (nn (listW L n)) (8 * i)).length + 1) 0 = ((5 + L : Nat) : Int) ∧ (bodyAt (nn (listW L n)) (8 * i)).length + 1 < xs.length := by
  have hg : Good (nn (listW L n)) (nn (listW L n)).length := by rw [nn_length, listW_length]; exact goodW L n hn hL
  have hip : IsPage xs (nn (listW L n)) := ⟨hg, hxs⟩
  have hpe := page_end hip
  have hpp := page_places hip
  have hln : (nn (listW L n)).length = n := by rw [nn_length, listW_length]
  rw [hln] at hpe hpp
  have h1 := nums4_get xs (endOf xs) (cntAt n) i hi
  rw [hpp, places_get _ n i hi] at h1
  have he : endOf xs = xs.length - 4 - 4 * cntAt n := by unfold endOf; rw [hpe.2.1]
  rw [he] at h1
  have hnm : nmAt (nn (listW L n)) (8 * i) = nmL (8 * i) L := by
    rw [nm_nn, listW_get L n _ hn0]
    exact nums_nameW _ (by omega) L
  have hnl : (nmL (8 * i) L).length = 5 + L := by simp [nmL]; omega
  have hs : sameAt (nn (listW L n)) (8 * i) = 0 := by unfold sameAt; rw [if_pos (by omega)]
  have hrow : ∃ r, rowOf (sameAt (nn (listW L n)) (8 * i)) (nmAt (nn (listW L n)) (8 * i)) (vlAt (nn (listW L n)) (8 * i)) = 0 :: ((5 + L : Nat) : Int) :: r := by
    rw [hs, hnm]
    unfold rowOf
    rw [hnl, Nat.sub_zero, put7_small (by omega), put7_small (n := 5 + L) (by omega)]
    exact ⟨_, rfl⟩
  obtain ⟨r, hr⟩ := hrow
  have hsplit : ∃ post, xs = bodyAt (nn (listW L n)) (8 * i) ++ (0 :: ((5 + L : Nat) : Int) :: (r ++ post)) := by
    have key : ∀ m, 8 * i + 1 ≤ m → ∃ post, bodyAt (nn (listW L n)) m = bodyAt (nn (listW L n)) (8 * i) ++ (0 :: ((5 + L : Nat) : Int) :: (r ++ post)) := by
      intro m
      induction m with
      | zero => intro h; omega
      | succ m ih =>
        intro h
        rcases Nat.lt_or_ge (8 * i) m with g | g
        · obtain ⟨post, hp⟩ := ih (by omega)
          exact ⟨post ++ rowOf (sameAt (nn (listW L n)) m) (nmAt (nn (listW L n)) m) (vlAt (nn (listW L n)) m), by simp only [bodyAt]; rw [hp]; simp only [List.append_assoc, List.cons_append]⟩
        · obtain rfl : m = 8 * i := by omega
          exact ⟨[], by simp only [bodyAt]; rw [hr]; simp⟩
    obtain ⟨post, hp⟩ := key n (by omega)
    refine ⟨post ++ (wholeAt (nn (listW L n)) n ++ le (cntAt n) 4), ?_⟩
    rw [← hxs, pageOf, hln, hp]
    simp only [List.append_assoc, List.cons_append]
  obtain ⟨post, hp⟩ := hsplit
  refine ⟨by omega, ?_, ?_, ?_⟩
  · rw [hp, List.getD_eq_getElem?_getD, List.getElem?_append_right (Nat.le_refl _), Nat.sub_self]; rfl
  · rw [hp, List.getD_eq_getElem?_getD, List.getElem?_append_right (by omega), Nat.add_sub_cancel_left]; rfl
  · have := congrArg List.length hp
    simp only [List.length_append, List.length_cons] at this
    omega
theorem and_small (x : Int) (m : Nat) (hm : (BitVec.ofInt 64 ((2 ^ m - 1 : Nat) : Int)).toNat = 2 ^ m - 1) (h16 : m ≤ 16) : ∃ q : Nat, Go.bits .and .i64 x ((2 ^ m - 1 : Nat) : Int) = (q : Int) ∧ q < 2 ^ m := by
  have hp : 0 < 2 ^ m := Nat.pos_of_ne_zero (by simp)
  have hle : 2 ^ m ≤ 2 ^ 16 := Nat.pow_le_pow_right (by omega) h16
  have h65 : (2 : Nat) ^ 16 = 65536 := by decide
  refine ⟨(BitVec.ofInt 64 x).toNat % 2 ^ m, ?_, Nat.mod_lt _ hp⟩
  have hlt : (BitVec.ofInt 64 x).toNat % 2 ^ m < 2 ^ m := Nat.mod_lt _ hp
  show IntKind.i64.wrap ((BitVec.ofInt 64 x &&& BitVec.ofInt 64 ((2 ^ m - 1 : Nat) : Int)).toNat : Int) = _
  rw [BitVec.toNat_and, hm, Nat.and_two_pow_sub_one_eq_mod, i64_id (by omega) (by omega)]
theorem and63 (x : Int) : ∃ q : Nat, Go.bits .and .i64 x 63 = (q : Int) ∧ q < 64 := and_small x 6 (by decide) (by omega)
theorem and15 (x : Int) : ∃ q : Nat, Go.bits .and .i64 x 15 = (q : Int) ∧ q < 16 := and_small x 4 (by decide) (by omega)
end Go.Proofs.Ytnkeijdpjcclcaa.Pg
-- PgR
/- Pairs from a name on: pure. -/
namespace Go.Proofs.Ytnkeijdpjcclcaa.Pg
set_option linter.unusedVariables false
set_option linter.unusedSimpArgs false
open Go.Proofs.Ytnkeijdpjcclcaa.Kit Go.Proofs.Ytnkeijdpjcclcaa.Num Go.RowKit NumPure
theorem ltN_trans : ∀ a b c : List Int, ltN a b = true → ltN b c = true → ltN a c = true
  | [], b, [], h1, h2 => by cases b <;> simp [ltN] at h1 h2
  | [], _, _ :: _, _, _ => rfl
  | _ :: _, [], _, h1, _ => by simp [ltN] at h1
  | _ :: _, _ :: _, [], _, h2 => by simp [ltN] at h2
  | x :: a, y :: b, z :: c, h1, h2 => by
    have ih := ltN_trans a b c
    simp only [ltN] at h1 h2 ⊢
    by_cases h : x < y
    · by_cases h' : y < z
      · rw [if_pos (by omega)]
      · by_cases h'' : y = z
        · rw [if_pos (by omega)]
        · rw [if_neg h', if_neg h''] at h2
          cases h2
    · rw [if_neg h] at h1
      by_cases he : x = y
      · rw [if_pos he] at h1
        by_cases h' : y < z
        · rw [if_pos (by omega)]
        · rw [if_neg h'] at h2
          by_cases h'' : y = z
          · rw [if_pos h''] at h2
            rw [if_neg (by omega), if_pos (by omega)]
            exact ih h1 h2
          · rw [if_neg h''] at h2
            cases h2
      · rw [if_neg he] at h1
        cases h1
theorem bl_trans {a b c : ByteArray} (h1 : Op.bytesLess a.toList b.toList = true) (h2 : Op.bytesLess b.toList c.toList = true) : Op.bytesLess a.toList c.toList = true := by
  rw [less_nums] at *
  exact ltN_trans _ _ _ h1 h2
theorem bl_le {a b c : ByteArray} (h1 : Op.bytesLess a.toList b.toList = true) (h2 : Op.bytesLess c.toList b.toList = false) : Op.bytesLess a.toList c.toList = true := by
  have h := leq_not b.toList c.toList
  rw [h2, Bool.not_false, Bool.or_eq_true] at h
  rcases h with h | h
  · exact bl_trans h1 h
  · rw [← beq_iff_eq.1 h]
    exact h1
/-- A pair of the list. -/
def pbAt (ps : List PB) (k : Nat) : PB := ps.getD k default
theorem nm_pb {ps : List PB} {k : Nat} {x : PB} (h : ps[k]? = some x) : nmAt (nn ps) k = numsOf x.1 ∧ vlAt (nn ps) k = numsOf x.2 := by
  unfold nmAt vlAt nn
  simp [List.getD_eq_getElem?_getD, h]
theorem names_lt {ps : List PB} (hg : Good (nn ps) ps.length) : ∀ (d a : Nat) (x y : PB), ps[a]? = some x → ps[a + d + 1]? = some y → Op.bytesLess x.1.toList y.1.toList = true
  | 0, a, x, y, hx, hy => by
    have hl := (List.getElem?_eq_some_iff.1 hy).1
    have h := (hg (a + 1) hl).1
    rcases h with h | h
    · omega
    · rw [less_nums, ← (nm_pb hx).1, ← (nm_pb hy).1]
      have e : lastAt (nn ps) (a + 1) = nmAt (nn ps) a := by simp [lastAt]
      rw [← e]
      exact h
  | d + 1, a, x, y, hx, hy => by
    have hl := (List.getElem?_eq_some_iff.1 hy).1
    have hz : ps[a + d + 1]? = some ps[a + d + 1] := List.getElem?_eq_getElem (by omega)
    refine bl_trans (names_lt hg d a x _ hx hz) (names_lt hg 0 (a + d + 1) _ y hz ?_)
    rw [show a + d + 1 + 0 + 1 = a + (d + 1) + 1 by omega]
    exact hy
theorem names_lt' {ps : List PB} (hg : Good (nn ps) ps.length) {a b : Nat} {x y : PB} (hab : a < b) (hx : ps[a]? = some x) (hy : ps[b]? = some y) : Op.bytesLess x.1.toList y.1.toList = true :=
  names_lt hg (b - a - 1) a x y hx (by rw [show a + (b - a - 1) + 1 = b by omega]; exact hy)
/-- The first whose name is not ahead of it. -/
structure Fst (ps : List PB) (name : ByteArray) (k : Nat) : Prop where
  le : k ≤ ps.length
  below : ∀ (j : Nat) (x : PB), j < k → ps[j]? = some x → Op.bytesLess x.1.toList name.toList = true
  at_ : ∀ x : PB, ps[k]? = some x → Op.bytesLess x.1.toList name.toList = false
theorem fst_one {ps : List PB} {name : ByteArray} {k k' : Nat} (h : Fst ps name k) (h' : Fst ps name k') : k = k' := by
  have key : ∀ {k k' : Nat}, Fst ps name k → Fst ps name k' → ¬ k < k' := by
    intro k k' h h' hlt
    have hl : k < ps.length := by have := h'.le; omega
    have hx : ps[k]? = some ps[k] := List.getElem?_eq_getElem hl
    have h1 := h.at_ _ hx
    rw [h'.below k _ hlt hx] at h1
    cases h1
  have := key h h'
  have := key h' h
  omega
theorem body_split (l : List PR) (k : Nat) : ∀ m, k + 1 ≤ m → ∃ post, bodyAt l m = bodyAt l k ++ (rowOf (sameAt l k) (nmAt l k) (vlAt l k) ++ post) := by
  intro m
  induction m with
  | zero => intro h; omega
  | succ m ihm =>
    intro h
    rcases Nat.lt_or_ge k m with g | g
    · obtain ⟨post, hp⟩ := ihm (by omega)
      exact ⟨post ++ rowOf (sameAt l m) (nmAt l m) (vlAt l m), by simp only [bodyAt]; rw [hp]; simp only [List.append_assoc]⟩
    · obtain rfl : m = k := by omega
      exact ⟨[], by simp [bodyAt]⟩
theorem one_at (l : List PR) {n k : Nat} (hk : k < n) (hs : (bodyAt l n).length < 18446744073709551616) (last : List Int) (h1 : sameAt l k ≤ last.length) (h3 : last.take (sameAt l k) = (nmAt l k).take (sameAt l k)) : oneP (bodyAt l n) (bodyAt l k).length last = some ((nmAt l k, vlAt l k), (bodyAt l (k + 1)).length) := by
  obtain ⟨post, hp⟩ := body_split l k n hk
  have h4 := same_last l k
  have h5 := name_body l k
  have h6 := body_le l (show k ≤ n by omega)
  have h := oneP_row (bodyAt l n) (bodyAt l k) post last (nmAt l k) (vlAt l k) (sameAt l k) hp h1 (same_name l k) h3 (by omega) hs
  rw [h]
  simp [bodyAt]
theorem whole_one (l : List PR) {n k : Nat} (hk : k < n) (h8 : k % 8 = 0) (hs : (bodyAt l n).length < 18446744073709551616) : oneP (bodyAt l n) (bodyAt l k).length [] = some ((nmAt l k, vlAt l k), (bodyAt l (k + 1)).length) := by
  have e : sameAt l k = 0 := by simp [sameAt, h8]
  exact one_at l hk hs [] (by rw [e]; exact Nat.zero_le _) (by rw [e]; simp)
theorem take_drop_succ (l : List PR) (s k : Nat) (hk : k < l.length) (hs : s ≤ k) : (l.take (k + 1)).drop s = (l.take k).drop s ++ [(nmAt l k, vlAt l k)] := by
  rw [List.take_succ_eq_append_getElem hk, List.drop_append_of_le_length (by rw [List.length_take]; omega)]
  congr 2
  simp [nmAt, vlAt, List.getD_eq_getElem?_getD, List.getElem?_eq_getElem hk]
/-- A page is read from any whole one on. -/
theorem chain_at (l : List PR) (n : Nat) (hn : n ≤ l.length) (hs : (bodyAt l n).length < 18446744073709551616) (s : Nat) (h8 : s % 8 = 0) : ∀ k, s ≤ k → k ≤ n → Chain (bodyAt l n) (bodyAt l s).length (bodyAt l k).length (if k = s then [] else lastAt l k) ((l.take k).drop s) := by
  intro k
  induction k with
  | zero =>
    intro h _
    obtain rfl : s = 0 := by omega
    simpa using Chain.nil
  | succ k ih =>
    intro h hk
    rcases Nat.lt_or_ge k s with g | g
    · obtain rfl : s = k + 1 := by omega
      rw [if_pos rfl]
      have : (l.take (k + 1)).drop (k + 1) = [] := List.drop_eq_nil_of_le (by rw [List.length_take]; omega)
      rw [this]
      exact Chain.nil
    · have ih := ih g (by omega)
      have hlt : (bodyAt l k).length < (bodyAt l n).length := by have := body_le l (show k ≤ n by omega); omega
      have ho : oneP (bodyAt l n) (bodyAt l k).length (if k = s then [] else lastAt l k) = some ((nmAt l k, vlAt l k), (bodyAt l (k + 1)).length) := by
        by_cases hks : k = s
        · rw [if_pos hks]
          exact whole_one l (by omega) (by rw [hks]; exact h8) hs
        · rw [if_neg hks]
          exact one_at l (by omega) hs _ (same_last l k) (same_take l k)
      have hsn := Chain.snoc _ _ ih hlt ho
      rw [if_neg (by omega), take_drop_succ l s k (by omega) g]
      have e2 : lastAt l (k + 1) = nmAt l k := by simp [lastAt]
      rw [e2]
      exact hsn
theorem nn_drop (ps : List PB) (s : Nat) : nn (ps.drop s) = (nn ps).drop s := by
  unfold nn
  rw [List.map_drop]
end Go.Proofs.Ytnkeijdpjcclcaa.Pg
-- PgV
/- From. -/
namespace Go.Proofs.Ytnkeijdpjcclcaa.Pg
set_option linter.unusedVariables false
set_option linter.unusedSimpArgs false
open Go.Proofs.Ytnkeijdpjcclcaa.Kit Go.Proofs.Ytnkeijdpjcclcaa.Num Go.RowKit Go.Proofs.YtnkeijdpjcclcaaW.PrintWords Go.Proofs.YtnkeijdpjcclcaaW.PrintLast Go.Proofs.YtnkeijdpjcclcaaW.PrintMore NumPure
/-- s[lo:] of elements of k cells. -/
theorem cut_st {P : Program} {t e : TypeId} {k : Nat} (T : StTy P t e k) {α : Type} (enc : α → List Value) (A : Option Addr) (n c lo : Nat) (hlo : lo ≤ n) (hc : n ≤ c) (kd : IntKind) :
    ∃ A' : Option Addr, (∀ W : World, (Instr.sliceAt t (.slice A n c) (some (.int kd (lo : Nat))) none none).run P W = .ok (.slice A' (n - lo) (c - lo)) W) ∧ ∀ (w : World) (xs : List α), Sts enc k w A n xs → Sts enc k w A' (n - lo) (xs.drop lo) := by
  have hel : P.elem t = e := by simp [Program.elem, T.und]
  have hu : P.underlying t = some (.slice (P.elem t)) := by rw [hel]; exact T.und
  refine ⟨if c = lo then A else A.map (·.add (lo * k)), fun W => ?_, fun w xs h => ⟨by rw [List.length_drop, h.len], by have := h.max; omega, fun hn => ?_⟩⟩
  · rw [run_sliceAt_slice W t _ _ _ _ hu, run_slice_l W t A n c hu kd lo (by omega) (by omega), st_sizeOf T]
    simp [sliced, Result.andThen]
  · obtain ⟨ad, rfl, hr⟩ := h.row (by omega)
    refine ⟨ad.add (lo * k), by rw [if_neg (by omega)]; rfl, fun i x hx j v hv => ?_⟩
    rw [List.getElem?_drop] at hx
    have := hr (lo + i) x hx j v hv
    rw [Addr.add_add, Addr.add_add, show lo * k + (i * k + j) = (lo + i) * k + j by rw [Nat.add_mul, Nat.add_assoc], ← Addr.add_add]
    exact this
/-- Whether the j-th whole name is behind a name. -/
def behind (ps : List PB) (name : ByteArray) (j : Nat) : Bool := Op.bytesLess name.toList (ps.getD (8 * j) default).1.toList
theorem getD_of {ps : List PB} {k : Nat} (h : k < ps.length) : ps[k]? = some (ps.getD k default) := by
  rw [List.getD_eq_getElem?_getD, List.getElem?_eq_getElem h]
  rfl
theorem behind_mono {ps : List PB} {name : ByteArray} (hg : Good (nn ps) ps.length) : ∀ i j, i ≤ j → j < cntAt ps.length → behind ps name i = true → behind ps name j = true := by
  intro i j hij hj h
  rcases Nat.lt_or_ge i j with g | g
  · have h8 : 8 * j < ps.length := by unfold cntAt at hj; omega
    exact bl_trans h (names_lt' hg (show 8 * i < 8 * j by omega) (getD_of (by omega)) (getD_of h8))
  · obtain rfl : i = j := by omega
    exact h
/-- Where From begins to read. -/
theorem begin_ok {ps : List PB} {name : ByteArray} (hg : Good (nn ps) ps.length) {i : Nat} (hi : i ≤ cntAt ps.length) (h : ∀ j, j < i → behind ps name j = false) : ∀ (j : Nat) (x : PB), j < 8 * (i - 1) → ps[j]? = some x → Op.bytesLess x.1.toList name.toList = true := by
  intro j x hj hx
  have h8 : 8 * (i - 1) < ps.length := by unfold cntAt at hi; omega
  exact bl_le (names_lt' hg hj hx (getD_of h8)) (h (i - 1) (by omega))
theorem reg_23_2 : RegOk (opsOf Try.f23 2) [[], [], [], [2], [1, 2, 3], [0, 1, 2, 3, 4], [0, 1, 2, 3, 4, 5], [0, 1, 2, 3, 4, 5, 6], [0, 1, 2, 3, 4, 5, 6], [0, 1, 2, 3, 4, 5, 6, 7], [0, 1, 2, 3, 4, 5, 6, 7, 8, 9]] [] [some 15, some 16, some 17, some 18, some 19, some 20, some 14, some 21, some 22, some 6, some 7] := regOk (by kernel_rfl)
theorem reg_23_6 : RegOk (opsOf Try.f23 6) [[], [], [0, 1], [0, 1, 2]] [] [some 28, some 29, some 30, some 4] := regOk (by kernel_rfl)
set_option maxRecDepth 20000 in
set_option maxHeartbeats 1600000 in
theorem from_any (bv wv : Value) (ps : List PB) (name : ByteArray) (w : World) {B B2 : Nat} (hg : Good (nn ps) ps.length) (h1 : Gr .u8 5 w B bv (bodyAt (nn ps) ps.length)) (h2 : Gr .i64 3 w B2 wv (places (nn ps) ps.length)) :
    Calls Try.prog 23 #[.agg #[bv, wv], .string name] w fun e w' => Below w.heap.size w w' ∧ ∃ (A : Option Addr) (n c k : Nat), e = .returned (.slice A n c) ∧ Fst ps name k ∧ Sts encP 2 w' A n (ps.drop k) := by
  obtain ⟨Ab, nb, cb, rfl, hbc, HLb, hbm, hrb⟩ := gr_open h1
  obtain ⟨Aw, nw, cw, rfl, hwc, HLw, hwm, hrw⟩ := gr_open h2
  have hbf := body_fit hg
  have hl := HLb.out
  have hnw : cntAt ps.length = nw := by rw [← HLw.out, places_length]
  have hcn : cntAt ps.length ≤ 262144 := by have := body_len (nn ps) ps.length; unfold cntAt; omega
  have hby : Byte (bodyAt (nn ps) ps.length) := by
    have := (page_byte (nn_byte ps)).take (bodyAt (nn ps) ps.length).length
    rw [show pageOf (nn ps) = bodyAt (nn ps) (nn ps).length ++ (wholeAt (nn ps) (nn ps).length ++ le (cntAt (nn ps).length) 4) by unfold pageOf; rw [List.append_assoc], nn_length, List.take_left] at this
    exact this
  have hplace : ∀ i, i < nw → (places (nn ps) ps.length).getD i 0 = ((bodyAt (nn ps) (8 * i)).length : Int) := fun i hi => places_get (nn ps) ps.length i (by omega)
  have hx1 : ((w.alloc (.cells #[.slice Ab nb cb, .slice Aw nw cw] 36)).alloc (.cells #[.string name] 9)).heap[w.heap.size]? = some (.cells #[.slice Ab nb cb, .slice Aw nw cw] 36 (0, 0)) := heap_alloc2_old w _ _
  have hx2 : ((w.alloc (.cells #[.slice Ab nb cb, .slice Aw nw cw] 36)).alloc (.cells #[.string name] 9)).heap[w.heap.size + 1]? = some (.cells #[.string name] 9 (0, 0)) := heap_alloc2_new w _ _
  have HB1 := Lib.hid (below_alloc (below_alloc (Below.refl w.heap.size w) (.cells #[.slice Ab nb cb, .slice Aw nw cw] 36)) (.cells #[.string name] 9))
  have HX1 := Lib.hid hx1
  have HX2 := Lib.hid hx2
  have hc1 : ((w.alloc (.cells #[.slice Ab nb cb, .slice Aw nw cw] 36)).alloc (.cells #[.string name] 9)).cell? ⟨w.heap.size, 1, none⟩ = some (.slice Aw nw cw) := box_cells (cs := [.slice Ab nb cb, .slice Aw nw cw]) hx1 1 _ rfl
  have HC1 := Lib.hid hc1
  have HRB := Lib.hid (rds_below hrb HB1.out)
  have HRW := Lib.hid (rds_below hrw HB1.out)
  have HPL := Lib.hid hplace
  have HBY := Lib.hid hby
  have HG := Lib.hid hg
  have HNW := Lib.hid hnw
  clear h1 h2 hrb hrw hx1 hx2 hc1 hplace hby hg hwm hbm
  go_enter Try.func23, Try.ntmps23
  go_upto_region 1 with fail
  generalize (w.alloc (.cells #[.slice Ab nb cb, .slice Aw nw cw] 36)).alloc (.cells #[.string name] 9) = w1 at HX1 HX2 HC1 HRB HRW HB1 ⊢
  generalize w.heap.size = g1 at HX1 HX2 HC1 ⊢
  have hc1 := HC1.out
  have CS := Lib.hid (search_any nw (by omega) (behind ps name) (by rw [← HNW.out]; exact behind_mono HG.out) 50 _ #[.pointer (some ⟨g1, 0, none⟩), .pointer (some ⟨g1 + 1, 0, none⟩)] Try.func50 (by kernel_rfl) rfl w1 (fun i W hi hW => by
    obtain ⟨aw, rfl, _⟩ := rds_at 0 HRW.out i hi
    have h8 : 8 * i < ps.length := by have := HNW.out; unfold cntAt at this; omega
    have hnm := nm_pb (getD_of h8)
    have ho := whole_one (nn ps) (n := ps.length) (k := 8 * i) h8 (by omega) (by omega)
    rw [hnm.1, hnm.2] at ho
    exact lam_any Ab nb cb aw nw cw _ _ i _ _ _ _ name g1 (g1 + 1) W (rds_below HRB.out hW) HBY.out hbc (by omega) (rds_below HRW.out hW) hi (HPL.out i hi) (by have := body_le (nn ps) (show 8 * i ≤ ps.length by omega); omega) ho (box_stays HX1.out hW) (box_stays HX2.out hW)))
  go_wp2_with fail
  refine CS.out.mono ?_
  rintro e w2 ⟨i, rfl, hi, hlo, hat, hb2⟩
  have hle : 8 * (i - 1) ≤ ps.length := by unfold cntAt at hnw; omega
  have HLO := Lib.hid hlo
  have HW2 := Lib.hid (below_then HB1.out HB1.out.size hb2)
  have HX3 := Lib.hid (box_stays HX1.out hb2)
  have HX4 := Lib.hid (box_stays HX2.out hb2)
  have HRB2 := Lib.hid (rds_below HRB.out hb2)
  have HRW2 := Lib.hid (rds_below HRW.out hb2)
  have HCH := Lib.hid (chain_at (nn ps) ps.length (by rw [nn_length]; exact Nat.le_refl _) (by omega) (8 * (i - 1)) (by omega) ps.length hle (Nat.le_refl _))
  have HST : Hid ((0 < i → (places (nn ps) ps.length).getD (i - 1) 0 = ((bodyAt (nn ps) (8 * (i - 1))).length : Int)) ∧ (i = 0 → (bodyAt (nn ps) (8 * (i - 1))).length = 0)) := Lib.hid ⟨fun h => HPL.out (i - 1) (by omega), fun h => by subst h; rfl⟩
  have hal : (bodyAt (nn ps) (8 * (i - 1))).length ≤ nb := by have := body_le (nn ps) hle; omega
  generalize (bodyAt (nn ps) (8 * (i - 1))).length = st at HCH HST hal
  have hrd : ∀ wq, Below w2.heap.size w2 wq → Calls Try.prog 48 #[.agg #[.slice Ab nb cb, .slice Aw nw cw], .int .i64 (st : Nat), .int .i64 (-1)] wq fun e w' => ∃ v', e = .returned v' ∧ Below wq.heap.size wq w' ∧ ∃ v, v' = .tuple #[v, .int .i64 0] ∧ OwnK encP 2 30 w' w2.heap.size v (ps.drop (8 * (i - 1))) := fun wq hI => by
    refine (read_any Ab nb cb Aw nw cw _ st wq (rds_below HRB2.out hI) HBY.out hbc (by omega) hal).mono ?_
    rintro e w' ⟨hb, v, ex, rfl, h⟩
    rcases h with ⟨rfl, a, last, qs, k1, k2, k3⟩ | ⟨_, _, a, last, out, k1, k2, k3⟩
    · have h := (chain_end k1 HCH.out (.inl k2) (.inl (Nat.le_refl _))).2.2
      have e2 : (nn ps).take ps.length = nn ps := by rw [← nn_length, List.take_length]
      rw [e2, ← nn_drop] at h
      obtain rfl := nn_inj h
      exact ⟨_, rfl, hb, v, rfl, ownk_lower k3 hI.size⟩
    · have := (chain_end k1 HCH.out (.inr k3) (.inl (Nat.le_refl _))).1
      omega
  have HRD := Lib.hid hrd
  clear hrd
  clear hb2 hlo hat hc1 CS HX1 HX2 HC1 HRB HRW HB1 HPL
  go_upto_region 2 with fail
  refine draws_ (fun wq => Below w2.heap.size w2 wq) (fun _ => True) (by kernel_rfl) reg_23_2 rfl inv0 (fun _ _ _ _ => trivial) (below_drew (Below.refl _ _)) trivial ?_
  refine w_val [(2, _)] (.agg #[.slice Ab nb cb, .slice Aw nw cw]) (fun vs w hK => ⟨wants_none rfl, rho_out rfl rfl, trivial⟩) rfl (fun wq hI => by exact op_load_at rfl ⟨g1, 0, none⟩ [.slice Ab nb cb, .slice Aw nw cw] rfl (box_cells (box_stays HX3.out hI)) Try.underlying36 rfl info36) ?_
  refine w_val [(2, _)] (.agg #[.slice Ab nb cb, .slice Aw nw cw]) (fun vs w hK => ⟨wants_none rfl, rho_out rfl rfl, trivial⟩) rfl (fun wq hI => by exact op_load_at rfl ⟨g1, 0, none⟩ [.slice Ab nb cb, .slice Aw nw cw] rfl (box_cells (box_stays HX3.out hI)) Try.underlying36 rfl info36) ?_
  refine w_move (.inl rfl) (fun vs w hK => ⟨wants_none rfl, rho_out rfl rfl⟩) ?_
  refine w_val [(17, _)] (_) (fun vs w hK => ⟨wants_none rfl, rho_in rfl (fv (hK 2 (memE rfl))), trivial⟩) rfl (fun wq hI => by exact run_int_sub (c := ((i : Nat) : Int) - 1) rfl rfl rfl (i64_id (by omega) (by omega))) ?_
  refine w_call [(16, _), (18, _)] _ _ (by decide) (fun vs w hK => ⟨wants_none rfl, rho_in rfl (fv (hK 1 (memE rfl))), rho_in rfl (fv (hK 3 (memE rfl))), trivial⟩) rfl rfl Try.func52 (by kernel_rfl) rfl (fun wq hI => start_any (.slice Ab nb cb) Aw nw cw _ i st wq rfl (rds_below HRW2.out hI) (by omega) HST.out.1 HST.out.2) (margs rfl) ?_
  refine w_callF (FW.of (fun v' W => ∃ v, v' = .tuple #[v, .int .i64 0] ∧ OwnK encP 2 30 W w2.heap.size v (ps.drop (8 * (i - 1)))) (fun _ _ _ h hb => h.elim fun v h => ⟨v, h.1, ownk_below h.2 hb⟩)) [(15, _), (19, _)] _ (by decide) (fun vs w hK => ⟨wants_none rfl, rho_in rfl (fv (hK 0 (memE rfl))), rho_in rfl (fv (hK 4 (memE rfl))), trivial⟩) rfl rfl Try.func48 (by kernel_rfl) rfl (fun wq hI => HRD.out wq hI) (margs rfl) ?_
  refine w_any (FW.of (fun v' W => ∃ v, v' = .tuple #[v, .int .i64 0] ∧ OwnK encP 2 30 W w2.heap.size v (ps.drop (8 * (i - 1)))) (fun _ _ _ h hb => h.elim fun v h => ⟨v, h.1, ownk_below h.2 hb⟩)) (by decide) (fun vs wq hI hK => ?_) ?_
  · obtain ⟨v, e1, e2⟩ : ∃ v, vs 5 = .tuple #[v, .int .i64 0] ∧ OwnK encP 2 30 wq w2.heap.size v (ps.drop (8 * (i - 1))) := hK 5 (memE rfl)
    exact ob_copy (.inl rfl) (wants_none rfl) (rho_in rfl e1) ⟨Below.refl _ _, v, rfl, e2⟩
  refine w_any (FW.of (fun v' W => OwnK encP 2 30 W w2.heap.size v' (ps.drop (8 * (i - 1)))) (fun _ _ _ h hb => ownk_below h hb)) (by decide) (fun vs wq hI hK => ?_) ?_
  · obtain ⟨v, e1, e2⟩ : ∃ v, vs 6 = .tuple #[v, .int .i64 0] ∧ OwnK encP 2 30 wq w2.heap.size v (ps.drop (8 * (i - 1))) := hK 6 (memE rfl)
    exact ob_run [(14, _)] (wants_none rfl) ⟨rho_in rfl e1, trivial⟩ rfl (op_extract rfl rfl rfl) ⟨Below.refl _ _, e2⟩
  refine w_any (FW.any) (by decide) (fun vs wq hI hK => ?_) ?_
  · obtain ⟨v, e1, e2⟩ : ∃ v, vs 6 = .tuple #[v, .int .i64 0] ∧ OwnK encP 2 30 wq w2.heap.size v (ps.drop (8 * (i - 1))) := hK 6 (memE rfl)
    exact ob_run [(14, _)] (wants_none rfl) ⟨rho_in rfl e1, trivial⟩ rfl (op_extract rfl rfl rfl) ⟨Below.refl _ _, trivial⟩
  refine w_any (FW.of (fun v' W => OwnK encP 2 30 W w2.heap.size v' (ps.drop (8 * (i - 1)))) (fun _ _ _ h hb => ownk_below h hb)) (by decide) (fun vs wq hI hK => ?_) ?_
  · exact ob_copy (.inr rfl) (wants_none rfl) (rho_in rfl rfl) ⟨Below.refl _ _, hK 7 (memE rfl)⟩
  refine w_any (FW.any) (by decide) (fun vs wq hI hK => ?_) ?_
  · exact ob_copy (.inr rfl) (wants_none rfl) (rho_in rfl rfl) ⟨Below.refl _ _, trivial⟩
  refine w_end rfl rfl rfl (fun vs wq hI hF => ?_)
  simp only [List.reverse_cons, List.reverse_nil, List.nil_append, List.cons_append, finL_val, finL_of, finL_any, finL_app, finL_new, finL_gr, finL_row, finL_box, finL_nil, Act.put, List.setIfInBounds_toArray, List.set_cons_zero, List.set_cons_succ, Nat.reduceAdd]
  have ho : OwnK encP 2 30 wq w2.heap.size (vs 9) (ps.drop (8 * (i - 1))) := hF 9 (by decide) rfl
  have HW3 := Lib.hid (below_then HW2.out HW2.out.size hI)
  have HX5 := Lib.hid (box_stays HX4.out hI)
  obtain ⟨A3, n3, c3, e3, h3c, HL3, h3m, hs3⟩ := ownk_open encP_len ho
  rw [e3]
  clear hI hF ho e3 HX3 HX4 HRB2 HRW2 HCH HST HW2
  have HS3 := Lib.hid hs3
  have CI := Lib.hid (indexf_any A3 n3 c3 (ps.drop (8 * (i - 1))) (fun x => !Op.bytesLess x.1.toList name.toList) 54 _ #[.pointer (some ⟨g1 + 1, 0, none⟩)] Try.func54 (by kernel_rfl) rfl wq hs3 (fun x W _ hW => lam2_any x name (g1 + 1) W (box_stays HX5.out hW)))
  clear hs3
  obtain ⟨w3, rfl⟩ : ∃ w3 : World, w3 = wq := ⟨_, rfl⟩
  go_wp2_with fail
  refine CI.out.mono ?_
  rintro e w4 ⟨hb4, ⟨rfl, hno⟩ | ⟨k, hk, rfl, hno, hyes⟩⟩
  · have HW4 := Lib.hid (below_then HW3.out HW3.out.size hb4)
    have HF : Hid (Fst ps name ps.length) := Lib.hid ⟨Nat.le_refl _, fun j x hj hx => by
      rcases Nat.lt_or_ge j (8 * (i - 1)) with g | g
      · exact begin_ok HG.out (by rw [HNW.out]; exact hi) HLO.out j x g hx
      · have := hno (j - 8 * (i - 1)) x (by rw [List.getElem?_drop, show 8 * (i - 1) + (j - 8 * (i - 1)) = j by omega]; exact hx)
        simpa using this, fun x hx => by
      have := (List.getElem?_eq_some_iff.1 hx).1
      omega⟩
    clear hno hb4 CI
    go_wp2_with fail
    go_ret
    refine ⟨HW4.out, none, 0, 0, ps.length, rfl, HF.out, ?_⟩
    rw [List.drop_length]
    exact sts_nil _ _ _ _
  · have HW4 := Lib.hid (below_then HW3.out HW3.out.size hb4)
    have hkl : 8 * (i - 1) + k < ps.length := by
      have := HL3.out
      rw [List.length_drop] at this
      omega
    have HF : Hid (Fst ps name (8 * (i - 1) + k)) := Lib.hid ⟨by omega, fun j x hj hx => by
      rcases Nat.lt_or_ge j (8 * (i - 1)) with g | g
      · exact begin_ok HG.out (by rw [HNW.out]; exact hi) HLO.out j x g hx
      · have := hno (j - 8 * (i - 1)) x (by omega) (by rw [List.getElem?_drop, show 8 * (i - 1) + (j - 8 * (i - 1)) = j by omega]; exact hx)
        simpa using this, fun x hx => by
      have := hyes x (by rw [List.getElem?_drop]; exact hx)
      simpa using this⟩
    have hs4 := sts_below HS3.out hb4
    obtain ⟨A5, hcut, hrd⟩ := cut_st sts22 encP A3 n3 c3 k (by omega) h3c .i64
    have hs5 := hrd w4 _ hs4
    rw [List.drop_drop] at hs5
    have HS5 := Lib.hid hs5
    have HCUT := Lib.hid hcut
    have t1 : decide (((k : Nat) : Int) < 0) = false := decide_eq_false (by omega)
    clear hno hyes hb4 CI hs4 hs5 hcut hrd HS3
    go_upto_region 6 with fail
    refine plain_ (fun wq => Below w4.heap.size w4 wq) (fun _ => True) reg_23_6 rfl inv0 (fun _ _ _ _ => trivial) (Below.refl _ _) trivial ?_
    refine w_move (.inl rfl) (fun vs w hK => ⟨wants_none rfl, rho_out rfl rfl⟩) ?_
    refine w_move (.inl rfl) (fun vs w hK => ⟨wants_none rfl, rho_out rfl rfl⟩) ?_
    refine w_val [(28, _), (29, _)] (_) (fun vs w hK => ⟨wants_none rfl, rho_in rfl (fv (hK 0 (memE rfl))), rho_in rfl (fv (hK 1 (memE rfl))), trivial⟩) rfl (fun wq hI => by exact run_slice_op rfl rfl (HCUT.out wq)) ?_
    refine w_move (.inr rfl) (fun vs w hK => ⟨wants_none rfl, rho_in rfl (fv (hK 2 (memE rfl)))⟩) ?_
    refine w_end rfl rfl rfl (fun vs wq hI hF => ?_)
    simp only [List.reverse_cons, List.reverse_nil, List.nil_append, List.cons_append, finL_val, finL_of, finL_any, finL_app, finL_new, finL_gr, finL_row, finL_box, finL_nil, Act.put, List.setIfInBounds_toArray, List.set_cons_zero, List.set_cons_succ, Nat.reduceAdd]
    have HW6 := Lib.hid (below_then HW4.out HW4.out.size hI)
    have HS6 := Lib.hid (sts_below HS5.out hI)
    clear hI hF HW4 HS5 HCUT
    go_wp2_with fail
    go_ret
    exact ⟨HW6.out, _, _, _, _, rfl, HF.out, HS6.out⟩
end Go.Proofs.Ytnkeijdpjcclcaa.Pg
-- Gr2
/- Cells of a row that may be appended to, written. -/
namespace Go.Proofs.Ytnkeijdpjcclcaa.Kit
set_option linter.unusedVariables false
set_option linter.unusedSimpArgs false
open Go.RowKit Go.Proofs.YtnkeijdpjcclcaaW.PrintWords Go.Proofs.YtnkeijdpjcclcaaW.PrintLast Go.Proofs.YtnkeijdpjcclcaaW.PrintMore
section
variable {α : Type} {enc : α → Value} {h1 : ∀ x, (enc x).oneCell' = true} {e : TypeId}
theorem gr_form {w : World} {B : Nat} {v : Value} {xs : List α} (h : GrE enc h1 e w B v xs) (hp : 0 < xs.length) :
    ∃ g n cap, v = .slice (some ⟨g, 0, none⟩) n cap ∧ Hid (xs.length = n) ∧ 0 < n ∧ n ≤ 9223372036854775807 ∧ n ≤ cap ∧ B ≤ g ∧ g < w.heap.size := by
  rcases h with h | ⟨g, cap, cur, fr, hv, k1, k2, k3, k4, k5, k6, k7⟩
  · exact own_form h hp
  · exact ⟨g, _, cap, hv, Lib.hid rfl, hp, by omega, k4, k1, mk_lt k2⟩
theorem gr_cell (d : α) {w : World} {B g n cap : Nat} {xs : List α} (h : GrE enc h1 e w B (.slice (some ⟨g, 0, none⟩) n cap) xs) (k : Nat) (hk : k < n) :
    w.cell? ⟨g, k, none⟩ = some (enc (xs.getD k d)) ∧ w.frozen? ⟨g, k, none⟩ = false := by
  rcases h with h | ⟨g', cap', cur, fr, hv, k1, k2, k3, k4, k5, k6, k7⟩
  · exact own_cell d h k hk
  · injection hv with e1 e2 e3
    injection e1 with e1
    injection e1 with e1
    subst e1 e2 e3
    refine ⟨?_, ?_⟩
    · have := mk_cells (cap := cap) k2 k7 k (enc (xs.getD k d)) (by simp [encs, List.getElem?_eq_getElem hk, List.getD_eq_getElem?_getD])
      rwa [add_plain] at this
    · unfold World.frozen?
      rw [k2]
      obtain ⟨lo, hi⟩ := fr
      simp only
      simp only at k3
      rw [show decide (lo ≤ k) = false from decide_eq_false (by omega)]
      rfl
theorem gr_set {w : World} {B g n cap : Nat} {xs : List α} (h : GrE enc h1 e w B (.slice (some ⟨g, 0, none⟩) n cap) xs) (k : Nat) (x : α) :
    GrE enc h1 e (w.setCell ⟨g, k, none⟩ (enc x)) B (.slice (some ⟨g, 0, none⟩) n cap) (xs.set k x) := by
  rcases h with h | ⟨g', cap', cur, fr, hv, k1, k2, k3, k4, k5, k6, k7⟩
  · exact .inl (own_set h k x)
  · injection hv with e1 e2 e3
    injection e1 with e1
    injection e1 with e1
    subst e1 e2 e3
    refine .inr ⟨g, cap, cur.setIfInBounds k (enc x), fr, by rw [List.length_set], k1, ?_, by simpa using k3, by rw [List.length_set]; exact k4, k5, by simpa using k6, ?_⟩
    · simp [World.setCell, Array.getElem?_modify, k2]
    · rw [List.length_set, Array.toList_setIfInBounds, List.take_set, k7]
      simp [encs]
end
end Go.Proofs.Ytnkeijdpjcclcaa.Kit
-- PageParses
/- The walk of the law PageParses: whatever bytes: the page that they are, or that they are none; what is read is made just so. -/
namespace Go.Proofs.Ytnkeijdpjcclcaa.Pg
set_option linter.unusedVariables false
set_option linter.unusedSimpArgs false
open Go.Proofs.Ytnkeijdpjcclcaa.Kit Go.Proofs.Ytnkeijdpjcclcaa.Num Go.RowKit Go.Proofs.YtnkeijdpjcclcaaW.PrintWords Go.Proofs.YtnkeijdpjcclcaaW.PrintLast Go.Proofs.YtnkeijdpjcclcaaW.PrintMore NumPure
/-- What a page is of is short. -/
theorem page_sizes {ps : List PB} (hg : Good (nn ps) ps.length) : ∀ p ∈ ps, p.1.size ≤ 1000000 ∧ p.2.size ≤ 1000000 := by
  intro p hp
  obtain ⟨k, hk, he⟩ := List.getElem_of_mem hp
  have hgd : ps.getD k default = p := by rw [List.getD_eq_getElem?_getD, List.getElem?_eq_getElem hk, he]; rfl
  have h1 := nm_nn ps k
  have h2 := vl_nn ps k
  rw [hgd] at h1 h2
  have h3 := name_body (nn ps) (k + 1)
  have h4 := (hg k hk).2
  unfold Fit at h4
  have h5 : lastAt (nn ps) (k + 1) = nmAt (nn ps) k := by simp [lastAt]
  have h6 := row_length (sameAt (nn ps) k) (nmAt (nn ps) k) (vlAt (nn ps) k)
  have h7 : (bodyAt (nn ps) (k + 1)).length = (bodyAt (nn ps) k).length + (rowOf (sameAt (nn ps) k) (nmAt (nn ps) k) (vlAt (nn ps) k)).length := by simp [bodyAt]
  have h8 : (vlAt (nn ps) k).length = p.2.size := by rw [h2, numsOf_length]
  have h9 : (nmAt (nn ps) k).length = p.1.size := by rw [h1, numsOf_length]
  rw [h5] at h3
  omega
/-- What Parse tells, both ways in one. -/
def ParseGen (xs : List Int) (w : World) (e : Ending) (w' : World) : Prop := Below w.heap.size w w' ∧ ∃ (bv wv : Value) (ex : Nat) (ps : List PB), e = .returned (.tuple #[.agg #[bv, wv], .int .i64 ex]) ∧ Good (nn ps) ps.length ∧ Gr .u8 5 w' w.heap.size bv (bodyAt (nn ps) ps.length) ∧ Gr .i64 3 w' w.heap.size wv (places (nn ps) ps.length) ∧
  ((ex = 0 ∧ IsPage xs (nn ps)) ∨ (ex = 2 ∧ ps = [] ∧ ∀ l, ¬ IsPage xs l))
theorem parse_gen (A : Option Addr) (n c : Nat) (xs : List Int) (w : World) (hr : Rds .u8 w A n xs) (hb : Byte xs) (hnc : n ≤ c) (hn : n ≤ 1000000) :
    Calls Try.prog 19 #[.slice A n c] w (ParseGen xs w) := by
  refine (parse_any A n c xs w hr hb hnc hn).mono ?_
  rintro e w' ⟨hb, bv, wv, ex, rfl, hp⟩
  rcases hp with ⟨rfl, ps, hip, h1, h2⟩ | ⟨rfl, rfl, rfl, hno⟩
  · exact ⟨hb, bv, wv, 0, ps, rfl, by have := hip.1; rwa [nn_length] at this, h1, h2, .inl ⟨rfl, hip⟩⟩
  · exact ⟨hb, _, _, 2, [], rfl, fun j hj => absurd hj (by simp), gr_nil _ _ _, gr_nil _ _ _, .inr ⟨rfl, rfl, hno⟩⟩
theorem reg_4_16 : RegOk (opsOf Try.f4 16) [[], [0], [0, 1], [0, 1, 2], [0, 1, 2, 3], [0, 1, 2], [0, 1, 2, 5], [0, 1, 2, 3, 4, 5, 6], [0, 1, 2, 3, 4, 5, 6, 7], [0, 1, 2, 3, 4, 5, 6, 7, 8]] [] [some 51, some 52, some 53, some 54, some 55, some 56, some 57, some 58, some 59, some 2] := regOk (by kernel_rfl)
set_option maxRecDepth 20000 in
set_option maxHeartbeats 3200000 in
theorem parses_any (A : Option Addr) (n c : Nat) (l : List Int) (w : World) (hr : Rds .u8 w A n l) (hl : l.length = n) (hm : n * 1 ≤ 140737488351232) (hw : ∀ x ∈ l, (Lit.int .u8 x).wf = true) (hc : n ≤ c) :
    Calls Try.prog 4 #[.slice A n c] w fun e w' => e = .returned (.bool true) ∧ Below w.heap.size w w' := by
  have HBY := Lib.hid (byte_wf hw)
  have HR := Lib.hid hr
  have HL := Lib.hid hl
  have C0 := Lib.hid (head_any w)
  clear hr hw hl
  go_enter Try.func4, Try.ntmps4
  go_wp2_with fail
  refine C0.out.mono ?_
  rintro e w1 ⟨rfl, hb1⟩
  have HB1 := Lib.hid hb1
  clear hb1 C0
  by_cases hbig : 1000 < n
  · have t0 : decide ((1000 : Int) < (n : Int)) = true := decide_eq_true (by omega)
    clear hbig
    go_wp2_with fail
    go_ret
    exact ⟨rfl, HB1.out⟩
  · have t0 : decide ((1000 : Int) < (n : Int)) = false := decide_eq_false (by omega)
    have hO := own_lit_ .u8 5 w1 w1.heap.size [] 0 rfl (Nat.le_refl _) (by simp)
    have hb2 := below_alloc (Below.refl w1.heap.size w1) (.cells (nums .u8 []).toArray 5)
    have HO : Hid (Gr .u8 5 (w1.alloc (.cells #[] 5)) w1.heap.size (.slice (some ⟨w1.heap.size, 0, none⟩) 0 0) []) := Lib.hid (.inl hO)
    have HB : Hid (Below w1.heap.size w1 (w1.alloc (.cells #[] 5))) := Lib.hid hb2
    have HR1 := Lib.hid (rds_below (rds_below HR.out HB1.out) HB.out)
    clear hO hb2
    go_wp2_with (at_builtin; refine gapp_row (h1 := int_one .u8) tb rfl (.tmp 15) (.tmp 16) rfl rfl rfl HO.out HR1.out HB.out HB.out.size ?cL ?_; (case cL => simp; omega); intro v4 w4 ho hb3 hs1 hf; obtain ⟨A4, n4, c4, rfl, h4c, HL4, _, hr4⟩ := gr_open ho; have HO4 := Lib.hid ho; have HB4 := Lib.hid hb3; have HR4 := Lib.hid hr4; clear ho hb3 hs1 hf hr4)
    rw [List.nil_append] at HO4 HR4 HL4
    obtain rfl : n4 = n := by rw [← HL4.out]; exact HL.out
    have HW4 := Lib.hid (below_then HB1.out HB1.out.size HB4.out)
    have C2 := Lib.hid (parse_gen A4 n4 c4 l w4 HR4.out HBY.out h4c (by omega))
    have hbw : w.heap.size ≤ w1.heap.size := HB1.out.size
    clear HR1 HR4 HB HO HB1 HB4 HL4
    refine C2.out.mono ?_
    rintro e w5 ⟨hb5, bv, wv, ex, ps, rfl, hgd, hbv, hwv, hcase⟩
    obtain ⟨Ab, nb, cb, rfl, _⟩ := gr_open hbv
    obtain ⟨Aw, nw, cw, rfl, _⟩ := gr_open hwv
    have HGD := Lib.hid hgd
    have HBV := Lib.hid hbv
    have HWV := Lib.hid hwv
    have HCA := Lib.hid hcase
    have HGL : Hid (∀ j, (Value.slice A4 n4 c4).ownBlock = some j → j < w4.heap.size) := Lib.hid (fun j hj => gr_lt HO4.out j hj)
    have HO5 := Lib.hid (gr_below HO4.out hb5)
    have HW5 := Lib.hid (below_then HW4.out HW4.out.size hb5)
    have h45 : w4.heap.size ≤ w5.heap.size := hb5.size
    clear hb5 hgd hbv hwv hcase HO4 HW4 C2
    go_upto_region 7 with (first | (refine wpList_store_box rfl 36 (.tmp 4) (.tmp 21) rfl w5.heap.size [.slice Ab nb cb, .slice Aw nw cw] rfl rfl (heap_alloc_new w5 _) rfl info36 rfl ?_; intro w6 hs6; have HS6 := Lib.hid hs6; clear hs6) | fail)
    have hb6 : Below w5.heap.size w5 w6 := HS6.out.then_ (below_alloc (Below.refl _ _) _) (Nat.le_refl _)
    have HX6 := Lib.hid HS6.out.at_
    have HBV6 := Lib.hid (gr_below HBV.out hb6)
    have HWV6 := Lib.hid (gr_below HWV.out hb6)
    have HO6 := Lib.hid (gr_below HO5.out hb6)
    have HW6 := Lib.hid (below_then HW5.out HW5.out.size hb6)
    clear hb6 HS6 HBV HWV HO5 HW5
    generalize w5.heap.size = b6 at HX6 h45 ⊢
    go_wp2_with fail
    go_loopw [25] (fun i wr => ∃ (k : Nat) (ys : List Int), k ≤ n4 ∧ i = .int .i64 k ∧ Hid (ys.length = n4) ∧ Hid (Gr .u8 5 wr w1.heap.size (.slice A4 n4 c4) ys) ∧ Hid (wr.heap[b6]? = some (.cells [Value.slice Ab nb cb, .slice Aw nw cw].toArray 36 (0, 0))) ∧ Hid (Gr .u8 5 wr w4.heap.size (.slice Ab nb cb) (bodyAt (nn ps) ps.length)) ∧ Hid (Gr .i64 3 wr w4.heap.size (.slice Aw nw cw) (places (nn ps) ps.length)) ∧ Hid (Below w.heap.size w wr)) (fun i _ => n4 - (intOf i).toNat)
    case atStart => exact ⟨0, l, by omega, rfl, HL, HO6, HX6, HBV6, HWV6, HW6⟩
    case round =>
      obtain ⟨k, ys, hk, rfl, HYL, HO, HX, HBV, HWV, HW⟩ := hrel
      by_cases hlt : k < n4
      · have t1 : decide ((k : Int) < (n4 : Int)) = true := decide_eq_true (by omega)
        obtain ⟨g, n', cap, hv, HLg, hpos, _, _, hgb, hgl⟩ := gr_form HO.out (by rw [HYL.out]; omega)
        injection hv with e1 e2 e3
        subst e1 e2 e3
        have hcell := gr_cell 0 HO.out k hlt
        obtain ⟨hcl, hfr⟩ := hcell
        have hg4 : g < w4.heap.size := HGL.out g rfl
        generalize ys.getD k 0 = y at hcl
        go_wp2_with fail
        go_roundw
        case rel => exact ⟨k + 1, ys.set k _, by omega, by go_num, Lib.hid (by rw [List.length_set]; exact HYL.out), Lib.hid (gr_set HO.out k _), Lib.hid (by rw [Below.heap_setCell _ _ _ _ (by show b6 ≠ g; omega)]; exact HX.out), Lib.hid (gr_move HBV.out fun j hj => Below.heap_setCell _ _ _ _ (by have := gr_base HBV.out j hj; show j ≠ g; omega)), Lib.hid (gr_move HWV.out fun j hj => Below.heap_setCell _ _ _ _ (by have := gr_base HWV.out j hj; show j ≠ g; omega)), Lib.hid (HW.out.setCell (p := ⟨g, k, none⟩) (by show w.heap.size ≤ g; omega) _)⟩
        case measure => simp [intOf]; omega
      · obtain rfl : k = n4 := by omega
        have t1 : decide ((k : Int) < (k : Int)) = false := by simp
        have C3 := Lib.hid (all_page (.slice Ab nb cb) (.slice Aw nw cw) ps wr w4.heap.size HGD.out HBV.out HWV.out)
        clear HO6 HX6 HBV6 HWV6 HW6 HBV HWV HO HYL HGL
        go_wp2_with (first | (refine wpList_load_box rfl 36 (.tmp 4) rfl b6 [.slice Ab nb cb, .slice Aw nw cw] rfl HX.out Try.underlying36 rfl info36 ?_) | fail)
        refine C3.out.mono ?_
        rintro e w7 ⟨pv, rfl, ho7, hb7⟩
        obtain ⟨Ap, np, cp, rfl, hpc, HLp, hpm, hsts⟩ := ownk_open encP_len ho7
        have HW7 := Lib.hid (below_then HW.out HW.out.size hb7)
        have HST := Lib.hid hsts
        clear ho7 hb7 hsts C3 HW HX
        rcases HCA.out with ⟨rfl, hip⟩ | ⟨rfl, rfl, hno⟩
        · have HIP := Lib.hid hip
          have C4 := Lib.hid (make_page Ap np cp ps w7 HST.out HGD.out (page_sizes HGD.out))
          clear hip HCA HST
          go_wp2_with fail
          refine C4.out.mono ?_
          rintro e w8 ⟨cv, rfl, hg8, hb8⟩
          obtain ⟨Ac, nc, cc, rfl, _, _, _, hrc⟩ := gr_open hg8
          have HRC := Lib.hid hrc
          have HW8 := Lib.hid (below_then HW7.out HW7.out.size hb8)
          have HPE := Lib.hid HIP.out.2
          clear hg8 hb8 hrc C4 HIP HW7
          go_upto_region 16 with fail
          refine plain_ (fun wq => Below w8.heap.size w8 wq) (fun _ => True) reg_4_16 rfl inv0 (fun _ _ _ _ => trivial) (Below.refl _ _) trivial ?_
          refine w_move (.inl rfl) (fun vs w hK => ⟨wants_none rfl, rho_out rfl rfl⟩) ?_
          refine w_val [(51, _)] (_) (fun vs w hK => ⟨wants_none rfl, rho_in rfl (fv (hK 0 (memE rfl))), trivial⟩) rfl (fun wq hI => by exact run_int_eql (r := true) rfl rfl rfl rfl) ?_
          refine w_move (.inl rfl) (fun vs w hK => ⟨wants_none rfl, rho_in rfl (fv (hK 1 (memE rfl)))⟩) ?_
          refine w_move (.inl rfl) (fun vs w hK => ⟨wants_g rfl (fv (hK 2 (memE rfl))), rho_out rfl rfl⟩) ?_
          refine w_val [(54, _)] (_) (fun vs w hK => ⟨wants_g rfl (fv (hK 2 (memE rfl))), rho_in rfl (fv (hK 3 (memE rfl))), trivial⟩) rfl (fun wq hI => by exact run_conv_op rfl rfl (conv_rds (dst := 9) tb Try.underlying5 Try.underlying9 (rds_below HRC.out hI))) ?_
          refine w_move (.inl rfl) (fun vs w hK => ⟨wants_g rfl (fv (hK 2 (memE rfl))), rho_out rfl rfl⟩) ?_
          refine w_val [(56, _)] (_) (fun vs w hK => ⟨wants_g rfl (fv (hK 2 (memE rfl))), rho_in rfl (fv (hK 5 (memE rfl))), trivial⟩) rfl (fun wq hI => by exact run_conv_op rfl rfl (conv_rds (dst := 9) tb Try.underlying5 Try.underlying9 (rds_below HR.out (below_then HW8.out HW8.out.size hI)))) ?_
          refine w_val [(55, _), (57, _)] (_) (fun vs w hK => ⟨wants_g rfl (fv (hK 2 (memE rfl))), rho_in rfl (fv (hK 4 (memE rfl))), rho_in rfl (fv (hK 6 (memE rfl))), trivial⟩) rfl (fun wq hI => by exact run_eql_same rfl rfl rfl (by rw [HPE.out])) ?_
          refine w_pick (b := true) rfl (fun vs w hK => ⟨wants_none rfl, (rho_in rfl (fv (hK 2 (memE rfl)))), (rho_in rfl (fv (hK 7 (memE rfl))))⟩) ?_
          refine w_move (.inr rfl) (fun vs w hK => ⟨wants_none rfl, rho_in rfl (fv (hK 8 (memE rfl)))⟩) ?_
          refine w_end rfl rfl rfl (fun vs wq hI hF => ?_)
          simp only [List.reverse_cons, List.reverse_nil, List.nil_append, List.cons_append, finL_val, finL_of, finL_any, finL_app, finL_new, finL_gr, finL_row, finL_box, finL_nil, Act.put, List.setIfInBounds_toArray, List.set_cons_zero, List.set_cons_succ, Nat.reduceAdd]
          have HW9 := Lib.hid (below_then HW8.out HW8.out.size hI)
          clear hI hF
          go_wp2_with fail
          go_ret
          exact ⟨rfl, HW9.out⟩
        · obtain rfl : np = 0 := HLp.out.symm
          clear hno HCA HST HLp
          go_wp2_with fail
          go_ret
          exact ⟨rfl, HW7.out⟩
end Go.Proofs.Ytnkeijdpjcclcaa.Pg
-- PageFroms
/- The walk of the law PageFroms: the pairs from any name on. -/
namespace Go.Proofs.Ytnkeijdpjcclcaa.Pg
set_option linter.unusedVariables false
set_option linter.unusedSimpArgs false
open Go.Proofs.Ytnkeijdpjcclcaa.Kit Go.Proofs.Ytnkeijdpjcclcaa.Num Go.RowKit Go.Proofs.YtnkeijdpjcclcaaW.PrintWords Go.Proofs.YtnkeijdpjcclcaaW.PrintLast Go.Proofs.YtnkeijdpjcclcaaW.PrintMore NumPure
theorem good0 : Good (nn []) ([] : List PB).length := fun j hj => absurd hj (Nat.not_lt_zero _)
theorem from_sts (bv wv : Value) (ps : List PB) (name : ByteArray) (k : Nat) (w : World) {B B2 : Nat} (hg : Good (nn ps) ps.length) (h1 : Gr .u8 5 w B bv (bodyAt (nn ps) ps.length)) (h2 : Gr .i64 3 w B2 wv (places (nn ps) ps.length)) (hf : Fst ps name k) :
    Calls Try.prog 23 #[.agg #[bv, wv], .string name] w fun e w' => ∃ v, e = .returned v ∧ Below w.heap.size w w' ∧ isSts (ps.drop k) v w' := by
  refine (from_any bv wv ps name w hg h1 h2).mono ?_
  rintro e w' ⟨hb, A, n, c, k', rfl, hf', hs⟩
  obtain rfl := fst_one hf hf'
  exact ⟨_, rfl, hb, A, n, c, rfl, hs⟩
/-- &p.f of a field at the struct's begin. -/
theorem op_fld0 {P : Program} {o : Oper} {l : List (Nat × Value)} {x : Operand} {t t2 : TypeId} {i m : Nat} {fs : Array Field} {f : Field} {ad : Addr} {w : World} (ho : o.op = .fieldAddr t x i) (hx : lk l x = .pointer (some ad)) (hu : P.underlying t = some (.struct fs)) (hf : fs[i]? = some f) (hof : f.offset = 0) (hft : f.type = t2) (hs : (P.info? t2).map (·.size) = some m) (hm : m ≠ 0) :
    (execOp (lk l) o).run P w = .ok (.value (.pointer (some ad))) w := by
  subst hft
  cases hq : P.info? f.type with
  | none => simp [hq] at hs
  | some i0 =>
    have hs2 : i0.size ≠ 0 := by simp [hq] at hs; omega
    unfold execOp
    simp [ho, hx, Instr.fieldAt, run_underlying hu, hf, Instr.sureAddr, fieldPlace, sizeOf, typeInfo, hq, hs2, Addr.add, hof]
theorem info9p : (Try.prog.info? 9).map (·.size) = some 1 := by kernel_rfl
theorem reg_7_12 : RegOk (opsOf Try.f7 12) [[], [], [1], [0, 1, 2], [0, 1, 2, 3], [0, 1, 2, 3, 4], [0, 1, 2, 3, 4], [0, 1, 2, 3, 4, 5, 6], [0, 1, 2, 3, 4, 5, 6, 7], [0, 1, 2, 3, 4, 5, 6, 7, 8], [0, 1, 2, 3, 4], [0, 1, 2, 3, 4, 5, 6, 7, 8, 9, 10], [0, 1, 2, 3, 4, 5, 6, 7, 8, 9, 10, 11]] [] [some 34, some 35, some 36, some 37, some 38, some 39, some 40, some 41, some 42, some 43, some 44, some 45, some 46] := regOk (by kernel_rfl)
theorem reg_7_15 : RegOk (opsOf Try.f7 15) [[], [], [0, 1], [], [], [3, 4], [0, 1, 2, 3, 4, 5], [0, 1, 2, 3, 4, 5, 6], [0, 1, 2, 3, 4, 5, 6, 7], [0, 1, 2, 3, 4, 5, 6, 7, 8], [0, 1, 2, 3, 4, 5, 6, 7, 8, 9], [0, 1, 2, 3, 4, 5, 6, 7, 8, 9, 10], [0, 1, 2, 3, 4, 5, 6, 7, 8, 9, 10, 11], [0, 1, 2, 3, 4, 5, 6, 7, 8, 9, 10, 11, 12], [0, 1, 2, 3, 4, 5, 6, 7, 8, 9, 10, 11, 12, 13], [0, 1, 2, 3, 4, 5, 6, 7, 8, 9, 10, 11, 12, 13], [0, 1, 2, 3, 4, 5, 6, 7, 8, 9, 10, 11, 12, 13, 14, 15], [0, 1, 2, 3, 4, 5, 6, 7, 8, 9, 10, 11, 12, 13, 14, 15, 16], [0, 1, 2, 3, 4, 5, 6, 7, 8, 9, 10, 11, 12, 13, 14, 15, 16, 17], [0, 1, 2, 3, 4, 5, 6, 7, 8, 9, 10, 11, 12, 13, 14, 15, 16, 17, 18], [0, 1, 2, 3, 4, 5, 6, 7, 8, 9, 10, 11, 12, 13, 14, 15, 16, 17, 18, 19]] [] [some 49, some 50, some 51, some 52, some 53, some 54, some 55, some 56, some 57, some 58, some 59, some 60, some 61, some 62, some 63, some 64, some 65, some 66, some 67, some 68, some 4] := regOk (by kernel_rfl)
set_option maxRecDepth 20000 in
set_option maxHeartbeats 3200000 in
theorem froms_any (A : Option Addr) (n c : Nat) (ps : List PB) (name : ByteArray) (w : World) (hl : Sts encP 2 w A n ps) (hnc : n ≤ c) (hok : ∀ z ∈ ps, okP z) (hs : name.size ≤ 140737488351232) :
    Calls Try.prog 7 #[.slice A n c, .string name] w fun e w' => e = .returned (.bool true) ∧ Below w.heap.size w w' := by
  have HST := Lib.hid hl
  have C0 := Lib.hid (head_any w)
  clear hl hok
  go_enter Try.func7, Try.ntmps7
  go_wp2_with fail
  refine C0.out.mono ?_
  rintro e w1 ⟨rfl, hb1⟩
  have HB1 := Lib.hid hb1
  have CB := Lib.hid (big_any A n c ps w1 (sts_below HST.out hb1))
  clear hb1 C0
  go_wp2_with fail
  refine CB.out.mono ?_
  rintro e w2 ⟨B, rfl, hb2, hsmall⟩
  have HB2 := Lib.hid (below_then HB1.out HB1.out.size hb2)
  have HSM := Lib.hid hsmall
  clear hb2 hsmall HB1 CB
  cases B with
  | true =>
    go_wp2_with fail
    go_ret
    exact ⟨rfl, HB2.out⟩
  | false =>
  obtain ⟨hn60, hsz⟩ := HSM.out rfl
  have CM := Lib.hid (make_any A n c ps w2 (sts_below HST.out HB2.out) (by omega) (fun p hp => by have := hsz p hp; omega))
  clear HSM hsz
  by_cases h300 : 300 < name.size
  · have t0 : decide ((300 : Int) < (name.size : Int)) = true := decide_eq_true (by omega)
    clear h300
    go_wp2_with fail
    go_ret
    exact ⟨rfl, HB2.out⟩
  have t0 : decide ((300 : Int) < (name.size : Int)) = false := decide_eq_false (by omega)
  go_wp2_with fail
  refine CM.out.mono ?_
  rintro e w3 ⟨hb3, v3, ex, rfl, hp⟩
  have HB3 := Lib.hid (below_then HB2.out HB2.out.size hb3)
  clear hb3 HB2 CM
  rcases hp with ⟨rfl, hgood, hgr⟩ | hbad
  · obtain ⟨A3, nb, c3, rfl, h3c, HL3, _, hr3⟩ := gr_open hgr
    have hpl := page_length (nn ps)
    have hbf := body_fit hgood
    have hnl : (nn ps).length = n := by rw [nn_length]; exact HST.out.len
    have hcq : cntAt (nn ps).length ≤ 1000 := by rw [hnl]; unfold cntAt; omega
    have hbn : nb ≤ 300000 := by rw [← HL3.out, hpl]; omega
    have CP := Lib.hid (parse_gen A3 nb c3 (pageOf (nn ps)) w3 hr3 (page_byte (nn_byte ps)) h3c (by omega))
    have HIP : Hid (IsPage (pageOf (nn ps)) (nn ps)) := Lib.hid ⟨hgood, rfl⟩
    clear hgr hr3 hpl hbf hnl hcq hgood
    go_wp2_with fail
    refine CP.out.mono ?_
    rintro e w4 ⟨hb4, bv, wv, ex, qs, rfl, hgd, hbv, hwv, hcase⟩
    rcases hcase with ⟨rfl, hip2⟩ | ⟨_, _, hno⟩
    · obtain rfl : qs = ps := nn_inj (page_inj hip2.1 HIP.out.1 hip2.2)
      obtain ⟨Ab, nbb, cb, rfl, _⟩ := gr_open hbv
      obtain ⟨Aw, nw, cw, rfl, _⟩ := gr_open hwv
      have HG := Lib.hid hgd
      have HBV := Lib.hid hbv
      have HWV := Lib.hid hwv
      have HB4 := Lib.hid (below_then HB3.out HB3.out.size hb4)
      clear hb4 hgd hbv hwv hip2 HB3 CP HIP HL3
      go_upto_region 9 with (first | (refine wpList_store_box rfl 36 (.tmp 7) (.tmp 30) rfl w4.heap.size [.slice Ab nbb cb, .slice Aw nw cw] rfl rfl (heap_alloc_new w4 _) rfl info36 rfl ?_; intro w5 hs5; have HS5 := Lib.hid hs5; clear hs5) | fail)
      have hb5 : Below w4.heap.size w4 w5 := HS5.out.then_ (below_alloc (Below.refl _ _) _) (Nat.le_refl _)
      have HX5 := Lib.hid HS5.out.at_
      have HBV5 := Lib.hid (gr_below HBV.out hb5)
      have HWV5 := Lib.hid (gr_below HWV.out hb5)
      have HB5 := Lib.hid (below_then HB4.out HB4.out.size hb5)
      have HST5 := Lib.hid (sts_below HST.out HB5.out)
      clear hb5 HS5 HBV HWV HB4
      generalize w4.heap.size = b5 at HX5 ⊢
      generalize w3.heap.size = b3 at HBV5 HWV5
      go_wp2_with fail
      go_loopw [9] (fun i wr => ∃ k : Nat, k ≤ n ∧ i = .int .i64 k ∧ Hid (∀ (j : Nat) (x : PB), j < k → qs[j]? = some x → Op.bytesLess x.1.toList name.toList = true) ∧ Hid (Below w5.heap.size w5 wr)) (fun i _ => n - (intOf i).toNat)
      case atStart => exact ⟨0, by omega, rfl, Lib.hid (fun j x hj => absurd hj (by omega)), Lib.hid (Below.refl _ _)⟩
      case round =>
        obtain ⟨k, hk, rfl, HN, HW⟩ := hrel
        have hln := HST.out.len
        obtain ⟨D, hD⟩ : ∃ D, (decide (((k : Nat) : Int) < ((n : Nat) : Int)) && Op.bytesLess (qs.getD k default).1.toList name.toList) = D := ⟨_, rfl⟩
        have HD := Lib.hid hD
        clear hD
        go_upto_region 12 with fail
        refine plain_ (fun wq => Below wr.heap.size wr wq) (fun _ => True) reg_7_12 rfl inv0 (fun _ _ _ _ => trivial) (Below.refl _ _) trivial ?_
        refine w_move (.inl rfl) (fun vs w hK => ⟨wants_none rfl, rho_out rfl rfl⟩) ?_
        refine w_move (.inl rfl) (fun vs w hK => ⟨wants_none rfl, rho_out rfl rfl⟩) ?_
        refine w_val [(35, _)] (_) (fun vs w hK => ⟨wants_none rfl, rho_in rfl (fv (hK 1 (memE rfl))), trivial⟩) rfl (fun wq hI => by exact run_len_sl rfl Try.underlying22 rfl rfl) ?_
        refine w_val [(34, _), (36, _)] (_) (fun vs w hK => ⟨wants_none rfl, rho_in rfl (fv (hK 0 (memE rfl))), rho_in rfl (fv (hK 2 (memE rfl))), trivial⟩) rfl (fun wq hI => by exact run_int_lss rfl rfl rfl rfl) ?_
        refine w_move (.inl rfl) (fun vs w hK => ⟨wants_none rfl, rho_in rfl (fv (hK 3 (memE rfl)))⟩) ?_
        refine w_moveG (.inl rfl) (fun vs w hK => wantsT rfl (fv (hK 4 (memE rfl)))) (fun hG vs w hK => (rho_out rfl rfl)) ?_
        refine w_moveG (.inl rfl) (fun vs w hK => wantsT rfl (fv (hK 4 (memE rfl)))) (fun hG vs w hK => (rho_out rfl rfl)) ?_
        refine w_valG [(39, _), (40, _)] (.pointer (A.map (·.add (k * 2)))) (fun vs w hK => wantsT rfl (fv (hK 4 (memE rfl)))) (fun hG vs w hK => ⟨(rho_in rfl (fvg (hK 5 (memE rfl)) hG)), (rho_in rfl (fvg (hK 6 (memE rfl)) hG)), trivial⟩) rfl (fun hG wq hI => by (have hlt := of_decide_eq_true hG; obtain ⟨ad, e, _⟩ := HST.out.row (by omega); subst e; exact op_index_st sts22 rfl rfl rfl rfl (by omega))) ?_
        refine w_valG [(41, _)] (.pointer (A.map (·.add (k * 2)))) (fun vs w hK => wantsT rfl (fv (hK 4 (memE rfl)))) (fun hG vs w hK => ⟨(rho_in rfl (fvg (hK 7 (memE rfl)) hG)), trivial⟩) rfl (fun hG wq hI => by (have hlt := of_decide_eq_true hG; obtain ⟨ad, e, _⟩ := HST.out.row (by omega); subst e; exact op_fld0 rfl rfl Try.underlying30 rfl rfl rfl info9p (by decide))) ?_
        refine w_valG [(42, _)] (.string (qs.getD k default).1) (fun vs w hK => wantsT rfl (fv (hK 4 (memE rfl)))) (fun hG vs w hK => ⟨(rho_in rfl (fvg (hK 8 (memE rfl)) hG)), trivial⟩) rfl (fun hG wq hI => by (have hlt := of_decide_eq_true hG; obtain ⟨ad, e, hc⟩ := (sts_below HST5.out (below_then HW.out HW.out.size hI)).row (by omega); subst e; exact run_load_cell (ad := ad.add (k * 2)) rfl rfl rfl Try.underlying9 rfl (hc k _ (getD_of (by omega)) 0 _ rfl))) ?_
        refine w_moveG (.inl rfl) (fun vs w hK => wantsT rfl (fv (hK 4 (memE rfl)))) (fun hG vs w hK => (rho_out rfl rfl)) ?_
        refine w_valG [(43, _), (44, _)] (_) (fun vs w hK => wantsT rfl (fv (hK 4 (memE rfl)))) (fun hG vs w hK => ⟨(rho_in rfl (fvg (hK 9 (memE rfl)) hG)), (rho_in rfl (fvg (hK 10 (memE rfl)) hG)), trivial⟩) rfl (fun hG wq hI => by exact op_str_lss rfl rfl rfl rfl) ?_
        refine w_and rfl (fun vs w hK => wants_none rfl) (fun vs w hK => (rho_in rfl (fv (hK 4 (memE rfl))))) (fun hB vs w hK => (rho_in rfl (fvg (hK 11 (memE rfl)) hB))) ?_
        refine w_as (c' := .bool D) (congrArg Value.bool HD.out) ?_
        refine w_endM [false, false, false, false, false, false, false, false, false, false, false, false, true] rfl rfl rfl (fun vs wq hI hF => ?_)
        simp only [List.reverse_cons, List.reverse_nil, List.nil_append, List.cons_append, finL_val, finL_of, finL_any, finL_app, finL_new, finL_gr, finL_row, finL_box, finL_nil, Act.put, List.setIfInBounds_toArray, List.set_cons_zero, List.set_cons_succ, Nat.reduceAdd, maskF, finL_imp, Bool.not_false, Bool.not_true, Bool.true_and, Bool.false_and]
        have HW2 := Lib.hid (below_then HW.out HW.out.size hI)
        clear hI hF HW
        cases D with
        | true =>
          have HN2 : Hid (∀ (j : Nat) (x : PB), j < k + 1 → qs[j]? = some x → Op.bytesLess x.1.toList name.toList = true) := Lib.hid fun j x hj hx => by
            rcases Nat.lt_or_ge j k with g | g
            · exact HN.out j x g hx
            · obtain rfl : j = k := by omega
              have h := HD.out
              rw [Bool.and_eq_true, List.getD_eq_getElem?_getD, hx] at h
              exact h.2
          have hlt : k < n := by have h := HD.out; rw [Bool.and_eq_true] at h; have := of_decide_eq_true h.1; omega
          clear HN HD
          go_wp2_with fail
          go_roundw
          case rel => exact ⟨k + 1, by omega, by go_num, HN2, HW2⟩
          case measure => simp [intOf]; omega
        | false =>
          have HF : Hid (Fst qs name k) := Lib.hid ⟨by omega, HN.out, fun x hx => by
            have hlt := (List.getElem?_eq_some_iff.1 hx).1
            have h := HD.out
            rw [decide_eq_true (by omega), Bool.true_and, List.getD_eq_getElem?_getD, hx] at h
            exact h⟩
          clear HN HD
          obtain ⟨w6, rfl⟩ : ∃ w6 : World, w6 = wq := ⟨_, rfl⟩
          go_upto_region 15 with fail
          have hb7 : Below w6.heap.size w6 (w6.alloc (.cells #[.slice none 0 0, .slice none 0 0] 36)) := below_alloc (Below.refl _ _) _
          have HY7 : Hid ((w6.alloc (.cells #[.slice none 0 0, .slice none 0 0] 36)).heap[w6.heap.size]? = some (.cells [Value.slice none 0 0, .slice none 0 0].toArray 36 (0, 0))) := Lib.hid (heap_alloc_new w6 _)
          have HW7 := Lib.hid (below_then HW2.out HW2.out.size hb7)
          generalize w6.alloc (.cells #[.slice none 0 0, .slice none 0 0] 36) = w7 at HY7 HW7 ⊢
          generalize w6.heap.size = b7 at HY7 ⊢
          have HX7 := Lib.hid (box_stays HX5.out HW7.out)
          have HBV7 := Lib.hid (gr_below HBV5.out HW7.out)
          have HWV7 := Lib.hid (gr_below HWV5.out HW7.out)
          have HST7 := Lib.hid (sts_below HST5.out HW7.out)
          have HB7 := Lib.hid (below_then HB5.out HB5.out.size HW7.out)
          obtain ⟨A5, hcut, hrd⟩ := cut_st sts22 encP A n c k hk hnc .i64
          have HCUT := Lib.hid hcut
          have HRD := Lib.hid hrd
          clear hb7 hcut hrd HX5 HBV5 HWV5 HST5 HB5 HW2 HW7 t0
          refine draws_ (fun wq => Below w7.heap.size w7 wq) (fun _ => True) (by kernel_rfl) reg_7_15 rfl inv0 (fun _ _ _ _ => trivial) (below_drew (Below.refl _ _)) trivial ?_
          refine w_val [(7, _)] (.agg [Value.slice Ab nbb cb, .slice Aw nw cw].toArray) (fun vs w hK => ⟨wants_none rfl, rho_out rfl rfl, trivial⟩) rfl (fun wq hI => by exact op_load_at rfl ⟨b5, 0, none⟩ [.slice Ab nbb cb, .slice Aw nw cw] rfl (box_cells (box_stays HX7.out hI)) Try.underlying36 rfl info36) ?_
          refine w_move (.inl rfl) (fun vs w hK => ⟨wants_none rfl, rho_out rfl rfl⟩) ?_
          refine w_callF (FW.of (isSts (qs.drop k)) (fun _ _ _ h hb => isSts_below h hb)) [(49, _), (50, _)] _ (by decide) (fun vs w hK => ⟨wants_none rfl, rho_in rfl (fv (hK 0 (memE rfl))), rho_in rfl (fv (hK 1 (memE rfl))), trivial⟩) rfl rfl Try.func23 (by kernel_rfl) rfl (fun wq hI => from_sts (.slice Ab nbb cb) (.slice Aw nw cw) qs name k wq HG.out (gr_below HBV7.out hI) (gr_below HWV7.out hI) HF.out) (margs rfl) ?_
          refine w_move (.inl rfl) (fun vs w hK => ⟨wants_none rfl, rho_out rfl rfl⟩) ?_
          refine w_move (.inl rfl) (fun vs w hK => ⟨wants_none rfl, rho_out rfl rfl⟩) ?_
          refine w_val [(52, _), (53, _)] (_) (fun vs w hK => ⟨wants_none rfl, rho_in rfl (fv (hK 3 (memE rfl))), rho_in rfl (fv (hK 4 (memE rfl))), trivial⟩) rfl (fun wq hI => by exact run_slice_op rfl rfl (HCUT.out wq)) ?_
          refine w_any (.val (.bool true)) (by decide) (fun vs wq hI hK => ?_) ?_
          · obtain ⟨Aq, nq, cq, e1, hsq⟩ : ∃ A n c, vs 2 = .slice A n c ∧ Sts encP 2 wq A n (qs.drop k) := hK 2 (memE rfl)
            refine ob_call [(51, .slice Aq nq cq), (54, .slice A5 (n - k) (c - k))] _ (wants_none rfl) ⟨rho_in rfl e1, rho_in rfl (fv (hK 5 (memE rfl))), trivial⟩ rfl rfl Try.func20 (by kernel_rfl) rfl (margs rfl) ((same_any Aq nq cq A5 (n - k) (c - k) (qs.drop k) (qs.drop k) wq hsq (HRD.out wq qs (sts_below HST7.out hI))).mono ?_)
            rintro e w' ⟨rfl, hb⟩
            exact ⟨_, rfl, hb, congrArg Value.bool (decide_eq_true rfl)⟩
          refine w_move (.inl rfl) (fun vs w hK => ⟨wants_none rfl, rho_in rfl (fv (hK 6 (memE rfl)))⟩) ?_
          refine w_val [(10, _)] (.agg [Value.slice none 0 0, .slice none 0 0].toArray) (fun vs w hK => ⟨wants_g rfl (fv (hK 7 (memE rfl))), rho_out rfl rfl, trivial⟩) rfl (fun wq hI => by exact op_load_at rfl ⟨b7, 0, none⟩ [.slice none 0 0, .slice none 0 0] rfl (box_cells (box_stays HY7.out hI)) Try.underlying36 rfl info36) ?_
          refine w_callF (FW.of (isSts []) (fun _ _ _ h hb => isSts_below h hb)) [(57, _)] _ (by decide) (fun vs w hK => ⟨wants_g rfl (fv (hK 7 (memE rfl))), rho_in rfl (fv (hK 8 (memE rfl))), trivial⟩) rfl rfl Try.func21 (by kernel_rfl) rfl (fun wq hI => (all_page (.slice none 0 0) (.slice none 0 0) [] wq 0 good0 (gr_nil _ _ _) (B2 := 0) (gr_nil _ _ _)).mono fun e w' ⟨v, he, ho, hb⟩ => ⟨v, he, hb, isSts_own ho⟩) (margs rfl) ?_
          refine w_any (.val (.int .i64 0)) (by decide) (fun vs wq hI hK => ?_) ?_
          · obtain ⟨Aq, nq, cq, e1, hsq⟩ : ∃ A n c, vs 9 = .slice A n c ∧ Sts encP 2 wq A n [] := hK 9 (memE rfl)
            obtain rfl : nq = 0 := hsq.len.symm
            exact ob_run [(58, .slice Aq 0 cq)] (wants_g rfl (fv (hK 7 (memE rfl)))) ⟨rho_in rfl e1, trivial⟩ rfl (run_len_sl rfl Try.underlying22 rfl rfl) ⟨Below.refl _ _, rfl⟩
          refine w_val [(59, _)] (_) (fun vs w hK => ⟨wants_g rfl (fv (hK 7 (memE rfl))), rho_in rfl (fv (hK 10 (memE rfl))), trivial⟩) rfl (fun wq hI => by exact run_int_eql (r := true) rfl rfl rfl rfl) ?_
          refine w_pick (b := true) rfl (fun vs w hK => ⟨wants_none rfl, (rho_in rfl (fv (hK 7 (memE rfl)))), (rho_in rfl (fv (hK 11 (memE rfl))))⟩) ?_
          refine w_move (.inl rfl) (fun vs w hK => ⟨wants_none rfl, rho_in rfl (fv (hK 12 (memE rfl)))⟩) ?_
          refine w_val [(10, _)] (.agg [Value.slice none 0 0, .slice none 0 0].toArray) (fun vs w hK => ⟨wants_g rfl (fv (hK 13 (memE rfl))), rho_out rfl rfl, trivial⟩) rfl (fun wq hI => by exact op_load_at rfl ⟨b7, 0, none⟩ [.slice none 0 0, .slice none 0 0] rfl (box_cells (box_stays HY7.out hI)) Try.underlying36 rfl info36) ?_
          refine w_move (.inl rfl) (fun vs w hK => ⟨wants_g rfl (fv (hK 13 (memE rfl))), rho_out rfl rfl⟩) ?_
          refine w_callF (FW.of (isSts []) (fun _ _ _ h hb => isSts_below h hb)) [(63, _), (64, _)] _ (by decide) (fun vs w hK => ⟨wants_g rfl (fv (hK 13 (memE rfl))), rho_in rfl (fv (hK 14 (memE rfl))), rho_in rfl (fv (hK 15 (memE rfl))), trivial⟩) rfl rfl Try.func23 (by kernel_rfl) rfl (fun wq hI => from_sts (.slice none 0 0) (.slice none 0 0) [] name 0 wq (B := 0) (B2 := 0) good0 (gr_nil _ _ _) (gr_nil _ _ _) ⟨Nat.le_refl _, fun j x h => absurd h (Nat.not_lt_zero _), fun x h => by simp at h⟩) (margs rfl) ?_
          refine w_any (.val (.int .i64 0)) (by decide) (fun vs wq hI hK => ?_) ?_
          · obtain ⟨Aq, nq, cq, e1, hsq⟩ : ∃ A n c, vs 16 = .slice A n c ∧ Sts encP 2 wq A n [] := hK 16 (memE rfl)
            obtain rfl : nq = 0 := hsq.len.symm
            exact ob_run [(65, .slice Aq 0 cq)] (wants_g rfl (fv (hK 13 (memE rfl)))) ⟨rho_in rfl e1, trivial⟩ rfl (run_len_sl rfl Try.underlying22 rfl rfl) ⟨Below.refl _ _, rfl⟩
          refine w_val [(66, _)] (_) (fun vs w hK => ⟨wants_g rfl (fv (hK 13 (memE rfl))), rho_in rfl (fv (hK 17 (memE rfl))), trivial⟩) rfl (fun wq hI => by exact run_int_eql (r := true) rfl rfl rfl rfl) ?_
          refine w_pick (b := true) rfl (fun vs w hK => ⟨wants_none rfl, (rho_in rfl (fv (hK 13 (memE rfl)))), (rho_in rfl (fv (hK 18 (memE rfl))))⟩) ?_
          refine w_move (.inr rfl) (fun vs w hK => ⟨wants_none rfl, rho_in rfl (fv (hK 19 (memE rfl)))⟩) ?_
          refine w_end rfl rfl rfl (fun vs wq hI hF => ?_)
          simp only [List.reverse_cons, List.reverse_nil, List.nil_append, List.cons_append, finL_val, finL_of, finL_any, finL_app, finL_new, finL_gr, finL_row, finL_box, finL_nil, Act.put, List.setIfInBounds_toArray, List.set_cons_zero, List.set_cons_succ, Nat.reduceAdd]
          have HB9 := Lib.hid (below_then HB7.out HB7.out.size hI)
          clear hI hF
          go_wp2_with fail
          go_ret
          exact ⟨rfl, HB9.out⟩
    · exact absurd HIP.out (hno _)
  · rcases hbad with ⟨rfl, rfl, _⟩ | ⟨rfl, rfl, _⟩
    · go_wp2_with fail
      go_ret
      exact ⟨rfl, HB3.out⟩
    · go_wp2_with fail
      go_ret
      exact ⟨rfl, HB3.out⟩
end Go.Proofs.Ytnkeijdpjcclcaa.Pg
-- RowPageFroms
/- the pairs from any name on -/
namespace Go.Proofs.Ytnkeijdpjcclcaa.pageFroms
open Go.ChangeShapes Go.WideShapes Go.ChangeAt Go.RowKit Go.Proofs.YtnkeijdpjcclcaaW Go.Proofs.YtnkeijdpjcclcaaW.PrintWords Go.Proofs.Ytnkeijdpjcclcaa.Kit
open Go.ChangeMaps (open_string shut_string)
set_option linter.unusedVariables false
theorem own : ownKnob Try.prog.godebug = none := by kernel_rfl
theorem laidOut : laidOutB Try.prog = true := by kernel_rfl
def IsRow (k : IntKind) (w : World) (a : Option Addr) (len cap : Nat) (zs : List Int) : Prop :=
  (a = none ∧ len = 0 ∧ cap = 0 ∧ zs = []) ∨
  ∃ x, a = some x ∧ len ≤ cap ∧ cap ≤ maxLen ∧ zs.length = cap ∧ (∀ i, i < zs.length → w.cell? (x.add i) = some (.int k (zs.getD i 0))) ∧ ∀ n ∈ zs, (Lit.int k n).wf = true
set_option maxRecDepth 100000 in
theorem lifted (os : Os) (started : os.Started) (H : Type) (enc : TypeId × Value → H) :
    ReturnsInHanded {} Try.checked os 7 .any (Rows.pageFromsSpec.pre6 enc Try.prog Try.f7 Rows.pageFromsRow.domain false) (Rows.pageFromsSpec.post enc Try.prog Try.f7 false true false false) := by
  refine returnsInHanded_of_change_sized (C := Try.checked) own started (by kernel_rfl) Try.func7
    (ChangeSpec.witness6 (enc := enc) (C := Try.checked) false ⟨#[], #[.slice none 0 0, .string ByteArray.empty], []⟩ 8 (by kernel_rfl) (by kernel_rfl) (by kernel_rfl) (by kernel_rfl)) ?_
  intro W base args ds gs before hval0 hW hcnd hsz0 _
  have hsz : (DataW.weightsEach Try.prog (Try.f7.params.toList ++ Rows.pageFromsSpec.plain.varTypes Try.prog) (ds ++ gs)).all (· ≤ reachBytes) = true := hsz0
  have hval : ∀ (j : Nat) t v, Try.f7.params[j]? = some t → args[j]? = some v → Value.okWide Try.prog W .any base t v := hval0
  have hW' := hW
  obtain ⟨p, q, hA0, hV, rfl, hfz, hnd⟩ := hW
  have hA : DataW.TrodAll enc Try.prog W 0 (fun _ => true) true Try.f7.params.toList args.toList ds p := hA0
  rw [Try.params7] at hA hval hsz
  obtain ⟨v0, vs0, d0, ds0, p0, q0, hargs, rfl, rfl, h0, r0⟩ := trodAll_cons hA
  obtain ⟨v1, vs1, d1, ds1, p1, q1, rfl, rfl, rfl, h1, r1⟩ := trodAll_cons r0
  obtain ⟨rfl, rfl, rfl⟩ := trodAll_nil r1
  obtain rfl : args = #[v0, v1] := by cases args; simp_all
  obtain ⟨rfl, rfl⟩ := trodVars_none hV
  obtain ⟨a0, len0, cap0, rfl⟩ := okWide_slice Try.underlying22 (hval 0 22 v0 rfl rfl)
  have k0 := h0
  have lt0 : ∀ x ∈ p0, x.block < W.heap.size := by obtain ⟨m, hm⟩ := k0; exact DataW.trod_lt m _ _ _ hm
  obtain ⟨fu0, hu0⟩ := h0
  obtain ⟨l0, hl0, hnc0, hok0⟩ := Pg.open_pairs hu0
  obtain ⟨a1, rfl, rfl, rfl, y1⟩ := open_string Try.underlying9 (hval 1 9 v1 rfl rfl) h1
  have w1 : a1.size ≤ 140737488351232 := by
    have z := sized_string hsz (j := 1) (t := 9) rfl rfl
    rw [Array.length_toList] at z
    exact z
  clear hA0 hval0 hsz0 hsz
  refine (Pg.froms_any a0 len0 cap0 l0 a1 W hl0 hnc0 hok0 w1).mono fun e W' ⟨he, bel⟩ => ?_
  subst he
  exact ⟨_, rfl, _, _, _, [], _, [], hW', trodAll_mk1 (shut_bool Try.underlying4 _), (trodAll_cons_mk (Below.trod laidOut (by kernel_rfl) (of_decide_eq_true (by kernel_rfl)) k0 bel lt0) (trodAll_cons_mk (shut_string Try.underlying9 y1) trodAll_mk0)), rfl, bel.frame _, fun h => by cases h⟩
theorem over : Rows.pageFromsRow.holds Try.pinned (OpenSpec.ofChange Rows.pageFromsSpec) :=
  OpenClaim.holds_of_wide 7 Try.f7 rfl rfl rfl rfl rfl rfl rfl ⟨rfl, rfl, rfl, rfl, rfl⟩ rfl rfl rfl rfl rfl (by kernel_rfl) Try.func7 (by kernel_rfl)
    (of_decide_eq_true (by kernel_rfl)) (by unfold Func.isWrapper; first | (rw [if_pos (by decide +kernel)]; kernel_rfl) | (rw [if_neg (by decide +kernel)]; exact ⟨rfl, rfl⟩))
    (fun os started H enc _ => lifted os started H enc)
#print axioms over
end Go.Proofs.Ytnkeijdpjcclcaa.pageFroms
namespace Go.Proofs.Ytnkeijdpjcclcaa
theorem pageFroms_holds : Rows.PageFromsSaid := pageFroms.over
end Go.Proofs.Ytnkeijdpjcclcaa
