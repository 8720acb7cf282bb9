/- Plain laws: a filter's bits by the keys' checks alone; how many hits. -/
import Derived.Test.YtgnicgcdhldmmaaDoorBlmG
import Derived.Lib.Repeat
namespace Go.Proofs.YtgnicgcdhldmmaaDoor.Blm
set_option linter.unusedVariables false
set_option linter.unusedSimpArgs false
open Go.Proofs.YtgnicgcdhldmmaaDoor.Crc Go.Proofs.YtgnicgcdhldmmaaDoor.Kit Go.RowKit
def plcS (s n i : Nat) : Nat := (s + i * (mask s ||| 1)) % 4294967296 * n / 4294967296
def layS (s n : Nat) (xs : List Int) : Nat → List Int
  | 0 => xs
  | k + 1 => setb (layS s n xs k) (plcS s n k)
def mkS (m : Nat) (ss : List Nat) : List Int := ss.foldl (fun xs s => layS s (8 * m) xs 6) (List.replicate m 0)
def mayS (xs : List Int) (s : Nat) : Bool := decide (0 < xs.length) && (List.range 6).all fun i => bitv xs (plcS s (8 * xs.length) i)
theorem layS_eq (l : List Int) (n : Nat) (xs : List Int) : ∀ k, lay l n xs k = layS (sum l) n xs k
  | 0 => rfl
  | k + 1 => by rw [lay, layS, layS_eq l n xs k]; rfl
theorem mkS_eq (m : Nat) (names : List ByteArray) : mkF m names = mkS m (names.map fun s => sum (numsOf s)) := by
  unfold mkF mkS
  rw [List.foldl_map]
  have e : (fun (xs : List Int) (s : ByteArray) => lay (numsOf s) (8 * m) xs 6) = fun xs s => layS (sum (numsOf s)) (8 * m) xs 6 := by
    funext xs s
    exact layS_eq _ _ _ 6
  rw [e]
theorem mayS_eq (xs l : List Int) : mayF xs l = mayS xs (sum l) := rfl
def scanS (r c : Nat) : Nat → List Nat
  | 0 => []
  | k + 1 => inv r :: scanS (CrcPure.byte r c) c k
theorem scanS_eq (c : Nat) : ∀ (n r : Nat), (List.range n).map (fun i => inv (CrcPure.bytes r (List.replicate i c))) = scanS r c n
  | 0, r => rfl
  | n + 1, r => by
    rw [List.range_succ_eq_map, List.map_cons, List.map_map, scanS, ← scanS_eq c n]
    rfl
/-- How many of the others hit a filter of n keys. -/
def hitsK (n : Nat) : Nat := ((scanS (CrcPure.bytes (inv 0) [111, 116, 104, 101, 114]) 121 200).filter (mayS (mkS (nB n) (scanS (CrcPure.bytes (inv 0) [107, 101, 121]) 120 n)))).length
theorem hits_few : ∀ n, n < 32 → hitsK (20 + n) < 60 := by decide +kernel
/-- p, and i times the byte c. -/
def run_ (p : ByteArray) (c : UInt8) (i : Nat) : ByteArray := p ++ ⟨(Lib.repeatL [c] i).toArray⟩
theorem repeat_one (c : UInt8) (i : Nat) : Lib.repeatL [c] i = List.replicate i c := by
  have := Lib.repeatL_replicate c 1 i
  rwa [Nat.mul_one] at this
theorem run_nums (p : ByteArray) (c : UInt8) (i : Nat) : numsOf (run_ p c i) = numsOf p ++ List.replicate i (c.toNat : Int) := by
  unfold run_
  have e : (⟨(Lib.repeatL [c] i).toArray⟩ : ByteArray) = strOfNums (List.replicate i (c.toNat : Int)) := by
    rw [repeat_one]
    simp [strOfNums]
  rw [numsOf_append, e, numsOf_strOfNums _ (fun x hx => by
    rw [(List.mem_replicate.1 hx).2]
    have := c.toNat_lt
    omega)]
theorem run_size (p : ByteArray) (c : UInt8) (i : Nat) : (run_ p c i).size = p.size + i := by
  rw [← numsOf_length, run_nums, List.length_append, List.length_replicate, numsOf_length]
theorem run_sum (p : ByteArray) (c : UInt8) (i : Nat) : sum (numsOf (run_ p c i)) = inv (CrcPure.bytes (CrcPure.bytes (inv 0) (byt (numsOf p))) (List.replicate i c.toNat)) := by
  rw [run_nums]
  unfold sum more
  congr 1
  rw [← CrcPure.bytes_append]
  congr 1
  simp [byt]
def keyP : ByteArray := ⟨#[107, 101, 121]⟩
def othP : ByteArray := ⟨#[111, 116, 104, 101, 114]⟩
def nsX (k : Nat) : List ByteArray := (List.range k).map (run_ keyP 120)
theorem nsX_length (k : Nat) : (nsX k).length = k := by simp [nsX]
theorem nsX_succ (k : Nat) : nsX (k + 1) = nsX k ++ [run_ keyP 120 k] := by simp [nsX, List.range_succ]
theorem nsX_size (k : Nat) : ∀ s ∈ nsX k, s.size ≤ 3 + k := fun s hs => by
  obtain ⟨i, hi, rfl⟩ := List.mem_map.1 hs
  rw [run_size]
  have := List.mem_range.1 hi
  have : keyP.size = 3 := rfl
  omega
theorem key_sum (i : Nat) : sum (numsOf (run_ keyP 120 i)) = inv (CrcPure.bytes (CrcPure.bytes (inv 0) [107, 101, 121]) (List.replicate i 120)) := by
  have h := run_sum keyP 120 i
  rw [show byt (numsOf keyP) = [107, 101, 121] by decide +kernel] at h
  exact h
theorem oth_sum (i : Nat) : sum (numsOf (run_ othP 121 i)) = inv (CrcPure.bytes (CrcPure.bytes (inv 0) [111, 116, 104, 101, 114]) (List.replicate i 121)) := by
  have h := run_sum othP 121 i
  rw [show byt (numsOf othP) = [111, 116, 104, 101, 114] by decide +kernel] at h
  exact h
def cntK (X : List Int) (k : Nat) : Nat := ((List.range k).filter fun i => mayF X (numsOf (run_ othP 121 i))).length
theorem cntK_zero (X : List Int) : cntK X 0 = 0 := rfl
theorem cntK_succ (X : List Int) (k : Nat) : cntK X (k + 1) = cntK X k + (if mayF X (numsOf (run_ othP 121 k)) then 1 else 0) := by
  unfold cntK
  rw [List.range_succ, List.filter_append, List.length_append]
  congr 1
  by_cases h : mayF X (numsOf (run_ othP 121 k)) = true
  · simp [h]
  · simp [h]
theorem cntK_few (n : Nat) (h : n < 32) : cntK (mkF (nB (20 + n)) (nsX (20 + n))) 200 < 60 := by
  have h1 : mkF (nB (20 + n)) (nsX (20 + n)) = mkS (nB (20 + n)) (scanS (CrcPure.bytes (inv 0) [107, 101, 121]) 120 (20 + n)) := by
    rw [mkS_eq, ← scanS_eq]
    congr 1
    unfold nsX
    rw [List.map_map]
    congr 1
    funext i
    exact key_sum i
  have h2 : cntK (mkF (nB (20 + n)) (nsX (20 + n))) 200 = hitsK (20 + n) := by
    rw [h1]
    unfold hitsK
    generalize mkS (nB (20 + n)) (scanS (CrcPure.bytes (inv 0) [107, 101, 121]) 120 (20 + n)) = Y
    rw [← scanS_eq 121 200, List.filter_map, List.length_map]
    unfold cntK
    congr 2
    funext i
    simp only [Function.comp]
    rw [mayS_eq, oth_sum]
  rw [h2]
  exact hits_few n h
end Go.Proofs.YtgnicgcdhldmmaaDoor.Blm
