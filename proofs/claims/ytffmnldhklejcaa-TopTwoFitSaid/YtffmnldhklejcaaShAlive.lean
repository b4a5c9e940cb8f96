/- The walks of the laws' examples: none, alive. -/
import Derived.Test.YtffmnldhklejcaaShSplit
import Derived.Lib.ConvBytes
import Derived.Laws.BytesString
import Derived.Laws.BytesArg
namespace Go.Proofs.Ytffmnldhklejcaa
open Go.RowKit

theorem nums_of (l : List UInt8) : strOfNums (l.map u) = ⟨l.toArray⟩ := by
  have h := strOfNums_data (l.map u)
  have e : (strOfNums (l.map u)).data = l.toArray := by
    apply Array.ext'
    rw [h, List.map_map]
    have : ((fun n : Int => UInt8.ofNat n.toNat) ∘ u) = id := by
      funext a
      show UInt8.ofNat (a.toNat : Int).toNat = a
      rw [Int.toNat_natCast, UInt8.ofNat_toNat]
    rw [this, List.map_id]
  cases hs : strOfNums (l.map u) with
  | mk d => rw [hs] at e; rw [← e]

/-- bytes made a string -/
theorem str_of_bytes (g off n c : Nat) (l : List UInt8) (W : World) (hn : n = l.length) (hc : ∀ i (h : i < l.length), W.cell? ⟨g, off + i, none⟩ = some (.int .u8 (u l[i]))) :
    (convert 32 9 (.slice (some ⟨g, off, none⟩) n c)).run Try.prog W = .ok (.string ⟨l.toArray⟩) W := by
  subst hn
  rw [← nums_of]
  refine run_convert_bytes_arg W 32 5 Try.underlying32 Try.underlying5 g off l.length c (l.map u) (by simp) (fun i hi => ?_) 9 Try.underlying9
  rw [hc i hi]
  simp [List.getD_eq_getElem?_getD, hi]

theorem bytes_make (n : Nat) (hn : n ≤ 100000) (w : World) : (Instr.makeSlice 32 (.int .i64 (n : Int)) (.int .i64 (n : Int))).run Try.prog w =
    .ok (.slice (some ⟨w.heap.size, 0, none⟩) n n) (w.alloc (.cells (vals (List.replicate n 0)).toArray 5)) := by
  obtain ⟨i0, hi, hz0, hz1, hz2⟩ := info_parts u8_info
  have h := run_make (P := Try.prog) w 32 5 i0 _ Try.underlying32 hi hz0 .i64 .i64 (n : Int) (n : Int) (by omega) (by omega) (by rw [hz2]; omega) (by omega)
  rw [Int.toNat_natCast, hz1] at h
  rw [h]
  congr 2
  have e := made_zeros 1 n (by omega)
  rw [Nat.mul_one] at e ⊢
  exact congrArg (fun c => Obj.cells c 5) e

theorem noughts : (⟨Array.replicate 64 0⟩ : ByteArray) = ⟨(List.replicate 64 (0 : UInt8)).toArray⟩ := by rw [List.toArray_replicate]

set_option maxRecDepth 100000 in
set_option maxHeartbeats 1000000 in
theorem None_c (w : World) : Calls Try.prog 22 #[] w fun e w' => e = .returned (.string ⟨(List.replicate 64 (0 : UInt8)).toArray⟩) ∧ Below w.heap.size w w' := by
  have hmk : ∀ W : World, (Instr.makeSlice 32 (.int .i64 64) (.int .i64 64)).run Try.prog W = .ok (.slice (some ⟨W.heap.size, 0, none⟩) 64 64) (W.alloc (.cells (vals (List.replicate 64 0)).toArray 5)) := bytes_make 64 (by omega)
  have hcv := str_of_bytes w.heap.size 0 64 64 (List.replicate 64 0) (w.alloc (.cells (vals (List.replicate 64 0)).toArray 5)) (by simp) (fun i h => by
    rw [cell_of_row _ w.heap.size _ _ _ _ (heap_alloc_new w _), Nat.zero_add, List.getElem?_toArray, List.getElem?_eq_getElem (by rw [vals_length]; exact h), vals_get _ i h])
  generalize (⟨(List.replicate 64 (0 : UInt8)).toArray⟩ : ByteArray) = str at *
  generalize vals (List.replicate 64 0) = vs at *
  go_enter Try.func22, Try.ntmps22
  go_wp2_with fail
  go_ret
  exact ⟨rfl, (Below.refl _ _).alloc (Nat.le_refl _) _⟩

set_option maxRecDepth 100000 in
set_option maxHeartbeats 1000000 in
theorem SAlive_c (w : World) : Calls Try.prog 11 #[] w fun e w' => e = .returned (.bool true) ∧ Below w.heap.size w w' := by
  go_enter Try.func11, Try.ntmps11
  go_wp2_with fail
  refine (None_c _).mono ?_
  rintro e w1 ⟨rfl, hb⟩
  have HB := Lib.hid hb
  clear hb
  go_wp2_with fail
  refine (Split_g _ _ _ (1 :: List.replicate 31 0) (1 :: List.replicate 63 0) 3 _ (by rfl) (by rfl) (by decide +kernel) (by simp) (by omega) (by omega) (by simp)).mono ?_
  rintro e w2 ⟨rfl, hf, hb2⟩
  have c0 := hf.cell 1 (by rw [flat_length]; omega)
  have c1 := hf.cell 34 (by rw [flat_length]; omega)
  have c2 := hf.cell 67 (by rw [flat_length]; omega)
  have c3 := hf.cell 66 (by rw [flat_length]; omega)
  have e0 : u ((flat (1 :: List.replicate 31 0) (1 :: List.replicate 63 0) 3)[1]'(by rw [flat_length]; omega)) = 0 := by decide +kernel
  have e1 : u ((flat (1 :: List.replicate 31 0) (1 :: List.replicate 63 0) 3)[34]'(by rw [flat_length]; omega)) = 3 := by decide +kernel
  have e2 : u ((flat (1 :: List.replicate 31 0) (1 :: List.replicate 63 0) 3)[67]'(by rw [flat_length]; omega)) = 2 := by decide +kernel
  have e3 : u ((flat (1 :: List.replicate 31 0) (1 :: List.replicate 63 0) 3)[66]'(by rw [flat_length]; omega)) = 3 := by decide +kernel
  rw [e0] at c0
  rw [e1] at c1
  rw [e2] at c2
  rw [e3] at c3
  have HB2 := Lib.hid (HB.out.trans (hb2.mono HB.out.size))
  clear e0 e1 e2 e3 hf hb2 HB
  go_wp2_with fail
  go_ret
  exact ⟨rfl, HB2.out⟩

end Go.Proofs.Ytffmnldhklejcaa
