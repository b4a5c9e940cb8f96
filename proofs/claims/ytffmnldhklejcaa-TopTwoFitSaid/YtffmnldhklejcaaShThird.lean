/- The walk of the reference's Third. -/
import Derived.Test.YtffmnldhklejcaaShHeld
namespace Go.Proofs.Ytffmnldhklejcaa
open Go.RowKit
set_option linter.unusedSimpArgs false

/-- a byte of the third share -/
noncomputable def thirdB (s a b : List UInt8) (x : UInt8) (i : Nat) : UInt8 := (Gf.atS [0, a.getD 0 0, b.getD 0 0] [s.getD i 0, a.getD (i + 1) 0, b.getD (i + 1) 0] x).1
/-- the share at a third place -/
noncomputable def third (s a b : List UInt8) (x : UInt8) : List UInt8 := x :: (List.range 32).map (thirdB s a b x)
theorem third_length (s a b : List UInt8) (x : UInt8) : (third s a b x).length = 33 := by simp [third]

/-- what the walk keeps -/
structure TI (w W : World) (s a b : List UInt8) (S : List UInt8) : Prop where
  bs : W.heap[w.heap.size]? = some (.cells (vals s).toArray 23 (0, 0))
  ba : W.heap[w.heap.size + 1]? = some (.cells (vals a).toArray 34 (0, 0))
  bb : W.heap[w.heap.size + 1 + 1]? = some (.cells (vals b).toArray 34 (0, 0))
  r0 : W.heap[w.heap.size + 1 + 1 + 1]? = some (.cells (vals (zs 33)).toArray 34 (0, 0))
  sh : W.heap[w.heap.size + 1 + 1 + 1 + 1]? = some (.cells (vals S).toArray 34 (0, 0))
  b : Below w.heap.size w W
theorem TI.below {w W W' : World} {s a b S : List UInt8} (h : TI w W s a b S) (hb : Below W.heap.size W W') : TI w W' s a b S :=
  ⟨(hb.block _ (lt_of_block h.bs)).trans h.bs, (hb.block _ (lt_of_block h.ba)).trans h.ba, (hb.block _ (lt_of_block h.bb)).trans h.bb, (hb.block _ (lt_of_block h.r0)).trans h.r0, (hb.block _ (lt_of_block h.sh)).trans h.sh, h.b.trans (hb.mono h.b.size)⟩
theorem TI.two {w W : World} {s a b S : List UInt8} (h : TI w W s a b S) (X Y : Obj) (n : Nat) : TI w (((W.alloc X).alloc Y).drewN n) s a b S :=
  h.below (below_drewN (((Below.refl W.heap.size W).alloc (Nat.le_refl _) _).alloc (by simp) _) _)
theorem TI.set {w W : World} {s a b S : List UInt8} (h : TI w W s a b S) (i : Nat) (v : UInt8) : TI w (W.setCell ⟨w.heap.size + 1 + 1 + 1 + 1, i, none⟩ (.int .u8 (u v))) s a b (S.set i v) := by
  have k : ∀ g, g ≠ w.heap.size + 1 + 1 + 1 + 1 → (W.setCell ⟨w.heap.size + 1 + 1 + 1 + 1, i, none⟩ (.int .u8 (u v))).heap[g]? = W.heap[g]? := fun g hg => Below.heap_setCell _ _ _ _ hg
  exact ⟨(k _ (by omega)).trans h.bs, (k _ (by omega)).trans h.ba, (k _ (by omega)).trans h.bb, (k _ (by omega)).trans h.r0, block_set h.sh v, h.b.setCell (p := ⟨w.heap.size + 1 + 1 + 1 + 1, i, none⟩) (by simp; omega) _⟩

set_option maxRecDepth 100000 in
set_option maxHeartbeats 1000000 in
theorem Third_c (s a b : List UInt8) (x : UInt8) (w : World) (hs : s.length = 32) (ha : a.length = 33) (hb : b.length = 33) :
    Calls Try.prog 15 #[.agg (vals s).toArray, .agg (vals a).toArray, .agg (vals b).toArray, .int .u8 (u x)] w fun e w' => e = .returned (.agg (vals (third s a b x)).toArray) ∧ Below w.heap.size w w' := by
  have HS := Lib.hid hs
  have HA := Lib.hid ha
  have HB := Lib.hid hb
  clear hs ha hb
  go_enter Try.func15, Try.ntmps15
  go_wp2_with (first
    | refine wpList_share_build (by rfl) (.tmp 13) (by rfl) _ (by rfl) x (by rfl) ?_
    | refine wpList_alloc_run (by rfl) 34 (by rfl) _ (share_alloc _) ?_
    | refine wpList_share_store (by rfl) (.tmp 9) (.tmp 14) (by rfl) (hd x) (zs 33) (by rfl) (by rfl) (hd_length _) (zs_length _) ?_)
  have H0 : Hid (TI w (((((w.alloc (.cells (vals s).toArray 23)).alloc (.cells (vals a).toArray 34)).alloc (.cells (vals b).toArray 34)).alloc (.cells (vals (zs 33)).toArray 34)).alloc (.cells (vals (hd x)).toArray 34)) s a b (hd x)) := by
    have al : ∀ (W : World) (o : Obj) (k : Nat), k < W.heap.size → (W.alloc o).heap[k]? = W.heap[k]? := fun W o k hk => Below.heap_alloc W o k hk
    refine ⟨?_, ?_, ?_, ?_, heap_at _ _ _ (by simp), ?_⟩
    · rw [al _ _ _ (by first | (simp; done) | (simp; omega)), al _ _ _ (by first | (simp; done) | (simp; omega)), al _ _ _ (by first | (simp; done) | (simp; omega)), al _ _ _ (by simp)]; exact heap_at _ _ _ rfl
    · rw [al _ _ _ (by first | (simp; done) | (simp; omega)), al _ _ _ (by first | (simp; done) | (simp; omega)), al _ _ _ (by simp)]; exact heap_at _ _ _ (by simp)
    · rw [al _ _ _ (by first | (simp; done) | (simp; omega)), al _ _ _ (by simp)]; exact heap_at _ _ _ (by simp)
    · rw [al _ _ _ (by simp)]; exact heap_at _ _ _ (by simp)
    · exact (((((Below.refl _ w).alloc (Nat.le_refl _) _).alloc (by simp) _).alloc (by simp; omega) _).alloc (by simp; omega) _).alloc (by simp; omega) _
  go_loopw [10] (fun vi W => ∃ (i : Nat) (S : List UInt8), i ≤ 32 ∧ vi = .int .i64 i ∧ Hid (S.length = 33) ∧ Hid (S.getD 0 0 = x ∧ ∀ j, j < i → S.getD (j + 1) 0 = thirdB s a b x j) ∧ TI w W s a b S) (fun vi _ => 32 - (intOf vi).toNat)
  case atStart => exact ⟨0, _, Nat.zero_le _, rfl, hd_length _, ⟨by simp [hd], fun j h => absurd h (by omega)⟩, H0.out⟩
  case round =>
    clear H0
    obtain ⟨i, S, hi, rfl, HSL, HV, hI⟩ := hrel
    by_cases hlt : i < 32
    · have i0 : (0 : Int) ≤ (i : Int) := by omega
      have i1 : (i : Int) < 32 := by omega
      have HI := Lib.hid hI
      have hbl := lt_of_block hI.sh
      have keep : ∀ W', Below wr.heap.size wr W' → W'.cell? ⟨w.heap.size + 1, 0, none⟩ = some (.int .u8 (u (a.getD 0 0))) ∧ W'.cell? ⟨w.heap.size + 1 + 1, 0, none⟩ = some (.int .u8 (u (b.getD 0 0))) ∧
          W'.cell? ⟨w.heap.size, i, none⟩ = some (.int .u8 (u (s.getD i 0))) ∧ W'.cell? ⟨w.heap.size + 1, 1 + i, none⟩ = some (.int .u8 (u (a.getD (i + 1) 0))) ∧ W'.cell? ⟨w.heap.size + 1 + 1, 1 + i, none⟩ = some (.int .u8 (u (b.getD (i + 1) 0))) := fun W' hb => by
        have h2 := HI.out.below hb
        exact ⟨cell_byteD h2.ba 0 (by rw [HA.out]; omega), cell_byteD h2.bb 0 (by rw [HB.out]; omega), cell_byteD h2.bs i (by rw [HS.out]; omega),
          by rw [Nat.add_comm 1 i]; exact cell_byteD h2.ba (i + 1) (by rw [HA.out]; omega), by rw [Nat.add_comm 1 i]; exact cell_byteD h2.bb (i + 1) (by rw [HB.out]; omega)⟩
      have HKP := Lib.hid keep
      obtain ⟨s0, s1, s2, s3, s4⟩ := keep wr (Below.refl _ _)
      have HAT : Hid (thirdB s a b x i = (Gf.atS [0, a.getD 0 0, b.getD 0 0] [s.getD i 0, a.getD (i + 1) 0, b.getD (i + 1) 0] x).1) := rfl
      clear keep hI
      generalize a.getD 0 0 = p1 at *
      generalize b.getD 0 0 = p2 at *
      generalize s.getD i 0 = q0 at *
      generalize a.getD (i + 1) 0 = q1 at *
      generalize b.getD (i + 1) 0 = q2 at *
      go_wp2_with fail
      go_region_held3 (fun W => W.cell? ⟨w.heap.size + 1, 0, none⟩ = some (.int .u8 (u p1)) ∧ W.cell? ⟨w.heap.size + 1 + 1, 0, none⟩ = some (.int .u8 (u p2)) ∧
          W.cell? ⟨w.heap.size, i, none⟩ = some (.int .u8 (u q0)) ∧ W.cell? ⟨w.heap.size + 1, 1 + i, none⟩ = some (.int .u8 (u q1)) ∧ W.cell? ⟨w.heap.size + 1 + 1, 1 + i, none⟩ = some (.int .u8 (u q2)))
        (first
          | exact HKP.out _ (Below.refl _ _).drew
          | exact HKP.out _ ((Below.refl _ _).drew.alloc (Nat.le_refl _) _)
          | exact HKP.out _ (((Below.refl _ _).drew.alloc (Nat.le_refl _) _).alloc (by simp) _)
          | exact HKP.out _ (below_drewN (((Below.refl _ _).alloc (Nat.le_refl _) _).alloc (by simp) _) _))
        (first | (go_at_call 25; refine (RAt_c _ _ _ _ _ _ _ [0, p1, p2] [q0, q1, q2] x _ (by rfl) (by rfl) (by simp) (by rfl)
          (by first | exact Bytes.drew (bytes_of_block (t := 5) (fr := (0, 0)) [0, p1, p2] (heap_alloc2_old _ _ _)) | exact Bytes.drew (bytes_of_block (t := 5) (fr := (0, 0)) [0, p1, p2] (heap_alloc2_new _ _ _)))
          (by first | exact Bytes.drew (bytes_of_block (t := 5) (fr := (0, 0)) [q0, q1, q2] (heap_alloc2_old _ _ _)) | exact Bytes.drew (bytes_of_block (t := 5) (fr := (0, 0)) [q0, q1, q2] (heap_alloc2_new _ _ _)))).mono ?_; rintro e w' ⟨rfl, ⟨nd, rfl⟩⟩))
      all_goals
        refine world_gen (fun W => TI w W s a b S) (HI.out.two _ _ _) (fun W2 hI2 => ?_)
        have c3 := cell_byteD hI2.sh (1 + i) (by rw [HSL.out]; omega)
        have f3 := frozen_of_row W2 (w.heap.size + 1 + 1 + 1 + 1) (1 + i) _ _ hI2.sh
        have HI2 := Lib.hid hI2
        have HV2 : Hid ((S.set (1 + i) (Gf.atS [0, p1, p2] [q0, q1, q2] x).1).getD 0 0 = x ∧ ∀ j, j < i + 1 → (S.set (1 + i) (Gf.atS [0, p1, p2] [q0, q1, q2] x).1).getD (j + 1) 0 = thirdB s a b x j) := by
          refine ⟨by rw [getD_set _ _ _ _ (by rw [HSL.out]; omega), if_neg (by omega)]; exact HV.out.1, fun j hj => ?_⟩
          rw [getD_set _ _ _ _ (by rw [HSL.out]; omega)]
          split
          · rename_i e
            obtain rfl : i = j := by omega
            rw [HAT.out]
          · exact HV.out.2 j (by omega)
        clear s0 s1 s2 s3 s4 HKP HI hI2 HV
        go_wp2
        go_roundw
        case rel => exact ⟨i + 1, _, by omega, by go_num, by rw [Hid, List.length_set]; exact HSL.out, HV2, HI2.out.set _ _⟩
        case measure => simp [intOf]; omega
    · have hi32 : i = 32 := by omega
      subst hi32
      have hSE : S = third s a b x := by
        refine List.ext_getElem (by rw [HSL.out, third_length]) fun j h1 h2 => ?_
        match j, h1, h2 with
        | 0, h1, _ =>
          have := HV.out.1
          rw [Gf.getD_eq h1] at this
          simpa [third] using this
        | j + 1, h1, _ =>
          have := HV.out.2 j (by rw [HSL.out] at h1; omega)
          rw [Gf.getD_eq h1] at this
          rw [this]; simp [third]
      have HI := Lib.hid hI
      have HSE := Lib.hid hSE
      clear hI hSE
      go_wp2_with (first
        | refine wpList_load_row (by rfl) 34 (.tmp 9) (by rfl) (w.heap.size + 1 + 1 + 1 + 1) (by rfl) 34 (vals S).toArray (0, 0) _ HI.out.sh Try.underlying34 (by rfl) (by rw [List.size_toArray, vals_length, HSL.out]; exact share_size) ?_
        | refine wpList_store_row (by rfl) 34 (.tmp 8) (.tmp 45) (by rfl) (w.heap.size + 1 + 1 + 1) (vals S).toArray (by rfl) (by rfl) 34 (vals (zs 33)).toArray HI.out.r0 (by rw [List.size_toArray, vals_length, HSL.out]; exact share_size) (by simp [vals_length, zs_length, HSL.out]) (u8_all S) ?_)
      refine bodyPost_ret (results_cell_row (by rfl) _ _ (w.heap.size + 1 + 1 + 1) 34 (vals S).toArray (0, 0) _ (by rfl) (setRow_heap _ _ _ _ _ _ HI.out.r0) Try.underlying34 (by rfl) (by rw [List.size_toArray, vals_length, HSL.out]; exact share_size)) rfl ⟨by rw [HSE.out], below_setRow HI.out.b (by omega) _⟩

end Go.Proofs.Ytffmnldhklejcaa
