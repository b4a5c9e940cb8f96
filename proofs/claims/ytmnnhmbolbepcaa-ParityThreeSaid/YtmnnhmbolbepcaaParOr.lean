/- The walk of ParityOr. -/
import Derived.Test.YtmnnhmbolbepcaaParOrLaw
import Derived.Test.YtmnnhmbolbepcaaParOpen
namespace Go.Proofs.Ytmnnhmbolbepcaa
open Go.RowKit
set_option linter.unusedSimpArgs false

def held (W : World) (a : Addr) : Value := (W.cell? a).getD undef
theorem held_of {W : World} {a : Addr} {v : Value} (h : W.cell? a = some v) : W.cell? a = some (held W a) := by unfold held; rw [h]; rfl

/-- a part's bytes -/
noncomputable def strP (s : List UInt8) (i : Nat) : ByteArray := ⟨(partL s (UInt8.ofNat (i + 1))).toArray⟩
theorem strP_size (s : List UInt8) (i : Nat) : (strP s i).size = rowsN s.length := by
  show (partL s (UInt8.ofNat (i + 1))).toArray.size = _
  rw [List.size_toArray, part_length]
theorem strP_bs (s : List UInt8) (i : Nat) : bs (strP s i) = partL s (UInt8.ofNat (i + 1)) := by simp [bs, strP]
theorem pts_cut {W : World} {A : Option Addr} {s : List UInt8} (h : Pts W A (cutP s 5)) : ∃ b o, A = some ⟨b, o, none⟩ ∧ ∀ i, i < 5 → W.cell? ⟨b, o + i * 2, none⟩ = some (.int .i64 ((i : Int) + 1)) ∧ W.cell? ⟨b, o + i * 2 + 1, none⟩ = some (.string (strP s i)) := by
  obtain ⟨b, o, e, hc⟩ := h (by intro e; have := congrArg List.length e; rw [cutP_length] at this; simp at this)
  refine ⟨b, o, e, fun i hi => ?_⟩
  have := hc i (by rw [cutP_length]; exact hi)
  rw [cutP_get s 5 i hi] at this
  exact this

set_option maxRecDepth 100000 in
set_option maxHeartbeats 4000000 in
theorem ParityOr_go (S T : ByteArray) (w : World) (hS : S.size ≤ 3000) (hT : T.size = S.size) :
    Calls Try.prog 4 #[.string S, .string T] w fun e w' => e = .returned (.bool true) ∧ Below w.heap.size w w' := by
  obtain ⟨m, hm⟩ : ∃ m, m = S.size := ⟨_, rfl⟩
  have hm1 : S.size = m := hm.symm
  have hm2 : T.size = m := by rw [hT, hm1]
  have g1 : decide ((3000 : Int) < (m : Int)) = false := by simp; omega
  have g2 : ((m : Int) != (m : Int)) = false := by simp
  have HM : Hid (m ≤ 3000) := by rw [Hid, hm]; exact hS
  have HLS : Hid ((bs S).length = m) := by rw [Hid, bs_length, hm1]
  have HLT : Hid ((bs T).length = m) := by rw [Hid, bs_length, hm2]
  have hmk : ∀ W : World, (Instr.makeSlice 28 (.int .i64 (m : Int)) (.int .i64 (m : Int))).run Try.prog W = .ok (.slice (some ⟨W.heap.size, 0, none⟩) m m) (W.alloc (.cells (vals (zs m)).toArray 5)) := bytes_make m (by omega)
  have HIS : Hid (∀ (i : Nat) (W : World), i < m → (Instr.index 9 (.string S) (.int .i64 (i : Int))).run Try.prog W = .ok (.int .u8 (u ((bs S).getD i 0))) W) := fun i W h => str_index S _ i rfl (by omega) W
  have HIT : Hid (∀ (i : Nat) (W : World), i < m → (Instr.index 9 (.string T) (.int .i64 (i : Int))).run Try.prog W = .ok (.int .u8 (u ((bs T).getD i 0))) W) := fun i W h => str_index T _ i rfl (by omega) W
  have m0 : (0 : Int) ≤ (m : Int) := by omega
  have m1 : (m : Int) ≤ 3000 := by omega
  clear hm hS hT
  go_enter Try.func4, Try.ntmps4
  go_wp2_with fail
  have HB0 : Hid (Below w.heap.size w (w.alloc (.cells (vals (zs m)).toArray 5)) ∧ (w.alloc (.cells (vals (zs m)).toArray 5)).heap[w.heap.size]? = some (.cells (vals (zs m)).toArray 5 (0, 0))) := ⟨(Below.refl _ _).alloc (Nat.le_refl _) _, heap_at _ _ _ rfl⟩
  clear hmk
  generalize w.alloc (.cells (vals (zs m)).toArray 5) = W1 at *
  go_loopw [28] (fun vi W => ∃ (i : Nat) (C : List UInt8), i ≤ m ∧ vi = .int .i64 i ∧ Hid (C.length = m) ∧ Hid (∀ j, j < i → C.getD j 0 = (bs S).getD j 0 ^^^ (bs T).getD j 0) ∧ Hid (Below w.heap.size w W ∧ W.heap[w.heap.size]? = some (.cells (vals C).toArray 5 (0, 0)))) (fun vi _ => m - (intOf vi).toNat)
  case atStart => exact ⟨0, zs m, Nat.zero_le _, rfl, zs_length _, fun j h => absurd h (by omega), HB0⟩
  case round =>
    clear HB0
    obtain ⟨i, C, hi, rfl, HCL, HCV, HW⟩ := hrel
    by_cases hlt : i < m
    · have i0 : (0 : Int) ≤ (i : Int) := by omega
      have i1 : (i : Int) < (m : Int) := by omega
      have q1 := fun W : World => HIS.out i W hlt
      have q2 := fun W : World => HIT.out i W hlt
      have x1 := xor_u ((bs S).getD i 0) ((bs T).getD i 0)
      have c3 := cell_byteD HW.out.2 i (by rw [HCL.out]; exact hlt)
      have f3 := frozen_of_row wr w.heap.size i _ _ HW.out.2
      have HV2 : Hid (∀ j, j < i + 1 → (C.set i ((bs S).getD i 0 ^^^ (bs T).getD i 0)).getD j 0 = (bs S).getD j 0 ^^^ (bs T).getD j 0) := fun j hj => by
        rw [getD_set _ _ _ _ (by rw [HCL.out]; exact hlt)]
        by_cases e : i = j
        · rw [if_pos e, e]
        · rw [if_neg e]; exact HCV.out j (by omega)
      generalize (bs S).getD i 0 = p1 at x1 q1 HV2
      generalize (bs T).getD i 0 = p2 at x1 q2 HV2
      have HE : Hid (Below w.heap.size w (wr.setCell ⟨w.heap.size, i, none⟩ (.int .u8 (u (p1 ^^^ p2)))).drew ∧ (wr.setCell ⟨w.heap.size, i, none⟩ (.int .u8 (u (p1 ^^^ p2)))).drew.heap[w.heap.size]? = some (.cells (vals (C.set i (p1 ^^^ p2))).toArray 5 (0, 0))) :=
        ⟨below_drewN (HW.out.1.setCell (p := ⟨w.heap.size, i, none⟩) (Nat.le_refl _) _) 1, block_set HW.out.2 _⟩
      go_wp2_with fail
      go_region_held3 (fun W => W.cell? ⟨w.heap.size, i, none⟩ = some (held W ⟨w.heap.size, i, none⟩) ∧ W.frozen? ⟨w.heap.size, i, none⟩ = false)
        (first
          | exact ⟨held_of c3, f3⟩
          | exact ⟨held_of (World.cell?_setCell_same' _ _ _ (by rw [c3]; rfl)), (World.frozen?_setCell _ _ _ _).trans f3⟩)
        (fail)
      all_goals
        try go_wp2
        exact ⟨⟨i + 1, _, by omega, by go_num, by rw [Hid, List.length_set]; exact HCL.out, HV2, HE⟩, by simp [intOf]; omega⟩
    · obtain rfl : i = m := by omega
      have HCS : Hid (bs (⟨C.toArray⟩ : ByteArray) = C) := bs_mk C
      have HCZ : Hid ((⟨C.toArray⟩ : ByteArray).size = i) := by
        show C.toArray.size = i
        rw [List.size_toArray]; exact HCL.out
      have CV : Hid (∀ W : World, Below wr.heap.size wr W → (convert 28 9 (.slice (some ⟨w.heap.size, 0, none⟩) i i)).run Try.prog W = .ok (.string ⟨C.toArray⟩) W) := fun W hb => str_of_block w.heap.size i i C HCL.out W ((hb.block w.heap.size (lt_of_block HW.out.2)).trans HW.out.2)
      have HXO : Hid (∀ (x : UInt8) (j : Nat), j < rowsN i → (partL C x).getD j 0 = (partL (bs S) x).getD j 0 ^^^ (partL (bs T) x).getD j 0) := fun x j hj => by
        have e : ∀ k, C.getD k 0 = (bs S).getD k 0 ^^^ (bs T).getD k 0 := fun k => by
          by_cases h : k < i
          · exact HCV.out k h
          · have z : ∀ l : List UInt8, l.length = i → l.getD k 0 = 0 := fun l hl => by rw [List.getD_eq_getElem?_getD, List.getElem?_eq_none (by omega)]; rfl
            rw [z C HCL.out, z _ HLS.out, z _ HLT.out]; rfl
        exact part_xor (bs S) (bs T) C (by rw [HLS.out, HLT.out]) (by rw [HLS.out, HCL.out]) e x j (by rw [HLS.out]; exact hj)
      have HBW : Hid (Below w.heap.size w wr) := HW.out.1
      clear HCV HW HIS HIT
      generalize (⟨C.toArray⟩ : ByteArray) = Z at *
      go_wp2_with fail
      refine wp_region_noPanic ?_
      refine wp_region_held_drew (S := fun W => Below wr.heap.size wr W ∧ (convert 28 9 (.slice (some ⟨w.heap.size, 0, none⟩) i i)).run Try.prog W = .ok (.string Z) W) (by kernel_rfl) ⟨(Below.refl _ _).drew, CV.out _ (Below.refl _ _).drew⟩ (fun hHeld => ?_)
      refine wpAnyH_take (i := 0) (v := ?_) rfl (by kernel_rfl) (by kernel_rfl) (by kernel_rfl) (fun _ _ _ h => h) (Or.inl ⟨by rfl, ?_⟩) (by assumption) ?_
      rotate_left
      · intro w hSw; have hSc := hSw.2; go_simp; try (with_reducible rfl)
      try simp only [List.getElem_toArray, List.getElem_cons_succ, List.getElem_cons_zero, Act.put, List.setIfInBounds_toArray, List.set_cons_zero, List.set_cons_succ]
      refine wpAnyH_take (i := 2) (v := ?_) rfl (by kernel_rfl) (by kernel_rfl) (by kernel_rfl) (fun _ _ _ h => h) (Or.inl ⟨by rfl, ?_⟩) (by assumption) ?_
      rotate_left
      · intro w hSw; have hSc := hSw.2; go_simp; try (with_reducible rfl)
      try simp only [List.getElem_toArray, List.getElem_cons_succ, List.getElem_cons_zero, Act.put, List.setIfInBounds_toArray, List.set_cons_zero, List.set_cons_succ]
      refine wpAnyH_take (i := 4) (v := ?_) rfl (by kernel_rfl) (by kernel_rfl) (by kernel_rfl) (fun _ _ _ h => h) (Or.inl ⟨by rfl, ?_⟩) (by assumption) ?_
      rotate_left
      · intro w hSw; have hSc := hSw.2; go_simp; try (with_reducible rfl)
      try simp only [List.getElem_toArray, List.getElem_cons_succ, List.getElem_cons_zero, Act.put, List.setIfInBounds_toArray, List.set_cons_zero, List.set_cons_succ]
      refine wpAnyH_take (i := 5) (v := ?_) rfl (by kernel_rfl) (by kernel_rfl) (by kernel_rfl) (fun _ _ _ h => h) (Or.inl ⟨by rfl, ?_⟩) (by assumption) ?_
      rotate_left
      · intro w hSw; have hSc := hSw.2; go_simp; try (with_reducible rfl)
      try simp only [List.getElem_toArray, List.getElem_cons_succ, List.getElem_cons_zero, Act.put, List.setIfInBounds_toArray, List.set_cons_zero, List.set_cons_succ]
      refine wpAnyH_ready (rs := [1]) (by kernel_rfl) (by simp) ?_
      refine AllReadyH.cons (o := _) rfl (fun K hK => ?_) ?_
      · simp only [List.getElem_toArray, List.getElem_cons_succ, List.getElem_cons_zero]
        go_simp
        go_at_call 11
        refine Calls.mono (PCut_c S _ (by rw [hm1]; have := HM.out; omega)) ?_
        rintro e w4 ⟨⟨A, cA, rfl, -, -, hpA⟩, hb4⟩
        have hB4 : Below wr.heap.size wr w4 := (Below.refl _ _).drew.trans hb4
        refine hK.out _ _ ?_ (fun hHeld => ?_)
        · exact ⟨hB4, CV.out _ hB4⟩
        clear hK K
        try simp only [Act.put, List.setIfInBounds_toArray, List.set_cons_zero, List.set_cons_succ]
        refine wpAnyH_ready (rs := [3]) (by kernel_rfl) (by simp) ?_
        refine AllReadyH.cons (o := _) rfl (fun K hK => ?_) ?_
        · simp only [List.getElem_toArray, List.getElem_cons_succ, List.getElem_cons_zero]
          go_simp
          go_at_call 11
          refine Calls.mono (PCut_c T _ (by rw [hm2]; have := HM.out; omega)) ?_
          rintro e w5 ⟨⟨D, cD, rfl, -, -, hpD⟩, hb5⟩
          have hB5 : Below wr.heap.size wr w5 := hB4.trans (hb5.mono hB4.size)
          have hpA5 := hpA.below hb5
          refine hK.out _ _ ?_ (fun hHeld => ?_)
          · exact ⟨hB5, CV.out _ hB5⟩
          clear hK K
          try simp only [Act.put, List.setIfInBounds_toArray, List.set_cons_zero, List.set_cons_succ]
          refine wpAnyH_ready (rs := [6]) (by kernel_rfl) (by simp) ?_
          refine AllReadyH.cons (o := _) rfl (fun K hK => ?_) ?_
          · simp only [List.getElem_toArray, List.getElem_cons_succ, List.getElem_cons_zero]
            go_simp
            go_at_call 11
            refine Calls.mono (PCut_c Z _ (by rw [HCZ.out]; have := HM.out; omega)) ?_
            rintro e w6 ⟨⟨E, cE, rfl, -, -, hpE⟩, hb6⟩
            have hB6 : Below wr.heap.size wr w6 := hB5.trans (hb6.mono hB5.size)
            refine hK.out _ _ ?_ (fun hHeld => ?_)
            · exact ⟨hB6, CV.out _ hB6⟩
            clear hK K
            try simp only [Act.put, List.setIfInBounds_toArray, List.set_cons_zero, List.set_cons_succ]
            refine wpAnyH_take (i := 7) (v := ?_) rfl (by kernel_rfl) (by kernel_rfl) (by kernel_rfl) (fun _ _ _ h => h) (Or.inl ⟨by rfl, ?_⟩) (by assumption) ?_
            rotate_left
            · intro w hSw; go_simp; try (with_reducible rfl)
            try simp only [List.getElem_toArray, List.getElem_cons_succ, List.getElem_cons_zero, Act.put, List.setIfInBounds_toArray, List.set_cons_zero, List.set_cons_succ]
            refine wpAnyH_take (i := 8) (v := ?_) rfl (by kernel_rfl) (by kernel_rfl) (by kernel_rfl) (fun _ _ _ h => h) (Or.inl ⟨by rfl, ?_⟩) (by assumption) ?_
            rotate_left
            · intro w hSw; go_simp; try (with_reducible rfl)
            try simp only [List.getElem_toArray, List.getElem_cons_succ, List.getElem_cons_zero, Act.put, List.setIfInBounds_toArray, List.set_cons_zero, List.set_cons_succ]
            refine wpAnyH_take (i := 9) (v := ?_) rfl (by kernel_rfl) (by kernel_rfl) (by kernel_rfl) (fun _ _ _ h => h) (Or.inl ⟨by rfl, ?_⟩) (by assumption) ?_
            rotate_left
            · intro w hSw; go_simp; try (with_reducible rfl)
            try simp only [List.getElem_toArray, List.getElem_cons_succ, List.getElem_cons_zero, Act.put, List.setIfInBounds_toArray, List.set_cons_zero, List.set_cons_succ]
            refine wpAnyH_done (by kernel_rfl) ?_ _
            refine NoPanic.normal ?_
            obtain ⟨bA, oA, rfl, hA⟩ := pts_cut (hpA5.below hb6)
            obtain ⟨bD, oD, rfl, hD⟩ := pts_cut (hpD.below hb6)
            obtain ⟨bE, oE, rfl, hE⟩ := pts_cut hpE
            rw [HCS.out] at hE
            have HA := Lib.hid hA
            have HD := Lib.hid hD
            have HE := Lib.hid hE
            have HB6 := Lib.hid (HBW.out.trans (hB6.mono HBW.out.size))
            clear hA hD hE hpA hpA5 hpD hpE hb4 hb5 hb6 hB4 hB5 hB6 hHeld CV HBW HCS HCZ
            obtain ⟨N, hN⟩ : ∃ N, N = rowsN i := ⟨_, rfl⟩
            have HN : Hid (N ≤ 2000) := by rw [Hid, hN]; unfold rowsN; have := HM.out; omega
            have HSA : Hid (∀ p, (strP (bs S) p).size = N) := fun p => by rw [strP_size, HLS.out, hN]
            have HSD : Hid (∀ p, (strP (bs T) p).size = N) := fun p => by rw [strP_size, HLT.out, hN]
            have HSE : Hid (∀ p, (strP C p).size = N) := fun p => by rw [strP_size, HCL.out, hN]
            have HXP : Hid (∀ p j : Nat, j < N → (bs (strP C p)).getD j 0 = (bs (strP (bs S) p)).getD j 0 ^^^ (bs (strP (bs T) p)).getD j 0) := fun p j hj => by rw [strP_bs, strP_bs, strP_bs]; exact HXO.out _ j (by rw [← hN]; exact hj)
            clear hN HXO g1 g2 m0 m1 hm1 hm2
            go_wp2_with fail
            go_loopw [64] (fun vp W => ∃ p : Nat, p ≤ 5 ∧ vp = .int .i64 p ∧ Drawn w6 W) (fun vp _ => 5 - (intOf vp).toNat)
            case atStart => exact ⟨0, Nat.zero_le _, rfl, Drawn.refl _⟩
            case round =>
              obtain ⟨p, hp, rfl, ⟨nd, rfl⟩⟩ := hrel
              by_cases hlt5 : p < 5
              · have p0 : (0 : Int) ≤ (p : Int) := by omega
                have p1 : (p : Int) < 5 := by omega
                obtain ⟨a1, a2⟩ := HA.out p hlt5
                obtain ⟨d1, d2⟩ := HD.out p hlt5
                obtain ⟨e1, e2⟩ := HE.out p hlt5
                have sa := HSA.out p
                have sd := HSD.out p
                have se := HSE.out p
                have t1 : ((N : Int) != (N : Int)) = false := by simp
                have t2 : (((p : Int) + 1) != ((p : Int) + 1)) = false := by simp
                have IA : Hid (∀ (j : Nat) (W : World), j < N → (Instr.index 9 (.string (strP (bs S) p)) (.int .i64 (j : Int))).run Try.prog W = .ok (.int .u8 (u ((bs (strP (bs S) p)).getD j 0))) W) := fun j W h => str_index _ _ j rfl (by rw [sa]; exact h) W
                have ID : Hid (∀ (j : Nat) (W : World), j < N → (Instr.index 9 (.string (strP (bs T) p)) (.int .i64 (j : Int))).run Try.prog W = .ok (.int .u8 (u ((bs (strP (bs T) p)).getD j 0))) W) := fun j W h => str_index _ _ j rfl (by rw [sd]; exact h) W
                have IE : Hid (∀ (j : Nat) (W : World), j < N → (Instr.index 9 (.string (strP C p)) (.int .i64 (j : Int))).run Try.prog W = .ok (.int .u8 (u ((bs (strP C p)).getD j 0))) W) := fun j W h => str_index _ _ j rfl (by rw [se]; exact h) W
                have XP := Lib.hid (HXP.out p)
                generalize strP (bs S) p = SA at *
                generalize strP (bs T) p = SD at *
                generalize strP C p = SE at *
                go_wp2_with fail
                go_quiet (fail)
                go_wp2_with fail
                go_loopw [111] (fun vj W => ∃ j : Nat, j ≤ N ∧ vj = .int .i64 j ∧ Drawn w6 W) (fun vj _ => N - (intOf vj).toNat)
                case atStart => exact ⟨0, Nat.zero_le _, rfl, ⟨_, rfl⟩⟩
                case round =>
                  obtain ⟨j, hj, rfl, ⟨nd2, rfl⟩⟩ := hrel
                  by_cases hltN : j < N
                  · have j0 : (0 : Int) ≤ (j : Int) := by omega
                    have j1 : (j : Int) < (N : Int) := by omega
                    have j2 : (j : Int) < 2000 := by have := HN.out; omega
                    have q1 := fun W : World => IA.out j W hltN
                    have q2 := fun W : World => ID.out j W hltN
                    have q3 := fun W : World => IE.out j W hltN
                    have x1 := xor_u ((bs SA).getD j 0) ((bs SD).getD j 0)
                    rw [← XP.out j hltN] at x1
                    generalize (bs SA).getD j 0 = z1 at *
                    generalize (bs SD).getD j 0 = z2 at *
                    generalize (bs SE).getD j 0 = z3 at *
                    have x2 : (u z3 != u z3) = false := by simp
                    go_wp2_with fail
                    go_quiet (fail)
                    go_wp2
                    go_roundw
                    case rel => exact ⟨j + 1, by omega, by go_num, ⟨_, rfl⟩⟩
                    case measure => simp [intOf]; omega
                  · obtain rfl : j = N := by omega
                    go_wp2
                    go_roundw
                    case rel => exact ⟨p + 1, by omega, by go_num, ⟨nd2, rfl⟩⟩
                    case measure => simp [intOf]; omega
              · obtain rfl : p = 5 := by omega
                go_wp2_with fail
                refine (Fixed_c _).mono ?_
                rintro e w9 ⟨rfl, hb9⟩
                have HB9 := Lib.hid ((below_drewN HB6.out nd).trans (hb9.mono (by have := HB6.out.size; exact this)))
                clear hb9
                go_wp2
                go_ret
                exact ⟨rfl, HB9.out⟩
          exact AllReadyH.nil
        exact AllReadyH.nil
      exact AllReadyH.nil

theorem ParityOr_any (v : Value) (h : ∃ s : ByteArray, v = .string s) (v' : Value) (h' : ∃ s : ByteArray, v' = .string s) (w : World) :
    Calls Try.prog 4 #[v, v'] w fun e w' => e = .returned (.bool true) ∧ Below w.heap.size w w' := by
  obtain ⟨S, rfl⟩ := h
  obtain ⟨T, rfl⟩ := h'
  by_cases h1 : S.size ≤ 3000
  · by_cases h2 : T.size = S.size
    · exact ParityOr_go S T w h1 h2
    · have g1 : decide ((3000 : Int) < (S.size : Int)) = false := by simp; omega
      have g2 : ((S.size : Int) != (T.size : Int)) = true := by simp; omega
      clear h1 h2
      go_enter Try.func4, Try.ntmps4
      go_wp2_with fail
      refine (Fixed_c _).mono ?_
      rintro e w1 ⟨rfl, hb1⟩
      go_wp2
      go_ret
      exact ⟨rfl, hb1⟩
  · have g1 : decide ((3000 : Int) < (S.size : Int)) = true := by simp; omega
    clear h1
    go_enter Try.func4, Try.ntmps4
    go_wp2_with fail
    refine (Fixed_c _).mono ?_
    rintro e w1 ⟨rfl, hb1⟩
    go_wp2
    go_ret
    exact ⟨rfl, hb1⟩

end Go.Proofs.Ytmnnhmbolbepcaa
