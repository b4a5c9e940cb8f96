/- The walk of ShareJoins. -/
import Derived.Test.YtffmnldhklejcaaShHeld
import Derived.Test.YtffmnldhklejcaaShRJoin
import Derived.Test.YtffmnldhklejcaaShPerm
import Derived.Test.YtffmnldhklejcaaShOpen
namespace Go.Proofs.Ytffmnldhklejcaa
open Go.RowKit
set_option linter.unusedSimpArgs false

attribute [local go_sem ↓] keyLoad_pre keyBuild_pre

set_option maxRecDepth 100000 in
set_option maxHeartbeats 1000000 in
theorem ShareJoins_long (A : Option Addr) (n c : Nat) (w : World) (h : 10 < n) : Calls Try.prog 8 #[.slice A n c] w fun e w' => e = .returned (.bool true) ∧ Below w.heap.size w w' := by
  have g1 : decide ((10 : Int) < (n : Int)) = true := by simp; omega
  clear h
  go_enter Try.func8, Try.ntmps8
  go_wp2_with fail
  refine (SAlive_c _).mono ?_
  rintro e w1 ⟨rfl, hb1⟩
  have HB := Lib.hid hb1
  clear hb1
  go_wp2_with fail
  go_ret
  exact ⟨rfl, HB.out⟩

set_option maxRecDepth 100000 in
set_option maxHeartbeats 1000000 in
theorem ShareJoins_bad (A : Option Addr) (n c : Nat) (L : List (List UInt8)) (w : World) (h : n ≤ 10) (hn : n = L.length) (hL : Shs w A L) (hg : ¬ Good L) : Calls Try.prog 8 #[.slice A n c] w fun e w' => e = .returned (.bool true) ∧ Below w.heap.size w w' := by
  have g1 : decide ((10 : Int) < (n : Int)) = false := by simp; omega
  have HN := Lib.hid hn
  have HL := Lib.hid hL
  have HJ := Lib.hid (joinS_no hg)
  clear h hn hL hg
  go_enter Try.func8, Try.ntmps8
  go_wp2_with fail
  refine (SAlive_c _).mono ?_
  rintro e w1 ⟨rfl, hb1⟩
  have HB := Lib.hid hb1
  clear hb1
  go_wp2_with fail
  refine (Join_c _ _ _ L _ HN.out (HL.out.below HB.out)).mono ?_
  rintro e w2 ⟨rfl, hb2⟩
  have HB2 := Lib.hid (HB.out.trans (hb2.mono HB.out.size))
  rw [HJ.out]
  clear hb2 HB
  obtain ⟨k, hk⟩ : ∃ k, k = zs 32 := ⟨_, rfl⟩
  have HK : Hid (k.length = 32) := by rw [Hid, hk]; exact zs_length _
  have HKE := Lib.hid hk
  rw [← hk]
  clear hk
  have hkk : ∀ W : World, (binOp .neq 23 (.agg (vals k).toArray) (.agg (vals k).toArray)).run Try.prog W = .ok (.bool (!decide (k = k))) W := key_neq k k HK.out HK.out
  rw [show (!decide (k = k)) = false from by simp] at hkk
  go_wp2_with (first
    | refine wpList_alloc_run (by rfl) 23 (by rfl) _ (key_alloc _) ?_
    | (refine wpList_store_row (by rfl) 23 (.tmp 3) (.tmp 19) (by rfl) w2.heap.size (vals k).toArray (by rfl) (by rfl) 23 (vals (zs 32)).toArray (heap_at _ _ _ rfl) (by rw [List.size_toArray, vals_length, HK.out]; exact key_size) (by simp [vals_length, zs_length, HK.out]) (u8_all k) ?_
       refine wpList_gen (fun W' => Below w2.heap.size w2 W' ∧ W'.heap[w2.heap.size]? = some (.cells (vals k).toArray 23 (0, 0))) ⟨below_setRow ((Below.refl _ _).alloc (Nat.le_refl _) _) (Nat.le_refl _) _, setRow_heap _ _ _ _ _ _ (heap_at _ _ _ rfl)⟩ (fun W3 hW3 => ?_)
       obtain ⟨hb3, hk3⟩ := hW3
       have HB3 := Lib.hid (HB2.out.trans (hb3.mono HB2.out.size))
       have HK3 := Lib.hid hk3
       clear hb3 hk3
       generalize w2.heap.size = g3 at *))
  refine (RJoin_c _ _ _ L _ HN.out (HL.out.below HB3.out)).mono ?_
  rintro e w4 ⟨rfl, hb4⟩
  rw [HJ.out, ← HKE.out]
  have HB4 := Lib.hid (HB3.out.trans (hb4.mono HB3.out.size))
  have HK4 : Hid (w4.heap[g3]? = some (.cells (vals k).toArray 23 (0, 0))) := (hb4.block _ (lt_of_block HK3.out)).trans HK3.out
  clear hb4 HB3 HK3
  go_wp2_with (first
    | refine wpList_alloc_run (by rfl) 23 (by rfl) _ (key_alloc _) ?_
    | (refine wpList_store_row (by rfl) 23 (.tmp 5) (.tmp 24) (by rfl) w4.heap.size (vals k).toArray (by rfl) (by rfl) 23 (vals (zs 32)).toArray (heap_at _ _ _ rfl) (by rw [List.size_toArray, vals_length, HK.out]; exact key_size) (by simp [vals_length, zs_length, HK.out]) (u8_all k) ?_
       refine wpList_gen (fun W' => Below w4.heap.size w4 W' ∧ W'.heap[w4.heap.size]? = some (.cells (vals k).toArray 23 (0, 0))) ⟨below_setRow ((Below.refl _ _).alloc (Nat.le_refl _) _) (Nat.le_refl _) _, setRow_heap _ _ _ _ _ _ (heap_at _ _ _ rfl)⟩ (fun W5 hW5 => ?_)
       obtain ⟨hb5, hk5⟩ := hW5
       have HB5 := Lib.hid (HB4.out.trans (hb5.mono HB4.out.size))
       have e5 := keyLoad_at hk5 HK.out
       have e3 := keyLoad_at ((hb5.block _ (lt_of_block HK4.out)).trans HK4.out) HK.out
       clear hb5 hk5
       generalize w4.heap.size = g5 at *))
  go_ret
  exact ⟨rfl, HB5.out⟩

-- GOOD
set_option maxRecDepth 100000 in
set_option maxHeartbeats 1000000 in
theorem ShareJoins_good (A : Option Addr) (n c : Nat) (L : List (List UInt8)) (w : World) (h : n ≤ 10) (hn : n = L.length) (hL : Shs w A L) (hg : Good L) : Calls Try.prog 8 #[.slice A n c] w fun e w' => e = .returned (.bool true) ∧ Below w.heap.size w w' := by
  have g1 : decide ((10 : Int) < (n : Int)) = false := by simp; omega
  obtain ⟨bb, oo, l0, l1, l2, rfl, rfl, hl0, hl1, hl2, -, -, -⟩ := hL.three hg.1
  obtain ⟨kl, hkl⟩ : ∃ kl, kl = keyAt [l0, l1, l2] 0 := ⟨_, rfl⟩
  have HKL : Hid (kl.length = 32) := by rw [Hid, hkl]; exact keyAt_length _ _
  have HJ : Hid (joinS [l0, l1, l2] = (kl, 0)) := by rw [Hid, hkl]; exact joinS_yes hg
  have HJ1 : Hid (joinS [l2, l0, l1] = (kl, 0)) := by rw [Hid, hkl]; exact joinS_perm1 hg
  have HJ2 : Hid (joinS [l1, l0, l2] = (kl, 0)) := by rw [Hid, hkl]; exact joinS_perm2 hg
  obtain rfl : n = 3 := hn
  have HN : Hid (3 = [l0, l1, l2].length) := rfl
  have HL := Lib.hid hL
  clear h hL hg hkl
  go_enter Try.func8, Try.ntmps8
  go_wp2_with fail
  refine (SAlive_c _).mono ?_
  rintro e w1 ⟨rfl, hb1⟩
  have HB := Lib.hid hb1
  clear hb1
  go_wp2_with fail
  refine (Join_c _ _ _ [l0, l1, l2] _ HN.out (HL.out.below HB.out)).mono ?_
  rintro e w2 ⟨rfl, hb2⟩
  have HB2 := Lib.hid (HB.out.trans (hb2.mono HB.out.size))
  rw [HJ.out]
  clear hb2 HB
  have hkk : ∀ W : World, (binOp .neq 23 (.agg (vals kl).toArray) (.agg (vals kl).toArray)).run Try.prog W = .ok (.bool (!decide (kl = kl))) W := key_neq kl kl HKL.out HKL.out
  rw [show (!decide (kl = kl)) = false from by simp] at hkk
  go_wp2_with (first
    | refine wpList_alloc_run (by rfl) 23 (by rfl) _ (key_alloc _) ?_
    | (refine wpList_store_row (by rfl) 23 (.tmp 3) (.tmp 19) (by rfl) w2.heap.size (vals kl).toArray (by rfl) (by rfl) 23 (vals (zs 32)).toArray (heap_at _ _ _ rfl) (by rw [List.size_toArray, vals_length, HKL.out]; exact key_size) (by simp [vals_length, zs_length, HKL.out]) (u8_all kl) ?_
       refine wpList_gen (fun W' => Below w2.heap.size w2 W' ∧ W'.heap[w2.heap.size]? = some (.cells (vals kl).toArray 23 (0, 0))) ⟨below_setRow ((Below.refl _ _).alloc (Nat.le_refl _) _) (Nat.le_refl _) _, setRow_heap _ _ _ _ _ _ (heap_at _ _ _ rfl)⟩ (fun W3 hW3 => ?_)
       obtain ⟨hb3, hk3⟩ := hW3
       have HB3 := Lib.hid (HB2.out.trans (hb3.mono HB2.out.size))
       have HK3 := Lib.hid hk3
       clear hb3 hk3
       generalize w2.heap.size = g3 at *))
  refine (RJoin_c _ _ _ [l0, l1, l2] _ HN.out (HL.out.below HB3.out)).mono ?_
  rintro e w4 ⟨rfl, hb4⟩
  rw [HJ.out]
  have HB4 := Lib.hid (HB3.out.trans (hb4.mono HB3.out.size))
  have HK4 : Hid (w4.heap[g3]? = some (.cells (vals kl).toArray 23 (0, 0))) := (hb4.block _ (lt_of_block HK3.out)).trans HK3.out
  clear hb4 HB3 HK3
  go_wp2_with (first
    | refine wpList_alloc_run (by rfl) 23 (by rfl) _ (key_alloc _) ?_
    | (refine wpList_store_row (by rfl) 23 (.tmp 5) (.tmp 24) (by rfl) w4.heap.size (vals kl).toArray (by rfl) (by rfl) 23 (vals (zs 32)).toArray (heap_at _ _ _ rfl) (by rw [List.size_toArray, vals_length, HKL.out]; exact key_size) (by simp [vals_length, zs_length, HKL.out]) (u8_all kl) ?_
       refine wpList_gen (fun W' => Below w4.heap.size w4 W' ∧ W'.heap[w4.heap.size]? = some (.cells (vals kl).toArray 23 (0, 0))) ⟨below_setRow ((Below.refl _ _).alloc (Nat.le_refl _) _) (Nat.le_refl _) _, setRow_heap _ _ _ _ _ _ (heap_at _ _ _ rfl)⟩ (fun W5 hW5 => ?_)
       obtain ⟨hb5, hk5⟩ := hW5
       have HB5 := Lib.hid (HB4.out.trans (hb5.mono HB4.out.size))
       have e5 := keyLoad_at hk5 HKL.out
       have K5 : Hid (W5.heap[g3]? = some (.cells (vals kl).toArray 23 (0, 0))) := (hb5.block _ (lt_of_block HK4.out)).trans HK4.out
       have e3 := keyLoad_at K5.out HKL.out
       clear hb5 hk5
       generalize w4.heap.size = g5 at *))
  have hL5 := HL.out.below HB5.out
  obtain ⟨b2, o2, e, hcr⟩ := hL5.2 (by simp)
  cases e
  have hr0 : W5.rangeAt bb oo (vals l0) := by have := hcr 0 (by simp); simpa using this
  have hr1 : W5.rangeAt bb (oo + 33) (vals l1) := by have := hcr 1 (by simp); simpa using this
  have hr2 : W5.rangeAt bb (oo + 66) (vals l2) := by have := hcr 2 (by simp); simpa using this
  clear hL5 hcr e5 e3
  have hu := Try.underlying34
  have hi0 : (Try.prog.info? 34).map (·.size) = some (vals l0).length := by rw [vals_length, hl0]; exact share_size
  have hi1 : (Try.prog.info? 34).map (·.size) = some (vals l1).length := by rw [vals_length, hl1]; exact share_size
  have hi2 : (Try.prog.info? 34).map (·.size) = some (vals l2).length := by rw [vals_length, hl2]; exact share_size
  have HC1 : Hid (∀ (g : Nat) (W : World), W.heap[g]? = some (.cells (vals (l2 ++ (l0 ++ l1))).toArray 34 (0, 0)) → Calls Try.prog 20 #[.slice (some ⟨g, 0, none⟩) 3 3] W fun e w' => e = .returned (.tuple #[.agg (vals kl).toArray, .int .i64 0]) ∧ Below W.heap.size W w') := fun g W h => by
    have h2 : Shs W (some ⟨g, 0, none⟩) [l2, l0, l1] := shs_of_block _ (by simp [hl0, hl1, hl2]) (by simpa using h)
    have h3 := Join_c (some ⟨g, 0, none⟩) 3 3 [l2, l0, l1] W rfl h2
    rw [HJ1.out] at h3
    exact h3
  have HC2 : Hid (∀ (g : Nat) (W : World), W.heap[g]? = some (.cells (vals (l1 ++ (l0 ++ l2))).toArray 34 (0, 0)) → Calls Try.prog 20 #[.slice (some ⟨g, 0, none⟩) 3 3] W fun e w' => e = .returned (.tuple #[.agg (vals kl).toArray, .int .i64 0]) ∧ Below W.heap.size W w') := fun g W h => by
    have h2 : Shs W (some ⟨g, 0, none⟩) [l1, l0, l2] := shs_of_block _ (by simp [hl0, hl1, hl2]) (by simpa using h)
    have h3 := Join_c (some ⟨g, 0, none⟩) 3 3 [l1, l0, l2] W rfl h2
    rw [HJ2.out] at h3
    exact h3
  have hq : ∀ W : World, (binOp .eql 23 (.agg (vals kl).toArray) (.agg (vals kl).toArray)).run Try.prog W = .ok (.bool (decide (kl = kl))) W := key_eql kl kl HKL.out HKL.out
  rw [show decide (kl = kl) = true from by simp] at hq
  refine wp_region_noPanic ?_
  refine wp_region_held_drew (S := fun W => Below W5.heap.size W5 W) (by kernel_rfl) ((Below.refl _ _).drew) (fun hHeld => ?_)
  refine wpAnyH_take (i := 0) (v := ?_) rfl (by kernel_rfl) (by kernel_rfl) (by kernel_rfl) (fun _ _ _ h => h) (Or.inl ⟨by rfl, ?_⟩) (by assumption) ?_
  rotate_left
  · intro w hSw; go_simp; try (with_reducible rfl)
  try simp only [List.getElem_toArray, List.getElem_cons_succ, List.getElem_cons_zero, Act.put, List.setIfInBounds_toArray, List.set_cons_zero, List.set_cons_succ]
  refine wpAnyH_take (i := 1) (v := ?_) rfl (by kernel_rfl) (by kernel_rfl) (by kernel_rfl) (fun _ _ _ h => h) (Or.inl ⟨by rfl, ?_⟩) (by assumption) ?_
  rotate_left
  · intro w hSw; go_simp; try (with_reducible rfl)
  try simp only [List.getElem_toArray, List.getElem_cons_succ, List.getElem_cons_zero, Act.put, List.setIfInBounds_toArray, List.set_cons_zero, List.set_cons_succ]
  refine' wpAnyH_take (i := 2) (v := _) rfl (by kernel_rfl) (by kernel_rfl) (by kernel_rfl) (fun _ _ _ h => h) (yieldsIf_load_mid (by rfl) _ _ rfl _ _ rfl _ _ (fun W hW => range_below hr2 hW) hu (by rfl) hi2) (by assumption) ?_
  try simp only [List.getElem_toArray, List.getElem_cons_succ, List.getElem_cons_zero, Act.put, List.setIfInBounds_toArray, List.set_cons_zero, List.set_cons_succ]
  refine wpAnyH_take (i := 3) (v := ?_) rfl (by kernel_rfl) (by kernel_rfl) (by kernel_rfl) (fun _ _ _ h => h) (Or.inl ⟨by rfl, ?_⟩) (by assumption) ?_
  rotate_left
  · intro w hSw; go_simp; try (with_reducible rfl)
  try simp only [List.getElem_toArray, List.getElem_cons_succ, List.getElem_cons_zero, Act.put, List.setIfInBounds_toArray, List.set_cons_zero, List.set_cons_succ]
  refine wpAnyH_take (i := 4) (v := ?_) rfl (by kernel_rfl) (by kernel_rfl) (by kernel_rfl) (fun _ _ _ h => h) (Or.inl ⟨by rfl, ?_⟩) (by assumption) ?_
  rotate_left
  · intro w hSw; go_simp; try (with_reducible rfl)
  try simp only [List.getElem_toArray, List.getElem_cons_succ, List.getElem_cons_zero, Act.put, List.setIfInBounds_toArray, List.set_cons_zero, List.set_cons_succ]
  refine' wpAnyH_take (i := 5) (v := _) rfl (by kernel_rfl) (by kernel_rfl) (by kernel_rfl) (fun _ _ _ h => h) (yieldsIf_load_mid (by rfl) _ _ rfl _ _ rfl _ _ (fun W hW => range_below hr0 hW) hu (by rfl) hi0) (by assumption) ?_
  try simp only [List.getElem_toArray, List.getElem_cons_succ, List.getElem_cons_zero, Act.put, List.setIfInBounds_toArray, List.set_cons_zero, List.set_cons_succ]
  refine wpAnyH_take (i := 6) (v := ?_) rfl (by kernel_rfl) (by kernel_rfl) (by kernel_rfl) (fun _ _ _ h => h) (Or.inl ⟨by rfl, ?_⟩) (by assumption) ?_
  rotate_left
  · intro w hSw; go_simp; try (with_reducible rfl)
  try simp only [List.getElem_toArray, List.getElem_cons_succ, List.getElem_cons_zero, Act.put, List.setIfInBounds_toArray, List.set_cons_zero, List.set_cons_succ]
  refine wpAnyH_take (i := 7) (v := ?_) rfl (by kernel_rfl) (by kernel_rfl) (by kernel_rfl) (fun _ _ _ h => h) (Or.inl ⟨by rfl, ?_⟩) (by assumption) ?_
  rotate_left
  · intro w hSw; go_simp; try (with_reducible rfl)
  try simp only [List.getElem_toArray, List.getElem_cons_succ, List.getElem_cons_zero, Act.put, List.setIfInBounds_toArray, List.set_cons_zero, List.set_cons_succ]
  refine' wpAnyH_take (i := 8) (v := _) rfl (by kernel_rfl) (by kernel_rfl) (by kernel_rfl) (fun _ _ _ h => h) (yieldsIf_load_mid (by rfl) _ _ rfl _ _ rfl _ _ (fun W hW => range_below hr1 hW) hu (by rfl) hi1) (by assumption) ?_
  try simp only [List.getElem_toArray, List.getElem_cons_succ, List.getElem_cons_zero, Act.put, List.setIfInBounds_toArray, List.set_cons_zero, List.set_cons_succ]
  refine wpAnyH_ready (rs := [9, 14]) (by kernel_rfl) (by simp) ?_
  refine AllReadyH.cons (o := _) rfl (fun K hK => ?_) ?_
  · simp only [List.getElem_toArray, List.getElem_cons_succ, List.getElem_cons_zero]
    rw [if_pos (by rfl)]
    refine wp_shares3 (.tmp 39) (.tmp 42) (.tmp 45) (by rfl) l2 l0 l1 (by rfl) (by rfl) (by rfl) hl2 hl0 hl1 ?_
    refine hK.out _ _ ?_ (fun hHeld => ?_)
    · exact (Below.refl _ _).drew.alloc (Nat.le_refl _) _
    clear hK K
    try simp only [Act.put, List.setIfInBounds_toArray, List.set_cons_zero, List.set_cons_succ]
    refine wpAnyH_ready (rs := [10, 14]) (by kernel_rfl) (by simp) ?_
    refine AllReadyH.cons (o := _) rfl (fun K hK => ?_) ?_
    · simp only [List.getElem_toArray, List.getElem_cons_succ, List.getElem_cons_zero]
      go_simp
      go_at_call 20
      refine Calls.mono (HC1.out _ _ ?_) ?_
      · exact (heap_at _ _ _ rfl)
      rintro e w2 ⟨rfl, hb2⟩
      refine hK.out _ _ ?_ (fun hHeld => ?_)
      · exact ((Below.refl _ _).drew.alloc (Nat.le_refl _) _).trans (hb2.mono (by first | (simp; done) | (simp; omega)))
      clear hK K
      try simp only [Act.put, List.setIfInBounds_toArray, List.set_cons_zero, List.set_cons_succ]
      refine wpAnyH_take (i := 11) (v := ?_) rfl (by kernel_rfl) (by kernel_rfl) (by kernel_rfl) (fun _ _ _ h => h) (Or.inl ⟨by rfl, ?_⟩) (by assumption) ?_
      rotate_left
      · intro w hSw; go_simp; try (with_reducible rfl)
      try simp only [List.getElem_toArray, List.getElem_cons_succ, List.getElem_cons_zero, Act.put, List.setIfInBounds_toArray, List.set_cons_zero, List.set_cons_succ]
      refine wpAnyH_take (i := 12) (v := ?_) rfl (by kernel_rfl) (by kernel_rfl) (by kernel_rfl) (fun _ _ _ h => h) (Or.inl ⟨by rfl, ?_⟩) (by assumption) ?_
      rotate_left
      · intro w hSw; go_simp; try (with_reducible rfl)
      try simp only [List.getElem_toArray, List.getElem_cons_succ, List.getElem_cons_zero, Act.put, List.setIfInBounds_toArray, List.set_cons_zero, List.set_cons_succ]
      refine wpAnyH_take (i := 13) (v := ?_) rfl (by kernel_rfl) (by kernel_rfl) (by kernel_rfl) (fun _ _ _ h => h) (Or.inl ⟨by rfl, ?_⟩) (by assumption) ?_
      rotate_left
      · intro w hSw; go_simp; try (with_reducible rfl)
      try simp only [List.getElem_toArray, List.getElem_cons_succ, List.getElem_cons_zero, Act.put, List.setIfInBounds_toArray, List.set_cons_zero, List.set_cons_succ]
      refine wpAnyH_ready (rs := [14]) (by kernel_rfl) (by simp) ?_
      refine AllReadyH.cons (o := _) rfl (fun K hK => ?_) ?_
      · simp only [List.getElem_toArray, List.getElem_cons_succ, List.getElem_cons_zero]
        rw [if_pos (by rfl)]
        refine wp_key_alloc (by rfl) ?_
        refine hK.out _ _ ?_ (fun hHeld => ?_)
        · exact (((Below.refl _ _).drew.alloc (Nat.le_refl _) _).trans (hb2.mono (by first | (simp; done) | (simp; omega)))).alloc (by first | omega | (simp; done) | (simp; omega) | (have h := hb2.size; simp at h; omega) | (have h := hb2.size; simp at h ⊢; omega)) _
        clear hK K
        try simp only [Act.put, List.setIfInBounds_toArray, List.set_cons_zero, List.set_cons_succ]
        refine wpAnyH_ready (rs := [15]) (by kernel_rfl) (by simp) ?_
        refine AllReadyH.cons (o := _) rfl (fun K hK => ?_) ?_
        · simp only [List.getElem_toArray, List.getElem_cons_succ, List.getElem_cons_zero]
          rw [if_pos (by rfl)]
          refine wp_store_row 23 (.tmp 7) (.tmp 48) (by rfl) w2.heap.size (vals kl).toArray (by rfl) (by rfl) 23 (vals (zs 32)).toArray (heap_at _ _ _ rfl) (by rw [List.size_toArray, vals_length, HKL.out]; exact key_size) (by simp [vals_length, zs_length, HKL.out]) (u8_all kl) ?_
          refine hK.out _ _ ?_ (fun hHeld => ?_)
          · exact below_setRow ((((Below.refl _ _).drew.alloc (Nat.le_refl _) _).trans (hb2.mono (by first | (simp; done) | (simp; omega)))).alloc (by first | omega | (simp; done) | (simp; omega) | (have h := hb2.size; simp at h; omega) | (have h := hb2.size; simp at h ⊢; omega)) _) (by first | omega | (simp; done) | (simp; omega) | (have h := hb2.size; simp at h; omega) | (have h := hb2.size; simp at h ⊢; omega)) _
          clear hK K
          try simp only [Act.put, List.setIfInBounds_toArray, List.set_cons_zero, List.set_cons_succ]
          refine wpAnyH_take (i := 16) (v := ?_) rfl (by kernel_rfl) (by kernel_rfl) (by kernel_rfl) (fun _ _ _ h => h) (Or.inl ⟨by rfl, ?_⟩) (by assumption) ?_
          rotate_left
          · intro w hSw; go_simp; try (with_reducible rfl)
          try simp only [List.getElem_toArray, List.getElem_cons_succ, List.getElem_cons_zero, Act.put, List.setIfInBounds_toArray, List.set_cons_zero, List.set_cons_succ]
          refine wpAnyH_done (by kernel_rfl) ?_ _
          refine NoPanic.normal ?_
          refine world_gen (fun W' => Below W5.heap.size W5 W' ∧ W'.heap[w2.heap.size]? = some (.cells (vals kl).toArray 23 (0, 0))) ⟨below_setRow ((((Below.refl _ _).drew.alloc (Nat.le_refl _) _).trans (hb2.mono (by first | (simp; done) | (simp; omega)))).alloc (by first | omega | (simp; done) | (simp; omega) | (have h := hb2.size; simp at h; omega) | (have h := hb2.size; simp at h ⊢; omega)) _) (by first | omega | (simp; done) | (simp; omega) | (have h := hb2.size; simp at h; omega) | (have h := hb2.size; simp at h ⊢; omega)) _, setRow_heap _ _ _ _ _ _ (heap_at _ _ _ rfl)⟩ (fun W3 hW3 => ?_)
          have HB7 := Lib.hid (HB5.out.trans (hW3.1.mono HB5.out.size))
          have K7 := Lib.hid hW3.2
          have K3 : Hid (W3.heap[g3]? = some (.cells (vals kl).toArray 23 (0, 0))) := (hW3.1.block _ (lt_of_block K5.out)).trans K5.out
          have hr0b := range_below hr0 hW3.1
          have hr1b := range_below hr1 hW3.1
          have hr2b := range_below hr2 hW3.1
          clear hW3
          go_wp2_with fail
          refine wp_region_noPanic ?_
          refine wp_region_held_drew (S := fun W => Below W3.heap.size W3 W) (by kernel_rfl) ((Below.refl _ _).drew) (fun hHeld => ?_)
          refine wpAnyH_take (i := 0) (v := ?_) rfl (by kernel_rfl) (by kernel_rfl) (by kernel_rfl) (fun _ _ _ h => h) (Or.inl ⟨by rfl, ?_⟩) (by assumption) ?_
          rotate_left
          · intro w hSw; go_simp; try (with_reducible rfl)
          try simp only [List.getElem_toArray, List.getElem_cons_succ, List.getElem_cons_zero, Act.put, List.setIfInBounds_toArray, List.set_cons_zero, List.set_cons_succ]
          refine wpAnyH_take (i := 1) (v := ?_) rfl (by kernel_rfl) (by kernel_rfl) (by kernel_rfl) (fun _ _ _ h => h) (Or.inl ⟨by rfl, ?_⟩) (by assumption) ?_
          rotate_left
          · intro w hSw; go_simp; try (with_reducible rfl)
          try simp only [List.getElem_toArray, List.getElem_cons_succ, List.getElem_cons_zero, Act.put, List.setIfInBounds_toArray, List.set_cons_zero, List.set_cons_succ]
          refine' wpAnyH_take (i := 2) (v := _) rfl (by kernel_rfl) (by kernel_rfl) (by kernel_rfl) (fun _ _ _ h => h) (yieldsIf_load_mid (by rfl) _ _ rfl _ _ rfl _ _ (fun W hW => range_below hr1b hW) hu (by rfl) hi1) (by assumption) ?_
          try simp only [List.getElem_toArray, List.getElem_cons_succ, List.getElem_cons_zero, Act.put, List.setIfInBounds_toArray, List.set_cons_zero, List.set_cons_succ]
          refine wpAnyH_take (i := 3) (v := ?_) rfl (by kernel_rfl) (by kernel_rfl) (by kernel_rfl) (fun _ _ _ h => h) (Or.inl ⟨by rfl, ?_⟩) (by assumption) ?_
          rotate_left
          · intro w hSw; go_simp; try (with_reducible rfl)
          try simp only [List.getElem_toArray, List.getElem_cons_succ, List.getElem_cons_zero, Act.put, List.setIfInBounds_toArray, List.set_cons_zero, List.set_cons_succ]
          refine wpAnyH_take (i := 4) (v := ?_) rfl (by kernel_rfl) (by kernel_rfl) (by kernel_rfl) (fun _ _ _ h => h) (Or.inl ⟨by rfl, ?_⟩) (by assumption) ?_
          rotate_left
          · intro w hSw; go_simp; try (with_reducible rfl)
          try simp only [List.getElem_toArray, List.getElem_cons_succ, List.getElem_cons_zero, Act.put, List.setIfInBounds_toArray, List.set_cons_zero, List.set_cons_succ]
          refine' wpAnyH_take (i := 5) (v := _) rfl (by kernel_rfl) (by kernel_rfl) (by kernel_rfl) (fun _ _ _ h => h) (yieldsIf_load_mid (by rfl) _ _ rfl _ _ rfl _ _ (fun W hW => range_below hr0b hW) hu (by rfl) hi0) (by assumption) ?_
          try simp only [List.getElem_toArray, List.getElem_cons_succ, List.getElem_cons_zero, Act.put, List.setIfInBounds_toArray, List.set_cons_zero, List.set_cons_succ]
          refine wpAnyH_take (i := 6) (v := ?_) rfl (by kernel_rfl) (by kernel_rfl) (by kernel_rfl) (fun _ _ _ h => h) (Or.inl ⟨by rfl, ?_⟩) (by assumption) ?_
          rotate_left
          · intro w hSw; go_simp; try (with_reducible rfl)
          try simp only [List.getElem_toArray, List.getElem_cons_succ, List.getElem_cons_zero, Act.put, List.setIfInBounds_toArray, List.set_cons_zero, List.set_cons_succ]
          refine wpAnyH_take (i := 7) (v := ?_) rfl (by kernel_rfl) (by kernel_rfl) (by kernel_rfl) (fun _ _ _ h => h) (Or.inl ⟨by rfl, ?_⟩) (by assumption) ?_
          rotate_left
          · intro w hSw; go_simp; try (with_reducible rfl)
          try simp only [List.getElem_toArray, List.getElem_cons_succ, List.getElem_cons_zero, Act.put, List.setIfInBounds_toArray, List.set_cons_zero, List.set_cons_succ]
          refine' wpAnyH_take (i := 8) (v := _) rfl (by kernel_rfl) (by kernel_rfl) (by kernel_rfl) (fun _ _ _ h => h) (yieldsIf_load_mid (by rfl) _ _ rfl _ _ rfl _ _ (fun W hW => range_below hr2b hW) hu (by rfl) hi2) (by assumption) ?_
          try simp only [List.getElem_toArray, List.getElem_cons_succ, List.getElem_cons_zero, Act.put, List.setIfInBounds_toArray, List.set_cons_zero, List.set_cons_succ]
          refine wpAnyH_ready (rs := [9, 14]) (by kernel_rfl) (by simp) ?_
          refine AllReadyH.cons (o := _) rfl (fun K hK => ?_) ?_
          · simp only [List.getElem_toArray, List.getElem_cons_succ, List.getElem_cons_zero]
            rw [if_pos (by rfl)]
            refine wp_shares3 (.tmp 53) (.tmp 56) (.tmp 59) (by rfl) l1 l0 l2 (by rfl) (by rfl) (by rfl) hl1 hl0 hl2 ?_
            refine hK.out _ _ ?_ (fun hHeld => ?_)
            · exact (Below.refl _ _).drew.alloc (Nat.le_refl _) _
            clear hK K
            try simp only [Act.put, List.setIfInBounds_toArray, List.set_cons_zero, List.set_cons_succ]
            refine wpAnyH_ready (rs := [10, 14]) (by kernel_rfl) (by simp) ?_
            refine AllReadyH.cons (o := _) rfl (fun K hK => ?_) ?_
            · simp only [List.getElem_toArray, List.getElem_cons_succ, List.getElem_cons_zero]
              go_simp
              go_at_call 20
              refine Calls.mono (HC2.out _ _ ?_) ?_
              · exact (heap_at _ _ _ rfl)
              rintro e w2 ⟨rfl, hb2⟩
              refine hK.out _ _ ?_ (fun hHeld => ?_)
              · exact ((Below.refl _ _).drew.alloc (Nat.le_refl _) _).trans (hb2.mono (by first | (simp; done) | (simp; omega)))
              clear hK K
              try simp only [Act.put, List.setIfInBounds_toArray, List.set_cons_zero, List.set_cons_succ]
              refine wpAnyH_take (i := 11) (v := ?_) rfl (by kernel_rfl) (by kernel_rfl) (by kernel_rfl) (fun _ _ _ h => h) (Or.inl ⟨by rfl, ?_⟩) (by assumption) ?_
              rotate_left
              · intro w hSw; go_simp; try (with_reducible rfl)
              try simp only [List.getElem_toArray, List.getElem_cons_succ, List.getElem_cons_zero, Act.put, List.setIfInBounds_toArray, List.set_cons_zero, List.set_cons_succ]
              refine wpAnyH_take (i := 12) (v := ?_) rfl (by kernel_rfl) (by kernel_rfl) (by kernel_rfl) (fun _ _ _ h => h) (Or.inl ⟨by rfl, ?_⟩) (by assumption) ?_
              rotate_left
              · intro w hSw; go_simp; try (with_reducible rfl)
              try simp only [List.getElem_toArray, List.getElem_cons_succ, List.getElem_cons_zero, Act.put, List.setIfInBounds_toArray, List.set_cons_zero, List.set_cons_succ]
              refine wpAnyH_take (i := 13) (v := ?_) rfl (by kernel_rfl) (by kernel_rfl) (by kernel_rfl) (fun _ _ _ h => h) (Or.inl ⟨by rfl, ?_⟩) (by assumption) ?_
              rotate_left
              · intro w hSw; go_simp; try (with_reducible rfl)
              try simp only [List.getElem_toArray, List.getElem_cons_succ, List.getElem_cons_zero, Act.put, List.setIfInBounds_toArray, List.set_cons_zero, List.set_cons_succ]
              refine wpAnyH_ready (rs := [14]) (by kernel_rfl) (by simp) ?_
              refine AllReadyH.cons (o := _) rfl (fun K hK => ?_) ?_
              · simp only [List.getElem_toArray, List.getElem_cons_succ, List.getElem_cons_zero]
                rw [if_pos (by rfl)]
                refine wp_key_alloc (by rfl) ?_
                refine hK.out _ _ ?_ (fun hHeld => ?_)
                · exact (((Below.refl _ _).drew.alloc (Nat.le_refl _) _).trans (hb2.mono (by first | (simp; done) | (simp; omega)))).alloc (by first | omega | (simp; done) | (simp; omega) | (have h := hb2.size; simp at h; omega) | (have h := hb2.size; simp at h ⊢; omega)) _
                clear hK K
                try simp only [Act.put, List.setIfInBounds_toArray, List.set_cons_zero, List.set_cons_succ]
                refine wpAnyH_ready (rs := [15]) (by kernel_rfl) (by simp) ?_
                refine AllReadyH.cons (o := _) rfl (fun K hK => ?_) ?_
                · simp only [List.getElem_toArray, List.getElem_cons_succ, List.getElem_cons_zero]
                  rw [if_pos (by rfl)]
                  refine wp_store_row 23 (.tmp 9) (.tmp 62) (by rfl) w2.heap.size (vals kl).toArray (by rfl) (by rfl) 23 (vals (zs 32)).toArray (heap_at _ _ _ rfl) (by rw [List.size_toArray, vals_length, HKL.out]; exact key_size) (by simp [vals_length, zs_length, HKL.out]) (u8_all kl) ?_
                  refine hK.out _ _ ?_ (fun hHeld => ?_)
                  · exact below_setRow ((((Below.refl _ _).drew.alloc (Nat.le_refl _) _).trans (hb2.mono (by first | (simp; done) | (simp; omega)))).alloc (by first | omega | (simp; done) | (simp; omega) | (have h := hb2.size; simp at h; omega) | (have h := hb2.size; simp at h ⊢; omega)) _) (by first | omega | (simp; done) | (simp; omega) | (have h := hb2.size; simp at h; omega) | (have h := hb2.size; simp at h ⊢; omega)) _
                  clear hK K
                  try simp only [Act.put, List.setIfInBounds_toArray, List.set_cons_zero, List.set_cons_succ]
                  refine wpAnyH_take (i := 16) (v := ?_) rfl (by kernel_rfl) (by kernel_rfl) (by kernel_rfl) (fun _ _ _ h => h) (Or.inl ⟨by rfl, ?_⟩) (by assumption) ?_
                  rotate_left
                  · intro w hSw; go_simp; try (with_reducible rfl)
                  try simp only [List.getElem_toArray, List.getElem_cons_succ, List.getElem_cons_zero, Act.put, List.setIfInBounds_toArray, List.set_cons_zero, List.set_cons_succ]
                  refine wpAnyH_done (by kernel_rfl) ?_ _
                  refine NoPanic.normal ?_
                  refine world_gen (fun W' => Below W3.heap.size W3 W' ∧ W'.heap[w2.heap.size]? = some (.cells (vals kl).toArray 23 (0, 0))) ⟨below_setRow ((((Below.refl _ _).drew.alloc (Nat.le_refl _) _).trans (hb2.mono (by first | (simp; done) | (simp; omega)))).alloc (by first | omega | (simp; done) | (simp; omega) | (have h := hb2.size; simp at h; omega) | (have h := hb2.size; simp at h ⊢; omega)) _) (by first | omega | (simp; done) | (simp; omega) | (have h := hb2.size; simp at h; omega) | (have h := hb2.size; simp at h ⊢; omega)) _, setRow_heap _ _ _ _ _ _ (heap_at _ _ _ rfl)⟩ (fun W3 hW3 => ?_)
                  have e9 := keyLoad_at hW3.2 HKL.out
                  have e7 := keyLoad_at ((hW3.1.block _ (lt_of_block K7.out)).trans K7.out) HKL.out
                  have e3 := keyLoad_at ((hW3.1.block _ (lt_of_block K3.out)).trans K3.out) HKL.out
                  have HB9 := Lib.hid (HB7.out.trans (hW3.1.mono HB7.out.size))
                  clear hW3
                  go_wp2
                  go_ret
                  exact ⟨ret_bool (by simp), HB9.out⟩
                exact AllReadyH.nil
              exact AllReadyH.nil
            refine AllReadyH.cons (o := _) rfl (fun K hK => ?_) ?_
            · simp only [List.getElem_toArray, List.getElem_cons_succ, List.getElem_cons_zero]
              rw [if_pos (by rfl)]
              refine wp_key_alloc (by rfl) ?_
              refine hK.out _ _ ?_ (fun hHeld => ?_)
              · exact ((Below.refl _ _).drew.alloc (Nat.le_refl _) _).alloc (by simp) _
              clear hK K
              try simp only [Act.put, List.setIfInBounds_toArray, List.set_cons_zero, List.set_cons_succ]
              refine wpAnyH_ready (rs := [10]) (by kernel_rfl) (by simp) ?_
              refine AllReadyH.cons (o := _) rfl (fun K hK => ?_) ?_
              · simp only [List.getElem_toArray, List.getElem_cons_succ, List.getElem_cons_zero]
                go_simp
                go_at_call 20
                refine Calls.mono (HC2.out _ _ ?_) ?_
                · exact (heap_alloc2_old _ _ _)
                rintro e w2 ⟨rfl, hb2⟩
                refine hK.out _ _ ?_ (fun hHeld => ?_)
                · exact (((Below.refl _ _).drew.alloc (Nat.le_refl _) _).alloc (by simp) _).trans (hb2.mono (by first | (simp; done) | (simp; omega)))
                clear hK K
                try simp only [Act.put, List.setIfInBounds_toArray, List.set_cons_zero, List.set_cons_succ]
                refine wpAnyH_take (i := 11) (v := ?_) rfl (by kernel_rfl) (by kernel_rfl) (by kernel_rfl) (fun _ _ _ h => h) (Or.inl ⟨by rfl, ?_⟩) (by assumption) ?_
                rotate_left
                · intro w hSw; go_simp; try (with_reducible rfl)
                try simp only [List.getElem_toArray, List.getElem_cons_succ, List.getElem_cons_zero, Act.put, List.setIfInBounds_toArray, List.set_cons_zero, List.set_cons_succ]
                refine wpAnyH_take (i := 12) (v := ?_) rfl (by kernel_rfl) (by kernel_rfl) (by kernel_rfl) (fun _ _ _ h => h) (Or.inl ⟨by rfl, ?_⟩) (by assumption) ?_
                rotate_left
                · intro w hSw; go_simp; try (with_reducible rfl)
                try simp only [List.getElem_toArray, List.getElem_cons_succ, List.getElem_cons_zero, Act.put, List.setIfInBounds_toArray, List.set_cons_zero, List.set_cons_succ]
                refine wpAnyH_take (i := 13) (v := ?_) rfl (by kernel_rfl) (by kernel_rfl) (by kernel_rfl) (fun _ _ _ h => h) (Or.inl ⟨by rfl, ?_⟩) (by assumption) ?_
                rotate_left
                · intro w hSw; go_simp; try (with_reducible rfl)
                try simp only [List.getElem_toArray, List.getElem_cons_succ, List.getElem_cons_zero, Act.put, List.setIfInBounds_toArray, List.set_cons_zero, List.set_cons_succ]
                refine wpAnyH_ready (rs := [15]) (by kernel_rfl) (by simp) ?_
                refine AllReadyH.cons (o := _) rfl (fun K hK => ?_) ?_
                · simp only [List.getElem_toArray, List.getElem_cons_succ, List.getElem_cons_zero]
                  rw [if_pos (by rfl)]
                  refine wp_store_row 23 (.tmp 9) (.tmp 62) (by rfl) (W3.heap.size + 1) (vals kl).toArray (by rfl) (by rfl) 23 (vals (zs 32)).toArray ((hb2.block _ (by first | (simp; done) | (simp; omega))).trans (heap_alloc2_new _ _ _)) (by rw [List.size_toArray, vals_length, HKL.out]; exact key_size) (by simp [vals_length, zs_length, HKL.out]) (u8_all kl) ?_
                  refine hK.out _ _ ?_ (fun hHeld => ?_)
                  · exact below_setRow ((((Below.refl _ _).drew.alloc (Nat.le_refl _) _).alloc (by simp) _).trans (hb2.mono (by first | (simp; done) | (simp; omega)))) (by first | omega | (simp; done) | (simp; omega) | (have h := hb2.size; simp at h; omega) | (have h := hb2.size; simp at h ⊢; omega)) _
                  clear hK K
                  try simp only [Act.put, List.setIfInBounds_toArray, List.set_cons_zero, List.set_cons_succ]
                  refine wpAnyH_take (i := 16) (v := ?_) rfl (by kernel_rfl) (by kernel_rfl) (by kernel_rfl) (fun _ _ _ h => h) (Or.inl ⟨by rfl, ?_⟩) (by assumption) ?_
                  rotate_left
                  · intro w hSw; go_simp; try (with_reducible rfl)
                  try simp only [List.getElem_toArray, List.getElem_cons_succ, List.getElem_cons_zero, Act.put, List.setIfInBounds_toArray, List.set_cons_zero, List.set_cons_succ]
                  refine wpAnyH_done (by kernel_rfl) ?_ _
                  refine NoPanic.normal ?_
                  refine world_gen (fun W' => Below W3.heap.size W3 W' ∧ W'.heap[(W3.heap.size + 1)]? = some (.cells (vals kl).toArray 23 (0, 0))) ⟨below_setRow ((((Below.refl _ _).drew.alloc (Nat.le_refl _) _).alloc (by simp) _).trans (hb2.mono (by first | (simp; done) | (simp; omega)))) (by first | omega | (simp; done) | (simp; omega) | (have h := hb2.size; simp at h; omega) | (have h := hb2.size; simp at h ⊢; omega)) _, setRow_heap _ _ _ _ _ _ ((hb2.block _ (by first | (simp; done) | (simp; omega))).trans (heap_alloc2_new _ _ _))⟩ (fun W3 hW3 => ?_)
                  have e9 := keyLoad_at hW3.2 HKL.out
                  have e7 := keyLoad_at ((hW3.1.block _ (lt_of_block K7.out)).trans K7.out) HKL.out
                  have e3 := keyLoad_at ((hW3.1.block _ (lt_of_block K3.out)).trans K3.out) HKL.out
                  have HB9 := Lib.hid (HB7.out.trans (hW3.1.mono HB7.out.size))
                  clear hW3
                  go_wp2
                  go_ret
                  exact ⟨ret_bool (by simp), HB9.out⟩
                exact AllReadyH.nil
              exact AllReadyH.nil
            exact AllReadyH.nil
          refine AllReadyH.cons (o := _) rfl (fun K hK => ?_) ?_
          · simp only [List.getElem_toArray, List.getElem_cons_succ, List.getElem_cons_zero]
            rw [if_pos (by rfl)]
            refine wp_key_alloc (by rfl) ?_
            refine hK.out _ _ ?_ (fun hHeld => ?_)
            · exact (Below.refl _ _).drew.alloc (Nat.le_refl _) _
            clear hK K
            try simp only [Act.put, List.setIfInBounds_toArray, List.set_cons_zero, List.set_cons_succ]
            refine wpAnyH_ready (rs := [9]) (by kernel_rfl) (by simp) ?_
            refine AllReadyH.cons (o := _) rfl (fun K hK => ?_) ?_
            · simp only [List.getElem_toArray, List.getElem_cons_succ, List.getElem_cons_zero]
              rw [if_pos (by rfl)]
              refine wp_shares3 (.tmp 53) (.tmp 56) (.tmp 59) (by rfl) l1 l0 l2 (by rfl) (by rfl) (by rfl) hl1 hl0 hl2 ?_
              refine hK.out _ _ ?_ (fun hHeld => ?_)
              · exact ((Below.refl _ _).drew.alloc (Nat.le_refl _) _).alloc (by simp) _
              clear hK K
              try simp only [Act.put, List.setIfInBounds_toArray, List.set_cons_zero, List.set_cons_succ]
              refine wpAnyH_ready (rs := [10]) (by kernel_rfl) (by simp) ?_
              refine AllReadyH.cons (o := _) rfl (fun K hK => ?_) ?_
              · simp only [List.getElem_toArray, List.getElem_cons_succ, List.getElem_cons_zero]
                go_simp
                go_at_call 20
                refine Calls.mono (HC2.out _ _ ?_) ?_
                · exact (heap_alloc2_new _ _ _)
                rintro e w2 ⟨rfl, hb2⟩
                refine hK.out _ _ ?_ (fun hHeld => ?_)
                · exact (((Below.refl _ _).drew.alloc (Nat.le_refl _) _).alloc (by simp) _).trans (hb2.mono (by first | (simp; done) | (simp; omega)))
                clear hK K
                try simp only [Act.put, List.setIfInBounds_toArray, List.set_cons_zero, List.set_cons_succ]
                refine wpAnyH_take (i := 11) (v := ?_) rfl (by kernel_rfl) (by kernel_rfl) (by kernel_rfl) (fun _ _ _ h => h) (Or.inl ⟨by rfl, ?_⟩) (by assumption) ?_
                rotate_left
                · intro w hSw; go_simp; try (with_reducible rfl)
                try simp only [List.getElem_toArray, List.getElem_cons_succ, List.getElem_cons_zero, Act.put, List.setIfInBounds_toArray, List.set_cons_zero, List.set_cons_succ]
                refine wpAnyH_take (i := 12) (v := ?_) rfl (by kernel_rfl) (by kernel_rfl) (by kernel_rfl) (fun _ _ _ h => h) (Or.inl ⟨by rfl, ?_⟩) (by assumption) ?_
                rotate_left
                · intro w hSw; go_simp; try (with_reducible rfl)
                try simp only [List.getElem_toArray, List.getElem_cons_succ, List.getElem_cons_zero, Act.put, List.setIfInBounds_toArray, List.set_cons_zero, List.set_cons_succ]
                refine wpAnyH_take (i := 13) (v := ?_) rfl (by kernel_rfl) (by kernel_rfl) (by kernel_rfl) (fun _ _ _ h => h) (Or.inl ⟨by rfl, ?_⟩) (by assumption) ?_
                rotate_left
                · intro w hSw; go_simp; try (with_reducible rfl)
                try simp only [List.getElem_toArray, List.getElem_cons_succ, List.getElem_cons_zero, Act.put, List.setIfInBounds_toArray, List.set_cons_zero, List.set_cons_succ]
                refine wpAnyH_ready (rs := [15]) (by kernel_rfl) (by simp) ?_
                refine AllReadyH.cons (o := _) rfl (fun K hK => ?_) ?_
                · simp only [List.getElem_toArray, List.getElem_cons_succ, List.getElem_cons_zero]
                  rw [if_pos (by rfl)]
                  refine wp_store_row 23 (.tmp 9) (.tmp 62) (by rfl) W3.heap.size (vals kl).toArray (by rfl) (by rfl) 23 (vals (zs 32)).toArray ((hb2.block _ (by first | (simp; done) | (simp; omega))).trans (heap_alloc2_old _ _ _)) (by rw [List.size_toArray, vals_length, HKL.out]; exact key_size) (by simp [vals_length, zs_length, HKL.out]) (u8_all kl) ?_
                  refine hK.out _ _ ?_ (fun hHeld => ?_)
                  · exact below_setRow ((((Below.refl _ _).drew.alloc (Nat.le_refl _) _).alloc (by simp) _).trans (hb2.mono (by first | (simp; done) | (simp; omega)))) (by first | omega | (simp; done) | (simp; omega) | (have h := hb2.size; simp at h; omega) | (have h := hb2.size; simp at h ⊢; omega)) _
                  clear hK K
                  try simp only [Act.put, List.setIfInBounds_toArray, List.set_cons_zero, List.set_cons_succ]
                  refine wpAnyH_take (i := 16) (v := ?_) rfl (by kernel_rfl) (by kernel_rfl) (by kernel_rfl) (fun _ _ _ h => h) (Or.inl ⟨by rfl, ?_⟩) (by assumption) ?_
                  rotate_left
                  · intro w hSw; go_simp; try (with_reducible rfl)
                  try simp only [List.getElem_toArray, List.getElem_cons_succ, List.getElem_cons_zero, Act.put, List.setIfInBounds_toArray, List.set_cons_zero, List.set_cons_succ]
                  refine wpAnyH_done (by kernel_rfl) ?_ _
                  refine NoPanic.normal ?_
                  refine world_gen (fun W' => Below W3.heap.size W3 W' ∧ W'.heap[W3.heap.size]? = some (.cells (vals kl).toArray 23 (0, 0))) ⟨below_setRow ((((Below.refl _ _).drew.alloc (Nat.le_refl _) _).alloc (by simp) _).trans (hb2.mono (by first | (simp; done) | (simp; omega)))) (by first | omega | (simp; done) | (simp; omega) | (have h := hb2.size; simp at h; omega) | (have h := hb2.size; simp at h ⊢; omega)) _, setRow_heap _ _ _ _ _ _ ((hb2.block _ (by first | (simp; done) | (simp; omega))).trans (heap_alloc2_old _ _ _))⟩ (fun W3 hW3 => ?_)
                  have e9 := keyLoad_at hW3.2 HKL.out
                  have e7 := keyLoad_at ((hW3.1.block _ (lt_of_block K7.out)).trans K7.out) HKL.out
                  have e3 := keyLoad_at ((hW3.1.block _ (lt_of_block K3.out)).trans K3.out) HKL.out
                  have HB9 := Lib.hid (HB7.out.trans (hW3.1.mono HB7.out.size))
                  clear hW3
                  go_wp2
                  go_ret
                  exact ⟨ret_bool (by simp), HB9.out⟩
                exact AllReadyH.nil
              exact AllReadyH.nil
            exact AllReadyH.nil
          exact AllReadyH.nil
        exact AllReadyH.nil
      exact AllReadyH.nil
    refine AllReadyH.cons (o := _) rfl (fun K hK => ?_) ?_
    · simp only [List.getElem_toArray, List.getElem_cons_succ, List.getElem_cons_zero]
      rw [if_pos (by rfl)]
      refine wp_key_alloc (by rfl) ?_
      refine hK.out _ _ ?_ (fun hHeld => ?_)
      · exact ((Below.refl _ _).drew.alloc (Nat.le_refl _) _).alloc (by simp) _
      clear hK K
      try simp only [Act.put, List.setIfInBounds_toArray, List.set_cons_zero, List.set_cons_succ]
      refine wpAnyH_ready (rs := [10]) (by kernel_rfl) (by simp) ?_
      refine AllReadyH.cons (o := _) rfl (fun K hK => ?_) ?_
      · simp only [List.getElem_toArray, List.getElem_cons_succ, List.getElem_cons_zero]
        go_simp
        go_at_call 20
        refine Calls.mono (HC1.out _ _ ?_) ?_
        · exact (heap_alloc2_old _ _ _)
        rintro e w2 ⟨rfl, hb2⟩
        refine hK.out _ _ ?_ (fun hHeld => ?_)
        · exact (((Below.refl _ _).drew.alloc (Nat.le_refl _) _).alloc (by simp) _).trans (hb2.mono (by first | (simp; done) | (simp; omega)))
        clear hK K
        try simp only [Act.put, List.setIfInBounds_toArray, List.set_cons_zero, List.set_cons_succ]
        refine wpAnyH_take (i := 11) (v := ?_) rfl (by kernel_rfl) (by kernel_rfl) (by kernel_rfl) (fun _ _ _ h => h) (Or.inl ⟨by rfl, ?_⟩) (by assumption) ?_
        rotate_left
        · intro w hSw; go_simp; try (with_reducible rfl)
        try simp only [List.getElem_toArray, List.getElem_cons_succ, List.getElem_cons_zero, Act.put, List.setIfInBounds_toArray, List.set_cons_zero, List.set_cons_succ]
        refine wpAnyH_take (i := 12) (v := ?_) rfl (by kernel_rfl) (by kernel_rfl) (by kernel_rfl) (fun _ _ _ h => h) (Or.inl ⟨by rfl, ?_⟩) (by assumption) ?_
        rotate_left
        · intro w hSw; go_simp; try (with_reducible rfl)
        try simp only [List.getElem_toArray, List.getElem_cons_succ, List.getElem_cons_zero, Act.put, List.setIfInBounds_toArray, List.set_cons_zero, List.set_cons_succ]
        refine wpAnyH_take (i := 13) (v := ?_) rfl (by kernel_rfl) (by kernel_rfl) (by kernel_rfl) (fun _ _ _ h => h) (Or.inl ⟨by rfl, ?_⟩) (by assumption) ?_
        rotate_left
        · intro w hSw; go_simp; try (with_reducible rfl)
        try simp only [List.getElem_toArray, List.getElem_cons_succ, List.getElem_cons_zero, Act.put, List.setIfInBounds_toArray, List.set_cons_zero, List.set_cons_succ]
        refine wpAnyH_ready (rs := [15]) (by kernel_rfl) (by simp) ?_
        refine AllReadyH.cons (o := _) rfl (fun K hK => ?_) ?_
        · simp only [List.getElem_toArray, List.getElem_cons_succ, List.getElem_cons_zero]
          rw [if_pos (by rfl)]
          refine wp_store_row 23 (.tmp 7) (.tmp 48) (by rfl) (W5.heap.size + 1) (vals kl).toArray (by rfl) (by rfl) 23 (vals (zs 32)).toArray ((hb2.block _ (by first | (simp; done) | (simp; omega))).trans (heap_alloc2_new _ _ _)) (by rw [List.size_toArray, vals_length, HKL.out]; exact key_size) (by simp [vals_length, zs_length, HKL.out]) (u8_all kl) ?_
          refine hK.out _ _ ?_ (fun hHeld => ?_)
          · exact below_setRow ((((Below.refl _ _).drew.alloc (Nat.le_refl _) _).alloc (by simp) _).trans (hb2.mono (by first | (simp; done) | (simp; omega)))) (by first | omega | (simp; done) | (simp; omega) | (have h := hb2.size; simp at h; omega) | (have h := hb2.size; simp at h ⊢; omega)) _
          clear hK K
          try simp only [Act.put, List.setIfInBounds_toArray, List.set_cons_zero, List.set_cons_succ]
          refine wpAnyH_take (i := 16) (v := ?_) rfl (by kernel_rfl) (by kernel_rfl) (by kernel_rfl) (fun _ _ _ h => h) (Or.inl ⟨by rfl, ?_⟩) (by assumption) ?_
          rotate_left
          · intro w hSw; go_simp; try (with_reducible rfl)
          try simp only [List.getElem_toArray, List.getElem_cons_succ, List.getElem_cons_zero, Act.put, List.setIfInBounds_toArray, List.set_cons_zero, List.set_cons_succ]
          refine wpAnyH_done (by kernel_rfl) ?_ _
          refine NoPanic.normal ?_
          refine world_gen (fun W' => Below W5.heap.size W5 W' ∧ W'.heap[(W5.heap.size + 1)]? = some (.cells (vals kl).toArray 23 (0, 0))) ⟨below_setRow ((((Below.refl _ _).drew.alloc (Nat.le_refl _) _).alloc (by simp) _).trans (hb2.mono (by first | (simp; done) | (simp; omega)))) (by first | omega | (simp; done) | (simp; omega) | (have h := hb2.size; simp at h; omega) | (have h := hb2.size; simp at h ⊢; omega)) _, setRow_heap _ _ _ _ _ _ ((hb2.block _ (by first | (simp; done) | (simp; omega))).trans (heap_alloc2_new _ _ _))⟩ (fun W3 hW3 => ?_)
          have HB7 := Lib.hid (HB5.out.trans (hW3.1.mono HB5.out.size))
          have K7 := Lib.hid hW3.2
          have K3 : Hid (W3.heap[g3]? = some (.cells (vals kl).toArray 23 (0, 0))) := (hW3.1.block _ (lt_of_block K5.out)).trans K5.out
          have hr0b := range_below hr0 hW3.1
          have hr1b := range_below hr1 hW3.1
          have hr2b := range_below hr2 hW3.1
          clear hW3
          go_wp2_with fail
          refine wp_region_noPanic ?_
          refine wp_region_held_drew (S := fun W => Below W3.heap.size W3 W) (by kernel_rfl) ((Below.refl _ _).drew) (fun hHeld => ?_)
          refine wpAnyH_take (i := 0) (v := ?_) rfl (by kernel_rfl) (by kernel_rfl) (by kernel_rfl) (fun _ _ _ h => h) (Or.inl ⟨by rfl, ?_⟩) (by assumption) ?_
          rotate_left
          · intro w hSw; go_simp; try (with_reducible rfl)
          try simp only [List.getElem_toArray, List.getElem_cons_succ, List.getElem_cons_zero, Act.put, List.setIfInBounds_toArray, List.set_cons_zero, List.set_cons_succ]
          refine wpAnyH_take (i := 1) (v := ?_) rfl (by kernel_rfl) (by kernel_rfl) (by kernel_rfl) (fun _ _ _ h => h) (Or.inl ⟨by rfl, ?_⟩) (by assumption) ?_
          rotate_left
          · intro w hSw; go_simp; try (with_reducible rfl)
          try simp only [List.getElem_toArray, List.getElem_cons_succ, List.getElem_cons_zero, Act.put, List.setIfInBounds_toArray, List.set_cons_zero, List.set_cons_succ]
          refine' wpAnyH_take (i := 2) (v := _) rfl (by kernel_rfl) (by kernel_rfl) (by kernel_rfl) (fun _ _ _ h => h) (yieldsIf_load_mid (by rfl) _ _ rfl _ _ rfl _ _ (fun W hW => range_below hr1b hW) hu (by rfl) hi1) (by assumption) ?_
          try simp only [List.getElem_toArray, List.getElem_cons_succ, List.getElem_cons_zero, Act.put, List.setIfInBounds_toArray, List.set_cons_zero, List.set_cons_succ]
          refine wpAnyH_take (i := 3) (v := ?_) rfl (by kernel_rfl) (by kernel_rfl) (by kernel_rfl) (fun _ _ _ h => h) (Or.inl ⟨by rfl, ?_⟩) (by assumption) ?_
          rotate_left
          · intro w hSw; go_simp; try (with_reducible rfl)
          try simp only [List.getElem_toArray, List.getElem_cons_succ, List.getElem_cons_zero, Act.put, List.setIfInBounds_toArray, List.set_cons_zero, List.set_cons_succ]
          refine wpAnyH_take (i := 4) (v := ?_) rfl (by kernel_rfl) (by kernel_rfl) (by kernel_rfl) (fun _ _ _ h => h) (Or.inl ⟨by rfl, ?_⟩) (by assumption) ?_
          rotate_left
          · intro w hSw; go_simp; try (with_reducible rfl)
          try simp only [List.getElem_toArray, List.getElem_cons_succ, List.getElem_cons_zero, Act.put, List.setIfInBounds_toArray, List.set_cons_zero, List.set_cons_succ]
          refine' wpAnyH_take (i := 5) (v := _) rfl (by kernel_rfl) (by kernel_rfl) (by kernel_rfl) (fun _ _ _ h => h) (yieldsIf_load_mid (by rfl) _ _ rfl _ _ rfl _ _ (fun W hW => range_below hr0b hW) hu (by rfl) hi0) (by assumption) ?_
          try simp only [List.getElem_toArray, List.getElem_cons_succ, List.getElem_cons_zero, Act.put, List.setIfInBounds_toArray, List.set_cons_zero, List.set_cons_succ]
          refine wpAnyH_take (i := 6) (v := ?_) rfl (by kernel_rfl) (by kernel_rfl) (by kernel_rfl) (fun _ _ _ h => h) (Or.inl ⟨by rfl, ?_⟩) (by assumption) ?_
          rotate_left
          · intro w hSw; go_simp; try (with_reducible rfl)
          try simp only [List.getElem_toArray, List.getElem_cons_succ, List.getElem_cons_zero, Act.put, List.setIfInBounds_toArray, List.set_cons_zero, List.set_cons_succ]
          refine wpAnyH_take (i := 7) (v := ?_) rfl (by kernel_rfl) (by kernel_rfl) (by kernel_rfl) (fun _ _ _ h => h) (Or.inl ⟨by rfl, ?_⟩) (by assumption) ?_
          rotate_left
          · intro w hSw; go_simp; try (with_reducible rfl)
          try simp only [List.getElem_toArray, List.getElem_cons_succ, List.getElem_cons_zero, Act.put, List.setIfInBounds_toArray, List.set_cons_zero, List.set_cons_succ]
          refine' wpAnyH_take (i := 8) (v := _) rfl (by kernel_rfl) (by kernel_rfl) (by kernel_rfl) (fun _ _ _ h => h) (yieldsIf_load_mid (by rfl) _ _ rfl _ _ rfl _ _ (fun W hW => range_below hr2b hW) hu (by rfl) hi2) (by assumption) ?_
          try simp only [List.getElem_toArray, List.getElem_cons_succ, List.getElem_cons_zero, Act.put, List.setIfInBounds_toArray, List.set_cons_zero, List.set_cons_succ]
          refine wpAnyH_ready (rs := [9, 14]) (by kernel_rfl) (by simp) ?_
          refine AllReadyH.cons (o := _) rfl (fun K hK => ?_) ?_
          · simp only [List.getElem_toArray, List.getElem_cons_succ, List.getElem_cons_zero]
            rw [if_pos (by rfl)]
            refine wp_shares3 (.tmp 53) (.tmp 56) (.tmp 59) (by rfl) l1 l0 l2 (by rfl) (by rfl) (by rfl) hl1 hl0 hl2 ?_
            refine hK.out _ _ ?_ (fun hHeld => ?_)
            · exact (Below.refl _ _).drew.alloc (Nat.le_refl _) _
            clear hK K
            try simp only [Act.put, List.setIfInBounds_toArray, List.set_cons_zero, List.set_cons_succ]
            refine wpAnyH_ready (rs := [10, 14]) (by kernel_rfl) (by simp) ?_
            refine AllReadyH.cons (o := _) rfl (fun K hK => ?_) ?_
            · simp only [List.getElem_toArray, List.getElem_cons_succ, List.getElem_cons_zero]
              go_simp
              go_at_call 20
              refine Calls.mono (HC2.out _ _ ?_) ?_
              · exact (heap_at _ _ _ rfl)
              rintro e w2 ⟨rfl, hb2⟩
              refine hK.out _ _ ?_ (fun hHeld => ?_)
              · exact ((Below.refl _ _).drew.alloc (Nat.le_refl _) _).trans (hb2.mono (by first | (simp; done) | (simp; omega)))
              clear hK K
              try simp only [Act.put, List.setIfInBounds_toArray, List.set_cons_zero, List.set_cons_succ]
              refine wpAnyH_take (i := 11) (v := ?_) rfl (by kernel_rfl) (by kernel_rfl) (by kernel_rfl) (fun _ _ _ h => h) (Or.inl ⟨by rfl, ?_⟩) (by assumption) ?_
              rotate_left
              · intro w hSw; go_simp; try (with_reducible rfl)
              try simp only [List.getElem_toArray, List.getElem_cons_succ, List.getElem_cons_zero, Act.put, List.setIfInBounds_toArray, List.set_cons_zero, List.set_cons_succ]
              refine wpAnyH_take (i := 12) (v := ?_) rfl (by kernel_rfl) (by kernel_rfl) (by kernel_rfl) (fun _ _ _ h => h) (Or.inl ⟨by rfl, ?_⟩) (by assumption) ?_
              rotate_left
              · intro w hSw; go_simp; try (with_reducible rfl)
              try simp only [List.getElem_toArray, List.getElem_cons_succ, List.getElem_cons_zero, Act.put, List.setIfInBounds_toArray, List.set_cons_zero, List.set_cons_succ]
              refine wpAnyH_take (i := 13) (v := ?_) rfl (by kernel_rfl) (by kernel_rfl) (by kernel_rfl) (fun _ _ _ h => h) (Or.inl ⟨by rfl, ?_⟩) (by assumption) ?_
              rotate_left
              · intro w hSw; go_simp; try (with_reducible rfl)
              try simp only [List.getElem_toArray, List.getElem_cons_succ, List.getElem_cons_zero, Act.put, List.setIfInBounds_toArray, List.set_cons_zero, List.set_cons_succ]
              refine wpAnyH_ready (rs := [14]) (by kernel_rfl) (by simp) ?_
              refine AllReadyH.cons (o := _) rfl (fun K hK => ?_) ?_
              · simp only [List.getElem_toArray, List.getElem_cons_succ, List.getElem_cons_zero]
                rw [if_pos (by rfl)]
                refine wp_key_alloc (by rfl) ?_
                refine hK.out _ _ ?_ (fun hHeld => ?_)
                · exact (((Below.refl _ _).drew.alloc (Nat.le_refl _) _).trans (hb2.mono (by first | (simp; done) | (simp; omega)))).alloc (by first | omega | (simp; done) | (simp; omega) | (have h := hb2.size; simp at h; omega) | (have h := hb2.size; simp at h ⊢; omega)) _
                clear hK K
                try simp only [Act.put, List.setIfInBounds_toArray, List.set_cons_zero, List.set_cons_succ]
                refine wpAnyH_ready (rs := [15]) (by kernel_rfl) (by simp) ?_
                refine AllReadyH.cons (o := _) rfl (fun K hK => ?_) ?_
                · simp only [List.getElem_toArray, List.getElem_cons_succ, List.getElem_cons_zero]
                  rw [if_pos (by rfl)]
                  refine wp_store_row 23 (.tmp 9) (.tmp 62) (by rfl) w2.heap.size (vals kl).toArray (by rfl) (by rfl) 23 (vals (zs 32)).toArray (heap_at _ _ _ rfl) (by rw [List.size_toArray, vals_length, HKL.out]; exact key_size) (by simp [vals_length, zs_length, HKL.out]) (u8_all kl) ?_
                  refine hK.out _ _ ?_ (fun hHeld => ?_)
                  · exact below_setRow ((((Below.refl _ _).drew.alloc (Nat.le_refl _) _).trans (hb2.mono (by first | (simp; done) | (simp; omega)))).alloc (by first | omega | (simp; done) | (simp; omega) | (have h := hb2.size; simp at h; omega) | (have h := hb2.size; simp at h ⊢; omega)) _) (by first | omega | (simp; done) | (simp; omega) | (have h := hb2.size; simp at h; omega) | (have h := hb2.size; simp at h ⊢; omega)) _
                  clear hK K
                  try simp only [Act.put, List.setIfInBounds_toArray, List.set_cons_zero, List.set_cons_succ]
                  refine wpAnyH_take (i := 16) (v := ?_) rfl (by kernel_rfl) (by kernel_rfl) (by kernel_rfl) (fun _ _ _ h => h) (Or.inl ⟨by rfl, ?_⟩) (by assumption) ?_
                  rotate_left
                  · intro w hSw; go_simp; try (with_reducible rfl)
                  try simp only [List.getElem_toArray, List.getElem_cons_succ, List.getElem_cons_zero, Act.put, List.setIfInBounds_toArray, List.set_cons_zero, List.set_cons_succ]
                  refine wpAnyH_done (by kernel_rfl) ?_ _
                  refine NoPanic.normal ?_
                  refine world_gen (fun W' => Below W3.heap.size W3 W' ∧ W'.heap[w2.heap.size]? = some (.cells (vals kl).toArray 23 (0, 0))) ⟨below_setRow ((((Below.refl _ _).drew.alloc (Nat.le_refl _) _).trans (hb2.mono (by first | (simp; done) | (simp; omega)))).alloc (by first | omega | (simp; done) | (simp; omega) | (have h := hb2.size; simp at h; omega) | (have h := hb2.size; simp at h ⊢; omega)) _) (by first | omega | (simp; done) | (simp; omega) | (have h := hb2.size; simp at h; omega) | (have h := hb2.size; simp at h ⊢; omega)) _, setRow_heap _ _ _ _ _ _ (heap_at _ _ _ rfl)⟩ (fun W3 hW3 => ?_)
                  have e9 := keyLoad_at hW3.2 HKL.out
                  have e7 := keyLoad_at ((hW3.1.block _ (lt_of_block K7.out)).trans K7.out) HKL.out
                  have e3 := keyLoad_at ((hW3.1.block _ (lt_of_block K3.out)).trans K3.out) HKL.out
                  have HB9 := Lib.hid (HB7.out.trans (hW3.1.mono HB7.out.size))
                  clear hW3
                  go_wp2
                  go_ret
                  exact ⟨ret_bool (by simp), HB9.out⟩
                exact AllReadyH.nil
              exact AllReadyH.nil
            refine AllReadyH.cons (o := _) rfl (fun K hK => ?_) ?_
            · simp only [List.getElem_toArray, List.getElem_cons_succ, List.getElem_cons_zero]
              rw [if_pos (by rfl)]
              refine wp_key_alloc (by rfl) ?_
              refine hK.out _ _ ?_ (fun hHeld => ?_)
              · exact ((Below.refl _ _).drew.alloc (Nat.le_refl _) _).alloc (by simp) _
              clear hK K
              try simp only [Act.put, List.setIfInBounds_toArray, List.set_cons_zero, List.set_cons_succ]
              refine wpAnyH_ready (rs := [10]) (by kernel_rfl) (by simp) ?_
              refine AllReadyH.cons (o := _) rfl (fun K hK => ?_) ?_
              · simp only [List.getElem_toArray, List.getElem_cons_succ, List.getElem_cons_zero]
                go_simp
                go_at_call 20
                refine Calls.mono (HC2.out _ _ ?_) ?_
                · exact (heap_alloc2_old _ _ _)
                rintro e w2 ⟨rfl, hb2⟩
                refine hK.out _ _ ?_ (fun hHeld => ?_)
                · exact (((Below.refl _ _).drew.alloc (Nat.le_refl _) _).alloc (by simp) _).trans (hb2.mono (by first | (simp; done) | (simp; omega)))
                clear hK K
                try simp only [Act.put, List.setIfInBounds_toArray, List.set_cons_zero, List.set_cons_succ]
                refine wpAnyH_take (i := 11) (v := ?_) rfl (by kernel_rfl) (by kernel_rfl) (by kernel_rfl) (fun _ _ _ h => h) (Or.inl ⟨by rfl, ?_⟩) (by assumption) ?_
                rotate_left
                · intro w hSw; go_simp; try (with_reducible rfl)
                try simp only [List.getElem_toArray, List.getElem_cons_succ, List.getElem_cons_zero, Act.put, List.setIfInBounds_toArray, List.set_cons_zero, List.set_cons_succ]
                refine wpAnyH_take (i := 12) (v := ?_) rfl (by kernel_rfl) (by kernel_rfl) (by kernel_rfl) (fun _ _ _ h => h) (Or.inl ⟨by rfl, ?_⟩) (by assumption) ?_
                rotate_left
                · intro w hSw; go_simp; try (with_reducible rfl)
                try simp only [List.getElem_toArray, List.getElem_cons_succ, List.getElem_cons_zero, Act.put, List.setIfInBounds_toArray, List.set_cons_zero, List.set_cons_succ]
                refine wpAnyH_take (i := 13) (v := ?_) rfl (by kernel_rfl) (by kernel_rfl) (by kernel_rfl) (fun _ _ _ h => h) (Or.inl ⟨by rfl, ?_⟩) (by assumption) ?_
                rotate_left
                · intro w hSw; go_simp; try (with_reducible rfl)
                try simp only [List.getElem_toArray, List.getElem_cons_succ, List.getElem_cons_zero, Act.put, List.setIfInBounds_toArray, List.set_cons_zero, List.set_cons_succ]
                refine wpAnyH_ready (rs := [15]) (by kernel_rfl) (by simp) ?_
                refine AllReadyH.cons (o := _) rfl (fun K hK => ?_) ?_
                · simp only [List.getElem_toArray, List.getElem_cons_succ, List.getElem_cons_zero]
                  rw [if_pos (by rfl)]
                  refine wp_store_row 23 (.tmp 9) (.tmp 62) (by rfl) (W3.heap.size + 1) (vals kl).toArray (by rfl) (by rfl) 23 (vals (zs 32)).toArray ((hb2.block _ (by first | (simp; done) | (simp; omega))).trans (heap_alloc2_new _ _ _)) (by rw [List.size_toArray, vals_length, HKL.out]; exact key_size) (by simp [vals_length, zs_length, HKL.out]) (u8_all kl) ?_
                  refine hK.out _ _ ?_ (fun hHeld => ?_)
                  · exact below_setRow ((((Below.refl _ _).drew.alloc (Nat.le_refl _) _).alloc (by simp) _).trans (hb2.mono (by first | (simp; done) | (simp; omega)))) (by first | omega | (simp; done) | (simp; omega) | (have h := hb2.size; simp at h; omega) | (have h := hb2.size; simp at h ⊢; omega)) _
                  clear hK K
                  try simp only [Act.put, List.setIfInBounds_toArray, List.set_cons_zero, List.set_cons_succ]
                  refine wpAnyH_take (i := 16) (v := ?_) rfl (by kernel_rfl) (by kernel_rfl) (by kernel_rfl) (fun _ _ _ h => h) (Or.inl ⟨by rfl, ?_⟩) (by assumption) ?_
                  rotate_left
                  · intro w hSw; go_simp; try (with_reducible rfl)
                  try simp only [List.getElem_toArray, List.getElem_cons_succ, List.getElem_cons_zero, Act.put, List.setIfInBounds_toArray, List.set_cons_zero, List.set_cons_succ]
                  refine wpAnyH_done (by kernel_rfl) ?_ _
                  refine NoPanic.normal ?_
                  refine world_gen (fun W' => Below W3.heap.size W3 W' ∧ W'.heap[(W3.heap.size + 1)]? = some (.cells (vals kl).toArray 23 (0, 0))) ⟨below_setRow ((((Below.refl _ _).drew.alloc (Nat.le_refl _) _).alloc (by simp) _).trans (hb2.mono (by first | (simp; done) | (simp; omega)))) (by first | omega | (simp; done) | (simp; omega) | (have h := hb2.size; simp at h; omega) | (have h := hb2.size; simp at h ⊢; omega)) _, setRow_heap _ _ _ _ _ _ ((hb2.block _ (by first | (simp; done) | (simp; omega))).trans (heap_alloc2_new _ _ _))⟩ (fun W3 hW3 => ?_)
                  have e9 := keyLoad_at hW3.2 HKL.out
                  have e7 := keyLoad_at ((hW3.1.block _ (lt_of_block K7.out)).trans K7.out) HKL.out
                  have e3 := keyLoad_at ((hW3.1.block _ (lt_of_block K3.out)).trans K3.out) HKL.out
                  have HB9 := Lib.hid (HB7.out.trans (hW3.1.mono HB7.out.size))
                  clear hW3
                  go_wp2
                  go_ret
                  exact ⟨ret_bool (by simp), HB9.out⟩
                exact AllReadyH.nil
              exact AllReadyH.nil
            exact AllReadyH.nil
          refine AllReadyH.cons (o := _) rfl (fun K hK => ?_) ?_
          · simp only [List.getElem_toArray, List.getElem_cons_succ, List.getElem_cons_zero]
            rw [if_pos (by rfl)]
            refine wp_key_alloc (by rfl) ?_
            refine hK.out _ _ ?_ (fun hHeld => ?_)
            · exact (Below.refl _ _).drew.alloc (Nat.le_refl _) _
            clear hK K
            try simp only [Act.put, List.setIfInBounds_toArray, List.set_cons_zero, List.set_cons_succ]
            refine wpAnyH_ready (rs := [9]) (by kernel_rfl) (by simp) ?_
            refine AllReadyH.cons (o := _) rfl (fun K hK => ?_) ?_
            · simp only [List.getElem_toArray, List.getElem_cons_succ, List.getElem_cons_zero]
              rw [if_pos (by rfl)]
              refine wp_shares3 (.tmp 53) (.tmp 56) (.tmp 59) (by rfl) l1 l0 l2 (by rfl) (by rfl) (by rfl) hl1 hl0 hl2 ?_
              refine hK.out _ _ ?_ (fun hHeld => ?_)
              · exact ((Below.refl _ _).drew.alloc (Nat.le_refl _) _).alloc (by simp) _
              clear hK K
              try simp only [Act.put, List.setIfInBounds_toArray, List.set_cons_zero, List.set_cons_succ]
              refine wpAnyH_ready (rs := [10]) (by kernel_rfl) (by simp) ?_
              refine AllReadyH.cons (o := _) rfl (fun K hK => ?_) ?_
              · simp only [List.getElem_toArray, List.getElem_cons_succ, List.getElem_cons_zero]
                go_simp
                go_at_call 20
                refine Calls.mono (HC2.out _ _ ?_) ?_
                · exact (heap_alloc2_new _ _ _)
                rintro e w2 ⟨rfl, hb2⟩
                refine hK.out _ _ ?_ (fun hHeld => ?_)
                · exact (((Below.refl _ _).drew.alloc (Nat.le_refl _) _).alloc (by simp) _).trans (hb2.mono (by first | (simp; done) | (simp; omega)))
                clear hK K
                try simp only [Act.put, List.setIfInBounds_toArray, List.set_cons_zero, List.set_cons_succ]
                refine wpAnyH_take (i := 11) (v := ?_) rfl (by kernel_rfl) (by kernel_rfl) (by kernel_rfl) (fun _ _ _ h => h) (Or.inl ⟨by rfl, ?_⟩) (by assumption) ?_
                rotate_left
                · intro w hSw; go_simp; try (with_reducible rfl)
                try simp only [List.getElem_toArray, List.getElem_cons_succ, List.getElem_cons_zero, Act.put, List.setIfInBounds_toArray, List.set_cons_zero, List.set_cons_succ]
                refine wpAnyH_take (i := 12) (v := ?_) rfl (by kernel_rfl) (by kernel_rfl) (by kernel_rfl) (fun _ _ _ h => h) (Or.inl ⟨by rfl, ?_⟩) (by assumption) ?_
                rotate_left
                · intro w hSw; go_simp; try (with_reducible rfl)
                try simp only [List.getElem_toArray, List.getElem_cons_succ, List.getElem_cons_zero, Act.put, List.setIfInBounds_toArray, List.set_cons_zero, List.set_cons_succ]
                refine wpAnyH_take (i := 13) (v := ?_) rfl (by kernel_rfl) (by kernel_rfl) (by kernel_rfl) (fun _ _ _ h => h) (Or.inl ⟨by rfl, ?_⟩) (by assumption) ?_
                rotate_left
                · intro w hSw; go_simp; try (with_reducible rfl)
                try simp only [List.getElem_toArray, List.getElem_cons_succ, List.getElem_cons_zero, Act.put, List.setIfInBounds_toArray, List.set_cons_zero, List.set_cons_succ]
                refine wpAnyH_ready (rs := [15]) (by kernel_rfl) (by simp) ?_
                refine AllReadyH.cons (o := _) rfl (fun K hK => ?_) ?_
                · simp only [List.getElem_toArray, List.getElem_cons_succ, List.getElem_cons_zero]
                  rw [if_pos (by rfl)]
                  refine wp_store_row 23 (.tmp 9) (.tmp 62) (by rfl) W3.heap.size (vals kl).toArray (by rfl) (by rfl) 23 (vals (zs 32)).toArray ((hb2.block _ (by first | (simp; done) | (simp; omega))).trans (heap_alloc2_old _ _ _)) (by rw [List.size_toArray, vals_length, HKL.out]; exact key_size) (by simp [vals_length, zs_length, HKL.out]) (u8_all kl) ?_
                  refine hK.out _ _ ?_ (fun hHeld => ?_)
                  · exact below_setRow ((((Below.refl _ _).drew.alloc (Nat.le_refl _) _).alloc (by simp) _).trans (hb2.mono (by first | (simp; done) | (simp; omega)))) (by first | omega | (simp; done) | (simp; omega) | (have h := hb2.size; simp at h; omega) | (have h := hb2.size; simp at h ⊢; omega)) _
                  clear hK K
                  try simp only [Act.put, List.setIfInBounds_toArray, List.set_cons_zero, List.set_cons_succ]
                  refine wpAnyH_take (i := 16) (v := ?_) rfl (by kernel_rfl) (by kernel_rfl) (by kernel_rfl) (fun _ _ _ h => h) (Or.inl ⟨by rfl, ?_⟩) (by assumption) ?_
                  rotate_left
                  · intro w hSw; go_simp; try (with_reducible rfl)
                  try simp only [List.getElem_toArray, List.getElem_cons_succ, List.getElem_cons_zero, Act.put, List.setIfInBounds_toArray, List.set_cons_zero, List.set_cons_succ]
                  refine wpAnyH_done (by kernel_rfl) ?_ _
                  refine NoPanic.normal ?_
                  refine world_gen (fun W' => Below W3.heap.size W3 W' ∧ W'.heap[W3.heap.size]? = some (.cells (vals kl).toArray 23 (0, 0))) ⟨below_setRow ((((Below.refl _ _).drew.alloc (Nat.le_refl _) _).alloc (by simp) _).trans (hb2.mono (by first | (simp; done) | (simp; omega)))) (by first | omega | (simp; done) | (simp; omega) | (have h := hb2.size; simp at h; omega) | (have h := hb2.size; simp at h ⊢; omega)) _, setRow_heap _ _ _ _ _ _ ((hb2.block _ (by first | (simp; done) | (simp; omega))).trans (heap_alloc2_old _ _ _))⟩ (fun W3 hW3 => ?_)
                  have e9 := keyLoad_at hW3.2 HKL.out
                  have e7 := keyLoad_at ((hW3.1.block _ (lt_of_block K7.out)).trans K7.out) HKL.out
                  have e3 := keyLoad_at ((hW3.1.block _ (lt_of_block K3.out)).trans K3.out) HKL.out
                  have HB9 := Lib.hid (HB7.out.trans (hW3.1.mono HB7.out.size))
                  clear hW3
                  go_wp2
                  go_ret
                  exact ⟨ret_bool (by simp), HB9.out⟩
                exact AllReadyH.nil
              exact AllReadyH.nil
            exact AllReadyH.nil
          exact AllReadyH.nil
        exact AllReadyH.nil
      exact AllReadyH.nil
    exact AllReadyH.nil
  refine AllReadyH.cons (o := _) rfl (fun K hK => ?_) ?_
  · simp only [List.getElem_toArray, List.getElem_cons_succ, List.getElem_cons_zero]
    rw [if_pos (by rfl)]
    refine wp_key_alloc (by rfl) ?_
    refine hK.out _ _ ?_ (fun hHeld => ?_)
    · exact (Below.refl _ _).drew.alloc (Nat.le_refl _) _
    clear hK K
    try simp only [Act.put, List.setIfInBounds_toArray, List.set_cons_zero, List.set_cons_succ]
    refine wpAnyH_ready (rs := [9]) (by kernel_rfl) (by simp) ?_
    refine AllReadyH.cons (o := _) rfl (fun K hK => ?_) ?_
    · simp only [List.getElem_toArray, List.getElem_cons_succ, List.getElem_cons_zero]
      rw [if_pos (by rfl)]
      refine wp_shares3 (.tmp 39) (.tmp 42) (.tmp 45) (by rfl) l2 l0 l1 (by rfl) (by rfl) (by rfl) hl2 hl0 hl1 ?_
      refine hK.out _ _ ?_ (fun hHeld => ?_)
      · exact ((Below.refl _ _).drew.alloc (Nat.le_refl _) _).alloc (by simp) _
      clear hK K
      try simp only [Act.put, List.setIfInBounds_toArray, List.set_cons_zero, List.set_cons_succ]
      refine wpAnyH_ready (rs := [10]) (by kernel_rfl) (by simp) ?_
      refine AllReadyH.cons (o := _) rfl (fun K hK => ?_) ?_
      · simp only [List.getElem_toArray, List.getElem_cons_succ, List.getElem_cons_zero]
        go_simp
        go_at_call 20
        refine Calls.mono (HC1.out _ _ ?_) ?_
        · exact (heap_alloc2_new _ _ _)
        rintro e w2 ⟨rfl, hb2⟩
        refine hK.out _ _ ?_ (fun hHeld => ?_)
        · exact (((Below.refl _ _).drew.alloc (Nat.le_refl _) _).alloc (by simp) _).trans (hb2.mono (by first | (simp; done) | (simp; omega)))
        clear hK K
        try simp only [Act.put, List.setIfInBounds_toArray, List.set_cons_zero, List.set_cons_succ]
        refine wpAnyH_take (i := 11) (v := ?_) rfl (by kernel_rfl) (by kernel_rfl) (by kernel_rfl) (fun _ _ _ h => h) (Or.inl ⟨by rfl, ?_⟩) (by assumption) ?_
        rotate_left
        · intro w hSw; go_simp; try (with_reducible rfl)
        try simp only [List.getElem_toArray, List.getElem_cons_succ, List.getElem_cons_zero, Act.put, List.setIfInBounds_toArray, List.set_cons_zero, List.set_cons_succ]
        refine wpAnyH_take (i := 12) (v := ?_) rfl (by kernel_rfl) (by kernel_rfl) (by kernel_rfl) (fun _ _ _ h => h) (Or.inl ⟨by rfl, ?_⟩) (by assumption) ?_
        rotate_left
        · intro w hSw; go_simp; try (with_reducible rfl)
        try simp only [List.getElem_toArray, List.getElem_cons_succ, List.getElem_cons_zero, Act.put, List.setIfInBounds_toArray, List.set_cons_zero, List.set_cons_succ]
        refine wpAnyH_take (i := 13) (v := ?_) rfl (by kernel_rfl) (by kernel_rfl) (by kernel_rfl) (fun _ _ _ h => h) (Or.inl ⟨by rfl, ?_⟩) (by assumption) ?_
        rotate_left
        · intro w hSw; go_simp; try (with_reducible rfl)
        try simp only [List.getElem_toArray, List.getElem_cons_succ, List.getElem_cons_zero, Act.put, List.setIfInBounds_toArray, List.set_cons_zero, List.set_cons_succ]
        refine wpAnyH_ready (rs := [15]) (by kernel_rfl) (by simp) ?_
        refine AllReadyH.cons (o := _) rfl (fun K hK => ?_) ?_
        · simp only [List.getElem_toArray, List.getElem_cons_succ, List.getElem_cons_zero]
          rw [if_pos (by rfl)]
          refine wp_store_row 23 (.tmp 7) (.tmp 48) (by rfl) W5.heap.size (vals kl).toArray (by rfl) (by rfl) 23 (vals (zs 32)).toArray ((hb2.block _ (by first | (simp; done) | (simp; omega))).trans (heap_alloc2_old _ _ _)) (by rw [List.size_toArray, vals_length, HKL.out]; exact key_size) (by simp [vals_length, zs_length, HKL.out]) (u8_all kl) ?_
          refine hK.out _ _ ?_ (fun hHeld => ?_)
          · exact below_setRow ((((Below.refl _ _).drew.alloc (Nat.le_refl _) _).alloc (by simp) _).trans (hb2.mono (by first | (simp; done) | (simp; omega)))) (by first | omega | (simp; done) | (simp; omega) | (have h := hb2.size; simp at h; omega) | (have h := hb2.size; simp at h ⊢; omega)) _
          clear hK K
          try simp only [Act.put, List.setIfInBounds_toArray, List.set_cons_zero, List.set_cons_succ]
          refine wpAnyH_take (i := 16) (v := ?_) rfl (by kernel_rfl) (by kernel_rfl) (by kernel_rfl) (fun _ _ _ h => h) (Or.inl ⟨by rfl, ?_⟩) (by assumption) ?_
          rotate_left
          · intro w hSw; go_simp; try (with_reducible rfl)
          try simp only [List.getElem_toArray, List.getElem_cons_succ, List.getElem_cons_zero, Act.put, List.setIfInBounds_toArray, List.set_cons_zero, List.set_cons_succ]
          refine wpAnyH_done (by kernel_rfl) ?_ _
          refine NoPanic.normal ?_
          refine world_gen (fun W' => Below W5.heap.size W5 W' ∧ W'.heap[W5.heap.size]? = some (.cells (vals kl).toArray 23 (0, 0))) ⟨below_setRow ((((Below.refl _ _).drew.alloc (Nat.le_refl _) _).alloc (by simp) _).trans (hb2.mono (by first | (simp; done) | (simp; omega)))) (by first | omega | (simp; done) | (simp; omega) | (have h := hb2.size; simp at h; omega) | (have h := hb2.size; simp at h ⊢; omega)) _, setRow_heap _ _ _ _ _ _ ((hb2.block _ (by first | (simp; done) | (simp; omega))).trans (heap_alloc2_old _ _ _))⟩ (fun W3 hW3 => ?_)
          have HB7 := Lib.hid (HB5.out.trans (hW3.1.mono HB5.out.size))
          have K7 := Lib.hid hW3.2
          have K3 : Hid (W3.heap[g3]? = some (.cells (vals kl).toArray 23 (0, 0))) := (hW3.1.block _ (lt_of_block K5.out)).trans K5.out
          have hr0b := range_below hr0 hW3.1
          have hr1b := range_below hr1 hW3.1
          have hr2b := range_below hr2 hW3.1
          clear hW3
          go_wp2_with fail
          refine wp_region_noPanic ?_
          refine wp_region_held_drew (S := fun W => Below W3.heap.size W3 W) (by kernel_rfl) ((Below.refl _ _).drew) (fun hHeld => ?_)
          refine wpAnyH_take (i := 0) (v := ?_) rfl (by kernel_rfl) (by kernel_rfl) (by kernel_rfl) (fun _ _ _ h => h) (Or.inl ⟨by rfl, ?_⟩) (by assumption) ?_
          rotate_left
          · intro w hSw; go_simp; try (with_reducible rfl)
          try simp only [List.getElem_toArray, List.getElem_cons_succ, List.getElem_cons_zero, Act.put, List.setIfInBounds_toArray, List.set_cons_zero, List.set_cons_succ]
          refine wpAnyH_take (i := 1) (v := ?_) rfl (by kernel_rfl) (by kernel_rfl) (by kernel_rfl) (fun _ _ _ h => h) (Or.inl ⟨by rfl, ?_⟩) (by assumption) ?_
          rotate_left
          · intro w hSw; go_simp; try (with_reducible rfl)
          try simp only [List.getElem_toArray, List.getElem_cons_succ, List.getElem_cons_zero, Act.put, List.setIfInBounds_toArray, List.set_cons_zero, List.set_cons_succ]
          refine' wpAnyH_take (i := 2) (v := _) rfl (by kernel_rfl) (by kernel_rfl) (by kernel_rfl) (fun _ _ _ h => h) (yieldsIf_load_mid (by rfl) _ _ rfl _ _ rfl _ _ (fun W hW => range_below hr1b hW) hu (by rfl) hi1) (by assumption) ?_
          try simp only [List.getElem_toArray, List.getElem_cons_succ, List.getElem_cons_zero, Act.put, List.setIfInBounds_toArray, List.set_cons_zero, List.set_cons_succ]
          refine wpAnyH_take (i := 3) (v := ?_) rfl (by kernel_rfl) (by kernel_rfl) (by kernel_rfl) (fun _ _ _ h => h) (Or.inl ⟨by rfl, ?_⟩) (by assumption) ?_
          rotate_left
          · intro w hSw; go_simp; try (with_reducible rfl)
          try simp only [List.getElem_toArray, List.getElem_cons_succ, List.getElem_cons_zero, Act.put, List.setIfInBounds_toArray, List.set_cons_zero, List.set_cons_succ]
          refine wpAnyH_take (i := 4) (v := ?_) rfl (by kernel_rfl) (by kernel_rfl) (by kernel_rfl) (fun _ _ _ h => h) (Or.inl ⟨by rfl, ?_⟩) (by assumption) ?_
          rotate_left
          · intro w hSw; go_simp; try (with_reducible rfl)
          try simp only [List.getElem_toArray, List.getElem_cons_succ, List.getElem_cons_zero, Act.put, List.setIfInBounds_toArray, List.set_cons_zero, List.set_cons_succ]
          refine' wpAnyH_take (i := 5) (v := _) rfl (by kernel_rfl) (by kernel_rfl) (by kernel_rfl) (fun _ _ _ h => h) (yieldsIf_load_mid (by rfl) _ _ rfl _ _ rfl _ _ (fun W hW => range_below hr0b hW) hu (by rfl) hi0) (by assumption) ?_
          try simp only [List.getElem_toArray, List.getElem_cons_succ, List.getElem_cons_zero, Act.put, List.setIfInBounds_toArray, List.set_cons_zero, List.set_cons_succ]
          refine wpAnyH_take (i := 6) (v := ?_) rfl (by kernel_rfl) (by kernel_rfl) (by kernel_rfl) (fun _ _ _ h => h) (Or.inl ⟨by rfl, ?_⟩) (by assumption) ?_
          rotate_left
          · intro w hSw; go_simp; try (with_reducible rfl)
          try simp only [List.getElem_toArray, List.getElem_cons_succ, List.getElem_cons_zero, Act.put, List.setIfInBounds_toArray, List.set_cons_zero, List.set_cons_succ]
          refine wpAnyH_take (i := 7) (v := ?_) rfl (by kernel_rfl) (by kernel_rfl) (by kernel_rfl) (fun _ _ _ h => h) (Or.inl ⟨by rfl, ?_⟩) (by assumption) ?_
          rotate_left
          · intro w hSw; go_simp; try (with_reducible rfl)
          try simp only [List.getElem_toArray, List.getElem_cons_succ, List.getElem_cons_zero, Act.put, List.setIfInBounds_toArray, List.set_cons_zero, List.set_cons_succ]
          refine' wpAnyH_take (i := 8) (v := _) rfl (by kernel_rfl) (by kernel_rfl) (by kernel_rfl) (fun _ _ _ h => h) (yieldsIf_load_mid (by rfl) _ _ rfl _ _ rfl _ _ (fun W hW => range_below hr2b hW) hu (by rfl) hi2) (by assumption) ?_
          try simp only [List.getElem_toArray, List.getElem_cons_succ, List.getElem_cons_zero, Act.put, List.setIfInBounds_toArray, List.set_cons_zero, List.set_cons_succ]
          refine wpAnyH_ready (rs := [9, 14]) (by kernel_rfl) (by simp) ?_
          refine AllReadyH.cons (o := _) rfl (fun K hK => ?_) ?_
          · simp only [List.getElem_toArray, List.getElem_cons_succ, List.getElem_cons_zero]
            rw [if_pos (by rfl)]
            refine wp_shares3 (.tmp 53) (.tmp 56) (.tmp 59) (by rfl) l1 l0 l2 (by rfl) (by rfl) (by rfl) hl1 hl0 hl2 ?_
            refine hK.out _ _ ?_ (fun hHeld => ?_)
            · exact (Below.refl _ _).drew.alloc (Nat.le_refl _) _
            clear hK K
            try simp only [Act.put, List.setIfInBounds_toArray, List.set_cons_zero, List.set_cons_succ]
            refine wpAnyH_ready (rs := [10, 14]) (by kernel_rfl) (by simp) ?_
            refine AllReadyH.cons (o := _) rfl (fun K hK => ?_) ?_
            · simp only [List.getElem_toArray, List.getElem_cons_succ, List.getElem_cons_zero]
              go_simp
              go_at_call 20
              refine Calls.mono (HC2.out _ _ ?_) ?_
              · exact (heap_at _ _ _ rfl)
              rintro e w2 ⟨rfl, hb2⟩
              refine hK.out _ _ ?_ (fun hHeld => ?_)
              · exact ((Below.refl _ _).drew.alloc (Nat.le_refl _) _).trans (hb2.mono (by first | (simp; done) | (simp; omega)))
              clear hK K
              try simp only [Act.put, List.setIfInBounds_toArray, List.set_cons_zero, List.set_cons_succ]
              refine wpAnyH_take (i := 11) (v := ?_) rfl (by kernel_rfl) (by kernel_rfl) (by kernel_rfl) (fun _ _ _ h => h) (Or.inl ⟨by rfl, ?_⟩) (by assumption) ?_
              rotate_left
              · intro w hSw; go_simp; try (with_reducible rfl)
              try simp only [List.getElem_toArray, List.getElem_cons_succ, List.getElem_cons_zero, Act.put, List.setIfInBounds_toArray, List.set_cons_zero, List.set_cons_succ]
              refine wpAnyH_take (i := 12) (v := ?_) rfl (by kernel_rfl) (by kernel_rfl) (by kernel_rfl) (fun _ _ _ h => h) (Or.inl ⟨by rfl, ?_⟩) (by assumption) ?_
              rotate_left
              · intro w hSw; go_simp; try (with_reducible rfl)
              try simp only [List.getElem_toArray, List.getElem_cons_succ, List.getElem_cons_zero, Act.put, List.setIfInBounds_toArray, List.set_cons_zero, List.set_cons_succ]
              refine wpAnyH_take (i := 13) (v := ?_) rfl (by kernel_rfl) (by kernel_rfl) (by kernel_rfl) (fun _ _ _ h => h) (Or.inl ⟨by rfl, ?_⟩) (by assumption) ?_
              rotate_left
              · intro w hSw; go_simp; try (with_reducible rfl)
              try simp only [List.getElem_toArray, List.getElem_cons_succ, List.getElem_cons_zero, Act.put, List.setIfInBounds_toArray, List.set_cons_zero, List.set_cons_succ]
              refine wpAnyH_ready (rs := [14]) (by kernel_rfl) (by simp) ?_
              refine AllReadyH.cons (o := _) rfl (fun K hK => ?_) ?_
              · simp only [List.getElem_toArray, List.getElem_cons_succ, List.getElem_cons_zero]
                rw [if_pos (by rfl)]
                refine wp_key_alloc (by rfl) ?_
                refine hK.out _ _ ?_ (fun hHeld => ?_)
                · exact (((Below.refl _ _).drew.alloc (Nat.le_refl _) _).trans (hb2.mono (by first | (simp; done) | (simp; omega)))).alloc (by first | omega | (simp; done) | (simp; omega) | (have h := hb2.size; simp at h; omega) | (have h := hb2.size; simp at h ⊢; omega)) _
                clear hK K
                try simp only [Act.put, List.setIfInBounds_toArray, List.set_cons_zero, List.set_cons_succ]
                refine wpAnyH_ready (rs := [15]) (by kernel_rfl) (by simp) ?_
                refine AllReadyH.cons (o := _) rfl (fun K hK => ?_) ?_
                · simp only [List.getElem_toArray, List.getElem_cons_succ, List.getElem_cons_zero]
                  rw [if_pos (by rfl)]
                  refine wp_store_row 23 (.tmp 9) (.tmp 62) (by rfl) w2.heap.size (vals kl).toArray (by rfl) (by rfl) 23 (vals (zs 32)).toArray (heap_at _ _ _ rfl) (by rw [List.size_toArray, vals_length, HKL.out]; exact key_size) (by simp [vals_length, zs_length, HKL.out]) (u8_all kl) ?_
                  refine hK.out _ _ ?_ (fun hHeld => ?_)
                  · exact below_setRow ((((Below.refl _ _).drew.alloc (Nat.le_refl _) _).trans (hb2.mono (by first | (simp; done) | (simp; omega)))).alloc (by first | omega | (simp; done) | (simp; omega) | (have h := hb2.size; simp at h; omega) | (have h := hb2.size; simp at h ⊢; omega)) _) (by first | omega | (simp; done) | (simp; omega) | (have h := hb2.size; simp at h; omega) | (have h := hb2.size; simp at h ⊢; omega)) _
                  clear hK K
                  try simp only [Act.put, List.setIfInBounds_toArray, List.set_cons_zero, List.set_cons_succ]
                  refine wpAnyH_take (i := 16) (v := ?_) rfl (by kernel_rfl) (by kernel_rfl) (by kernel_rfl) (fun _ _ _ h => h) (Or.inl ⟨by rfl, ?_⟩) (by assumption) ?_
                  rotate_left
                  · intro w hSw; go_simp; try (with_reducible rfl)
                  try simp only [List.getElem_toArray, List.getElem_cons_succ, List.getElem_cons_zero, Act.put, List.setIfInBounds_toArray, List.set_cons_zero, List.set_cons_succ]
                  refine wpAnyH_done (by kernel_rfl) ?_ _
                  refine NoPanic.normal ?_
                  refine world_gen (fun W' => Below W3.heap.size W3 W' ∧ W'.heap[w2.heap.size]? = some (.cells (vals kl).toArray 23 (0, 0))) ⟨below_setRow ((((Below.refl _ _).drew.alloc (Nat.le_refl _) _).trans (hb2.mono (by first | (simp; done) | (simp; omega)))).alloc (by first | omega | (simp; done) | (simp; omega) | (have h := hb2.size; simp at h; omega) | (have h := hb2.size; simp at h ⊢; omega)) _) (by first | omega | (simp; done) | (simp; omega) | (have h := hb2.size; simp at h; omega) | (have h := hb2.size; simp at h ⊢; omega)) _, setRow_heap _ _ _ _ _ _ (heap_at _ _ _ rfl)⟩ (fun W3 hW3 => ?_)
                  have e9 := keyLoad_at hW3.2 HKL.out
                  have e7 := keyLoad_at ((hW3.1.block _ (lt_of_block K7.out)).trans K7.out) HKL.out
                  have e3 := keyLoad_at ((hW3.1.block _ (lt_of_block K3.out)).trans K3.out) HKL.out
                  have HB9 := Lib.hid (HB7.out.trans (hW3.1.mono HB7.out.size))
                  clear hW3
                  go_wp2
                  go_ret
                  exact ⟨ret_bool (by simp), HB9.out⟩
                exact AllReadyH.nil
              exact AllReadyH.nil
            refine AllReadyH.cons (o := _) rfl (fun K hK => ?_) ?_
            · simp only [List.getElem_toArray, List.getElem_cons_succ, List.getElem_cons_zero]
              rw [if_pos (by rfl)]
              refine wp_key_alloc (by rfl) ?_
              refine hK.out _ _ ?_ (fun hHeld => ?_)
              · exact ((Below.refl _ _).drew.alloc (Nat.le_refl _) _).alloc (by simp) _
              clear hK K
              try simp only [Act.put, List.setIfInBounds_toArray, List.set_cons_zero, List.set_cons_succ]
              refine wpAnyH_ready (rs := [10]) (by kernel_rfl) (by simp) ?_
              refine AllReadyH.cons (o := _) rfl (fun K hK => ?_) ?_
              · simp only [List.getElem_toArray, List.getElem_cons_succ, List.getElem_cons_zero]
                go_simp
                go_at_call 20
                refine Calls.mono (HC2.out _ _ ?_) ?_
                · exact (heap_alloc2_old _ _ _)
                rintro e w2 ⟨rfl, hb2⟩
                refine hK.out _ _ ?_ (fun hHeld => ?_)
                · exact (((Below.refl _ _).drew.alloc (Nat.le_refl _) _).alloc (by simp) _).trans (hb2.mono (by first | (simp; done) | (simp; omega)))
                clear hK K
                try simp only [Act.put, List.setIfInBounds_toArray, List.set_cons_zero, List.set_cons_succ]
                refine wpAnyH_take (i := 11) (v := ?_) rfl (by kernel_rfl) (by kernel_rfl) (by kernel_rfl) (fun _ _ _ h => h) (Or.inl ⟨by rfl, ?_⟩) (by assumption) ?_
                rotate_left
                · intro w hSw; go_simp; try (with_reducible rfl)
                try simp only [List.getElem_toArray, List.getElem_cons_succ, List.getElem_cons_zero, Act.put, List.setIfInBounds_toArray, List.set_cons_zero, List.set_cons_succ]
                refine wpAnyH_take (i := 12) (v := ?_) rfl (by kernel_rfl) (by kernel_rfl) (by kernel_rfl) (fun _ _ _ h => h) (Or.inl ⟨by rfl, ?_⟩) (by assumption) ?_
                rotate_left
                · intro w hSw; go_simp; try (with_reducible rfl)
                try simp only [List.getElem_toArray, List.getElem_cons_succ, List.getElem_cons_zero, Act.put, List.setIfInBounds_toArray, List.set_cons_zero, List.set_cons_succ]
                refine wpAnyH_take (i := 13) (v := ?_) rfl (by kernel_rfl) (by kernel_rfl) (by kernel_rfl) (fun _ _ _ h => h) (Or.inl ⟨by rfl, ?_⟩) (by assumption) ?_
                rotate_left
                · intro w hSw; go_simp; try (with_reducible rfl)
                try simp only [List.getElem_toArray, List.getElem_cons_succ, List.getElem_cons_zero, Act.put, List.setIfInBounds_toArray, List.set_cons_zero, List.set_cons_succ]
                refine wpAnyH_ready (rs := [15]) (by kernel_rfl) (by simp) ?_
                refine AllReadyH.cons (o := _) rfl (fun K hK => ?_) ?_
                · simp only [List.getElem_toArray, List.getElem_cons_succ, List.getElem_cons_zero]
                  rw [if_pos (by rfl)]
                  refine wp_store_row 23 (.tmp 9) (.tmp 62) (by rfl) (W3.heap.size + 1) (vals kl).toArray (by rfl) (by rfl) 23 (vals (zs 32)).toArray ((hb2.block _ (by first | (simp; done) | (simp; omega))).trans (heap_alloc2_new _ _ _)) (by rw [List.size_toArray, vals_length, HKL.out]; exact key_size) (by simp [vals_length, zs_length, HKL.out]) (u8_all kl) ?_
                  refine hK.out _ _ ?_ (fun hHeld => ?_)
                  · exact below_setRow ((((Below.refl _ _).drew.alloc (Nat.le_refl _) _).alloc (by simp) _).trans (hb2.mono (by first | (simp; done) | (simp; omega)))) (by first | omega | (simp; done) | (simp; omega) | (have h := hb2.size; simp at h; omega) | (have h := hb2.size; simp at h ⊢; omega)) _
                  clear hK K
                  try simp only [Act.put, List.setIfInBounds_toArray, List.set_cons_zero, List.set_cons_succ]
                  refine wpAnyH_take (i := 16) (v := ?_) rfl (by kernel_rfl) (by kernel_rfl) (by kernel_rfl) (fun _ _ _ h => h) (Or.inl ⟨by rfl, ?_⟩) (by assumption) ?_
                  rotate_left
                  · intro w hSw; go_simp; try (with_reducible rfl)
                  try simp only [List.getElem_toArray, List.getElem_cons_succ, List.getElem_cons_zero, Act.put, List.setIfInBounds_toArray, List.set_cons_zero, List.set_cons_succ]
                  refine wpAnyH_done (by kernel_rfl) ?_ _
                  refine NoPanic.normal ?_
                  refine world_gen (fun W' => Below W3.heap.size W3 W' ∧ W'.heap[(W3.heap.size + 1)]? = some (.cells (vals kl).toArray 23 (0, 0))) ⟨below_setRow ((((Below.refl _ _).drew.alloc (Nat.le_refl _) _).alloc (by simp) _).trans (hb2.mono (by first | (simp; done) | (simp; omega)))) (by first | omega | (simp; done) | (simp; omega) | (have h := hb2.size; simp at h; omega) | (have h := hb2.size; simp at h ⊢; omega)) _, setRow_heap _ _ _ _ _ _ ((hb2.block _ (by first | (simp; done) | (simp; omega))).trans (heap_alloc2_new _ _ _))⟩ (fun W3 hW3 => ?_)
                  have e9 := keyLoad_at hW3.2 HKL.out
                  have e7 := keyLoad_at ((hW3.1.block _ (lt_of_block K7.out)).trans K7.out) HKL.out
                  have e3 := keyLoad_at ((hW3.1.block _ (lt_of_block K3.out)).trans K3.out) HKL.out
                  have HB9 := Lib.hid (HB7.out.trans (hW3.1.mono HB7.out.size))
                  clear hW3
                  go_wp2
                  go_ret
                  exact ⟨ret_bool (by simp), HB9.out⟩
                exact AllReadyH.nil
              exact AllReadyH.nil
            exact AllReadyH.nil
          refine AllReadyH.cons (o := _) rfl (fun K hK => ?_) ?_
          · simp only [List.getElem_toArray, List.getElem_cons_succ, List.getElem_cons_zero]
            rw [if_pos (by rfl)]
            refine wp_key_alloc (by rfl) ?_
            refine hK.out _ _ ?_ (fun hHeld => ?_)
            · exact (Below.refl _ _).drew.alloc (Nat.le_refl _) _
            clear hK K
            try simp only [Act.put, List.setIfInBounds_toArray, List.set_cons_zero, List.set_cons_succ]
            refine wpAnyH_ready (rs := [9]) (by kernel_rfl) (by simp) ?_
            refine AllReadyH.cons (o := _) rfl (fun K hK => ?_) ?_
            · simp only [List.getElem_toArray, List.getElem_cons_succ, List.getElem_cons_zero]
              rw [if_pos (by rfl)]
              refine wp_shares3 (.tmp 53) (.tmp 56) (.tmp 59) (by rfl) l1 l0 l2 (by rfl) (by rfl) (by rfl) hl1 hl0 hl2 ?_
              refine hK.out _ _ ?_ (fun hHeld => ?_)
              · exact ((Below.refl _ _).drew.alloc (Nat.le_refl _) _).alloc (by simp) _
              clear hK K
              try simp only [Act.put, List.setIfInBounds_toArray, List.set_cons_zero, List.set_cons_succ]
              refine wpAnyH_ready (rs := [10]) (by kernel_rfl) (by simp) ?_
              refine AllReadyH.cons (o := _) rfl (fun K hK => ?_) ?_
              · simp only [List.getElem_toArray, List.getElem_cons_succ, List.getElem_cons_zero]
                go_simp
                go_at_call 20
                refine Calls.mono (HC2.out _ _ ?_) ?_
                · exact (heap_alloc2_new _ _ _)
                rintro e w2 ⟨rfl, hb2⟩
                refine hK.out _ _ ?_ (fun hHeld => ?_)
                · exact (((Below.refl _ _).drew.alloc (Nat.le_refl _) _).alloc (by simp) _).trans (hb2.mono (by first | (simp; done) | (simp; omega)))
                clear hK K
                try simp only [Act.put, List.setIfInBounds_toArray, List.set_cons_zero, List.set_cons_succ]
                refine wpAnyH_take (i := 11) (v := ?_) rfl (by kernel_rfl) (by kernel_rfl) (by kernel_rfl) (fun _ _ _ h => h) (Or.inl ⟨by rfl, ?_⟩) (by assumption) ?_
                rotate_left
                · intro w hSw; go_simp; try (with_reducible rfl)
                try simp only [List.getElem_toArray, List.getElem_cons_succ, List.getElem_cons_zero, Act.put, List.setIfInBounds_toArray, List.set_cons_zero, List.set_cons_succ]
                refine wpAnyH_take (i := 12) (v := ?_) rfl (by kernel_rfl) (by kernel_rfl) (by kernel_rfl) (fun _ _ _ h => h) (Or.inl ⟨by rfl, ?_⟩) (by assumption) ?_
                rotate_left
                · intro w hSw; go_simp; try (with_reducible rfl)
                try simp only [List.getElem_toArray, List.getElem_cons_succ, List.getElem_cons_zero, Act.put, List.setIfInBounds_toArray, List.set_cons_zero, List.set_cons_succ]
                refine wpAnyH_take (i := 13) (v := ?_) rfl (by kernel_rfl) (by kernel_rfl) (by kernel_rfl) (fun _ _ _ h => h) (Or.inl ⟨by rfl, ?_⟩) (by assumption) ?_
                rotate_left
                · intro w hSw; go_simp; try (with_reducible rfl)
                try simp only [List.getElem_toArray, List.getElem_cons_succ, List.getElem_cons_zero, Act.put, List.setIfInBounds_toArray, List.set_cons_zero, List.set_cons_succ]
                refine wpAnyH_ready (rs := [15]) (by kernel_rfl) (by simp) ?_
                refine AllReadyH.cons (o := _) rfl (fun K hK => ?_) ?_
                · simp only [List.getElem_toArray, List.getElem_cons_succ, List.getElem_cons_zero]
                  rw [if_pos (by rfl)]
                  refine wp_store_row 23 (.tmp 9) (.tmp 62) (by rfl) W3.heap.size (vals kl).toArray (by rfl) (by rfl) 23 (vals (zs 32)).toArray ((hb2.block _ (by first | (simp; done) | (simp; omega))).trans (heap_alloc2_old _ _ _)) (by rw [List.size_toArray, vals_length, HKL.out]; exact key_size) (by simp [vals_length, zs_length, HKL.out]) (u8_all kl) ?_
                  refine hK.out _ _ ?_ (fun hHeld => ?_)
                  · exact below_setRow ((((Below.refl _ _).drew.alloc (Nat.le_refl _) _).alloc (by simp) _).trans (hb2.mono (by first | (simp; done) | (simp; omega)))) (by first | omega | (simp; done) | (simp; omega) | (have h := hb2.size; simp at h; omega) | (have h := hb2.size; simp at h ⊢; omega)) _
                  clear hK K
                  try simp only [Act.put, List.setIfInBounds_toArray, List.set_cons_zero, List.set_cons_succ]
                  refine wpAnyH_take (i := 16) (v := ?_) rfl (by kernel_rfl) (by kernel_rfl) (by kernel_rfl) (fun _ _ _ h => h) (Or.inl ⟨by rfl, ?_⟩) (by assumption) ?_
                  rotate_left
                  · intro w hSw; go_simp; try (with_reducible rfl)
                  try simp only [List.getElem_toArray, List.getElem_cons_succ, List.getElem_cons_zero, Act.put, List.setIfInBounds_toArray, List.set_cons_zero, List.set_cons_succ]
                  refine wpAnyH_done (by kernel_rfl) ?_ _
                  refine NoPanic.normal ?_
                  refine world_gen (fun W' => Below W3.heap.size W3 W' ∧ W'.heap[W3.heap.size]? = some (.cells (vals kl).toArray 23 (0, 0))) ⟨below_setRow ((((Below.refl _ _).drew.alloc (Nat.le_refl _) _).alloc (by simp) _).trans (hb2.mono (by first | (simp; done) | (simp; omega)))) (by first | omega | (simp; done) | (simp; omega) | (have h := hb2.size; simp at h; omega) | (have h := hb2.size; simp at h ⊢; omega)) _, setRow_heap _ _ _ _ _ _ ((hb2.block _ (by first | (simp; done) | (simp; omega))).trans (heap_alloc2_old _ _ _))⟩ (fun W3 hW3 => ?_)
                  have e9 := keyLoad_at hW3.2 HKL.out
                  have e7 := keyLoad_at ((hW3.1.block _ (lt_of_block K7.out)).trans K7.out) HKL.out
                  have e3 := keyLoad_at ((hW3.1.block _ (lt_of_block K3.out)).trans K3.out) HKL.out
                  have HB9 := Lib.hid (HB7.out.trans (hW3.1.mono HB7.out.size))
                  clear hW3
                  go_wp2
                  go_ret
                  exact ⟨ret_bool (by simp), HB9.out⟩
                exact AllReadyH.nil
              exact AllReadyH.nil
            exact AllReadyH.nil
          exact AllReadyH.nil
        exact AllReadyH.nil
      exact AllReadyH.nil
    exact AllReadyH.nil
  exact AllReadyH.nil

end Go.Proofs.Ytffmnldhklejcaa
