/- The walks of the reference's Right and Join. -/
import Derived.Test.YtffmnldhklejcaaShAnyLaw
namespace Go.Proofs.Ytffmnldhklejcaa
open Go.RowKit
open Classical in
set_option maxRecDepth 100000 in
set_option maxHeartbeats 1000000 in
theorem Right_c (A : Option Addr) (n c : Nat) (L : List (List UInt8)) (w : World) (hn : n = L.length) (hL : Shs w A L) :
    Calls Try.prog 30 #[.slice A n c] w fun e w' => e = .returned (.bool (decide (Good L))) ∧ Drawn w w' := by
  by_cases h3 : L.length = 3
  · obtain ⟨b, o, l0, l1, l2, rfl, rfl, h0, h1, h2, c0, c1, c2⟩ := hL.three h3
    obtain rfl : n = 3 := hn
    have d0 := c0 0 (by omega)
    have d1 := c1 0 (by omega)
    have d2 := c2 0 (by omega)
    rw [Nat.add_zero] at d0 d1 d2
    have hgood : Good [l0, l1, l2] ↔ ¬ l0.getD 0 0 = 0 ∧ ¬ l1.getD 0 0 = 0 ∧ ¬ l2.getD 0 0 = 0 ∧ ¬ l0.getD 0 0 = l1.getD 0 0 ∧ ¬ l0.getD 0 0 = l2.getD 0 0 ∧ ¬ l1.getD 0 0 = l2.getD 0 0 := by
      constructor
      · intro h
        have hn := h.2.2
        simp [xsOf] at hn
        exact ⟨h.2.1 0 (by omega), h.2.1 1 (by omega), h.2.1 2 (by omega), hn.1.1, hn.1.2, hn.2⟩
      · rintro ⟨a0, a1, a2, a3, a4, a5⟩
        refine ⟨rfl, fun j hj => ?_, ?_⟩
        · match j, hj with
          | 0, _ => exact a0
          | 1, _ => exact a1
          | 2, _ => exact a2
        · simp [xsOf]
          exact ⟨⟨a3, a4⟩, a5⟩
    clear h3 hL h0 h1 h2 c0 c1 c2
    generalize hx0 : l0.getD 0 0 = x0 at *
    generalize hx1 : l1.getD 0 0 = x1 at *
    generalize hx2 : l2.getD 0 0 = x2 at *
    clear hx0 hx1 hx2
    go_enter Try.func30, Try.ntmps30
    by_cases n0 : x0 = 0
    · have N0 := Lib.hid n0
      have f0 : (u x0 != 0) = false := by rw [n0]; rfl
      have HG : Hid (¬ Good [l0, l1, l2]) := fun h => (hgood.1 h).1 N0.out
      clear hgood n0
      go_wp2_with fail
      go_quiet (fail)
      go_wp2
      go_ret
      exact ⟨ret_bool (by simp [HG.out]), ⟨_, rfl⟩⟩
    · by_cases n1 : x1 = 0
      · have f0 : (u x0 != 0) = true := by rw [bne_iff_ne]; exact fun e => n0 (u_inj e)
        have N1 := Lib.hid n1
        have f1 : (u x1 != 0) = false := by rw [n1]; rfl
        have HG : Hid (¬ Good [l0, l1, l2]) := fun h => (hgood.1 h).2.1 N1.out
        clear hgood n1
        go_wp2_with fail
        go_quiet (fail)
        go_wp2
        go_ret
        exact ⟨ret_bool (by simp [HG.out]), ⟨_, rfl⟩⟩
      · by_cases n2 : x2 = 0
        · have f0 : (u x0 != 0) = true := by rw [bne_iff_ne]; exact fun e => n0 (u_inj e)
          have f1 : (u x1 != 0) = true := by rw [bne_iff_ne]; exact fun e => n1 (u_inj e)
          have N2 := Lib.hid n2
          have f2 : (u x2 != 0) = false := by rw [n2]; rfl
          have HG : Hid (¬ Good [l0, l1, l2]) := fun h => (hgood.1 h).2.2.1 N2.out
          clear hgood n2
          go_wp2_with fail
          go_quiet (fail)
          go_wp2
          go_ret
          exact ⟨ret_bool (by simp [HG.out]), ⟨_, rfl⟩⟩
        · by_cases n3 : x0 = x1
          · have f0 : (u x0 != 0) = true := by rw [bne_iff_ne]; exact fun e => n0 (u_inj e)
            have f1 : (u x1 != 0) = true := by rw [bne_iff_ne]; exact fun e => n1 (u_inj e)
            have f2 : (u x2 != 0) = true := by rw [bne_iff_ne]; exact fun e => n2 (u_inj e)
            have N3 := Lib.hid n3
            have f3 : (u x0 != u x1) = false := by rw [n3]; simp
            have HG : Hid (¬ Good [l0, l1, l2]) := fun h => (hgood.1 h).2.2.2.1 N3.out
            clear hgood n3
            go_wp2_with fail
            go_quiet (fail)
            go_wp2
            go_ret
            exact ⟨ret_bool (by simp [HG.out]), ⟨_, rfl⟩⟩
          · by_cases n4 : x0 = x2
            · have f0 : (u x0 != 0) = true := by rw [bne_iff_ne]; exact fun e => n0 (u_inj e)
              have f1 : (u x1 != 0) = true := by rw [bne_iff_ne]; exact fun e => n1 (u_inj e)
              have f2 : (u x2 != 0) = true := by rw [bne_iff_ne]; exact fun e => n2 (u_inj e)
              have f3 : (u x0 != u x1) = true := by rw [bne_iff_ne]; exact fun e => n3 (u_inj e)
              have N4 := Lib.hid n4
              have f4 : (u x0 != u x2) = false := by rw [n4]; simp
              have HG : Hid (¬ Good [l0, l1, l2]) := fun h => (hgood.1 h).2.2.2.2.1 N4.out
              clear hgood n4
              go_wp2_with fail
              go_quiet (fail)
              go_wp2
              go_ret
              exact ⟨ret_bool (by simp [HG.out]), ⟨_, rfl⟩⟩
            · by_cases n5 : x1 = x2
              · have f0 : (u x0 != 0) = true := by rw [bne_iff_ne]; exact fun e => n0 (u_inj e)
                have f1 : (u x1 != 0) = true := by rw [bne_iff_ne]; exact fun e => n1 (u_inj e)
                have f2 : (u x2 != 0) = true := by rw [bne_iff_ne]; exact fun e => n2 (u_inj e)
                have f3 : (u x0 != u x1) = true := by rw [bne_iff_ne]; exact fun e => n3 (u_inj e)
                have f4 : (u x0 != u x2) = true := by rw [bne_iff_ne]; exact fun e => n4 (u_inj e)
                have N5 := Lib.hid n5
                have f5 : (u x1 != u x2) = false := by rw [n5]; simp
                have HG : Hid (¬ Good [l0, l1, l2]) := fun h => (hgood.1 h).2.2.2.2.2 N5.out
                clear hgood n5
                go_wp2_with fail
                go_quiet (fail)
                go_wp2
                go_ret
                exact ⟨ret_bool (by simp [HG.out]), ⟨_, rfl⟩⟩
              · have f0 : (u x0 != 0) = true := by rw [bne_iff_ne]; exact fun e => n0 (u_inj e)
                have f1 : (u x1 != 0) = true := by rw [bne_iff_ne]; exact fun e => n1 (u_inj e)
                have f2 : (u x2 != 0) = true := by rw [bne_iff_ne]; exact fun e => n2 (u_inj e)
                have f3 : (u x0 != u x1) = true := by rw [bne_iff_ne]; exact fun e => n3 (u_inj e)
                have f4 : (u x0 != u x2) = true := by rw [bne_iff_ne]; exact fun e => n4 (u_inj e)
                have f5 : (u x1 != u x2) = true := by rw [bne_iff_ne]; exact fun e => n5 (u_inj e)
                have HG : Hid (Good [l0, l1, l2]) := hgood.2 ⟨n0, n1, n2, n3, n4, n5⟩
                clear hgood n0 n1 n2 n3 n4 n5
                go_wp2_with fail
                go_quiet (fail)
                go_wp2
                go_ret
                exact ⟨ret_bool (by simp [HG.out]), ⟨_, rfl⟩⟩
  · have g1 : ((n : Int) != 3) = true := by rw [bne_iff_ne]; omega
    have HG : Hid (¬ Good L) := fun h => h3 h.1
    clear hn hL h3
    go_enter Try.func30, Try.ntmps30
    go_wp2_with fail
    go_ret
    exact ⟨ret_bool (by simp [HG.out]), Drawn.refl _⟩

open Classical in
set_option maxRecDepth 100000 in
set_option maxHeartbeats 1000000 in
theorem RJoin_c (A : Option Addr) (n c : Nat) (L : List (List UInt8)) (w : World) (hn : n = L.length) (hL : Shs w A L) :
    Calls Try.prog 21 #[.slice A n c] w fun e w' => e = .returned (.tuple #[.agg (vals (joinS L).1).toArray, .int .i64 (joinS L).2]) ∧ Below w.heap.size w w' := by
  have HL := Lib.hid hL
  have HN := Lib.hid hn
  have HB := Lib.hid ((Below.refl w.heap.size w).alloc (Nat.le_refl _) (.cells (vals (zs 32)).toArray 23))
  clear hL hn
  by_cases hg : Good L
  · have HG := Lib.hid hg
    have HJ := Lib.hid (joinS_yes hg)
    clear hg
    go_enter Try.func21, Try.ntmps21
    go_wp2_with (refine wpList_alloc_run (by rfl) 23 (by rfl) _ (key_alloc _) ?_)
    refine (Right_c _ _ _ L _ HN.out (HL.out.below HB.out)).mono ?_
    rintro e w1 ⟨rfl, ⟨nd, rfl⟩⟩
    have hd : decide (Good L) = true := by simpa using HG.out
    rw [hd]
    clear hd
    have HB1 : Hid (Below w.heap.size w ((w.alloc (.cells (vals (zs 32)).toArray 23)).drewN nd)) := below_drewN HB.out _
    have HK1 : Hid (((w.alloc (.cells (vals (zs 32)).toArray 23)).drewN nd).heap[w.heap.size]? = some (.cells (vals (zs 32)).toArray 23 (0, 0))) := heap_at w _ _ rfl
    generalize (w.alloc (.cells (vals (zs 32)).toArray 23)).drewN nd = W1 at *
    go_wp2_with fail
    refine (RKey_c _ _ _ L _ 0 _ HN.out HG.out.1 (by rfl) (HL.out.below HB1.out)).mono ?_
    rintro e w2 ⟨rfl, hb2⟩
    have HK2 : Hid (w2.heap[w.heap.size]? = some (.cells (vals (zs 32)).toArray 23 (0, 0))) := (hb2.block _ (lt_of_block HK1.out)).trans HK1.out
    have HB2 := Lib.hid (HB1.out.trans (hb2.mono HB1.out.size))
    have HKL : Hid ((keyAt L 0).length = 32) := keyAt_length _ _
    clear hb2 HK1 HB1
    obtain ⟨K, hK⟩ : ∃ K, K = keyAt L 0 := ⟨_, rfl⟩
    have HKE := Lib.hid hK
    rw [← hK] at HKL ⊢
    clear hK
    go_wp2_with (refine wpList_store_row (by rfl) 23 (.tmp 2) (.tmp 9) (by rfl) w.heap.size (vals K).toArray (by rfl) (by rfl) 23 (vals (zs 32)).toArray HK2.out (by rw [List.size_toArray, vals_length, HKL.out]; exact key_size) (by simp [vals_length, zs_length, HKL.out]) (u8_all K) ?_)
    refine bodyPost_ret (results_cell_tmp (by rfl) _ _ w.heap.size 23 (vals K).toArray (0, 0) _ (by rfl) (setRow_heap _ _ _ _ _ _ HK2.out) Try.underlying23 (by rfl) (by rw [List.size_toArray, vals_length, HKL.out]; exact key_size)) rfl ⟨by rw [HJ.out, HKE.out]; rfl, below_setRow HB2.out (Nat.le_refl _) _⟩
  · have HG := Lib.hid hg
    have HJ := Lib.hid (joinS_no hg)
    clear hg
    go_enter Try.func21, Try.ntmps21
    go_wp2_with (refine wpList_alloc_run (by rfl) 23 (by rfl) _ (key_alloc _) ?_)
    refine (Right_c _ _ _ L _ HN.out (HL.out.below HB.out)).mono ?_
    rintro e w1 ⟨rfl, ⟨nd, rfl⟩⟩
    have hd : decide (Good L) = false := by simpa using HG.out
    rw [hd]
    clear hd
    have HB1 : Hid (Below w.heap.size w ((w.alloc (.cells (vals (zs 32)).toArray 23)).drewN nd)) := below_drewN HB.out _
    have HK2 : Hid (((w.alloc (.cells (vals (zs 32)).toArray 23)).drewN nd).heap[w.heap.size]? = some (.cells (vals (zs 32)).toArray 23 (0, 0))) := heap_at w _ _ rfl
    generalize (w.alloc (.cells (vals (zs 32)).toArray 23)).drewN nd = W1 at *
    go_wp2_with (first
      | refine wpList_key_build0 (by rfl) (by rfl) ?_
      | refine wpList_store_row (by rfl) 23 (.tmp 2) (.tmp 7) (by rfl) w.heap.size (vals (zs 32)).toArray (by rfl) (by rfl) 23 (vals (zs 32)).toArray HK2.out (by rw [List.size_toArray, vals_length, zs_length]; exact key_size) rfl (u8_all _) ?_)
    refine bodyPost_ret (results_cell_tmp (by rfl) _ _ w.heap.size 23 (vals (zs 32)).toArray (0, 0) _ (by rfl) (setRow_heap _ _ _ _ _ _ HK2.out) Try.underlying23 (by rfl) (by rw [List.size_toArray, vals_length, zs_length]; exact key_size)) rfl ⟨by rw [HJ.out]; rfl, below_setRow HB1.out (Nat.le_refl _) _⟩

end Go.Proofs.Ytffmnldhklejcaa
