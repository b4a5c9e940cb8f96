/- The walk of ShareAny. -/
import Derived.Test.YtffmnldhklejcaaShHeld
import Derived.Test.YtffmnldhklejcaaShOpen
namespace Go.Proofs.Ytffmnldhklejcaa
open Go.RowKit
set_option linter.unusedSimpArgs false

attribute [local go_sem ↓] keyLoad_pre keyBuild_pre

set_option maxRecDepth 100000 in
set_option maxHeartbeats 1000000 in
theorem ShareAny_w (s z pk : List UInt8) (n : UInt8) (w : World) (hs : s.length = 32) (hz : z.length = 64) (hpk : pk.length = 3) :
    Calls Try.prog 9 #[.agg (vals s).toArray, .agg (vals z).toArray, .int .u8 (u n), .agg (vals pk).toArray] w fun e w' => e = .returned (.bool true) ∧ Below w.heap.size w w' := by
  obtain ⟨m, hm⟩ : ∃ m : Nat, m = 3 + n.toNat % 20 := ⟨_, rfl⟩
  have hn0 := u_lo n
  have hn1 := u_hi n
  have em : (3 : Int) + u n % 20 = (m : Int) := by rw [hm]; unfold u; omega
  have HZ := Lib.hid hz
  have HS := Lib.hid hs
  have HPK := Lib.hid hpk
  have EM := Lib.hid em
  have HM : Hid (3 ≤ m ∧ m ≤ 22) := by constructor <;> omega
  clear hz hs hpk em hm
  go_enter Try.func9, Try.ntmps9
  go_wp2_with fail
  refine (SAlive_c _).mono ?_
  rintro e w1 ⟨rfl, hb1⟩
  have box1 : w1.heap[w.heap.size]? = some (.cells (vals s).toArray 23 (0, 0)) := (hb1.block _ (by simp only [World.size_alloc]; omega)).trans ((Below.heap_alloc _ _ _ (by simp only [World.size_alloc]; omega)).trans (heap_alloc2_old _ _ _))
  have box2 : w1.heap[w.heap.size + 1]? = some (.cells (vals z).toArray 31 (0, 0)) := (hb1.block _ (by simp only [World.size_alloc]; omega)).trans ((Below.heap_alloc _ _ _ (by simp only [World.size_alloc]; omega)).trans (heap_alloc2_new _ _ _))
  have box3 : w1.heap[w.heap.size + 1 + 1]? = some (.cells (vals pk).toArray 47 (0, 0)) := (hb1.block _ (by simp only [World.size_alloc]; omega)).trans (heap_at _ _ _ (by simp))
  have HB := Lib.hid (((((Below.refl _ w).alloc (Nat.le_refl _) _).alloc (by simp) _).alloc (by simp; omega) _).trans (hb1.mono (by simp; omega)))
  clear hb1
  have cv1 := conv64 _ z HZ.out w1 box2
  have CV := Lib.hid (conv64 (w.heap.size + 1) z HZ.out)
  have BOX2 := Lib.hid box2
  have BOX1 := Lib.hid box1
  have BOX3 := Lib.hid box3
  have hr : w1.rangeAt w.heap.size 0 (vals s) := range_of_block _ box1
  clear box1 box2 box3
  have hu := Try.underlying23
  have hi : (Try.prog.info? 23).map (·.size) = some (vals s).length := by rw [vals_length, HS.out]; exact key_size
  have hl : (vals s).length = 32 := by rw [vals_length, HS.out]
  have h1 := vals_one s
  have HZS : Hid (bs (⟨z.toArray⟩ : ByteArray) = z) := by simp [Hid, bs]
  generalize (⟨z.toArray⟩ : ByteArray) = zstr at *
  go_wp2_with fail
  rw [EM.out]
  go_region_held3 (fun W => W.rangeAt w.heap.size 0 (vals s) ∧ (convert 32 9 (.slice (some ⟨w.heap.size + 1, 0, none⟩) 64 64)).run Try.prog W = .ok (.string zstr) W)
    (first | exact ⟨hr, CV.out _ BOX2.out⟩ | exact ⟨range_below (W := w1.drew) hr hb2, CV.out _ ((hb2.block _ (lt_of_block BOX2.out)).trans BOX2.out)⟩)
    (first | (go_at_call 12; refine (Split_g _ _ _ s z m _ (by rfl) (by rfl) HZS.out HS.out (by have := HM.out; omega) (by have := HM.out; omega) HZ.out).mono ?_; rintro e w2 ⟨rfl, hf, hb2⟩))
  have hbw : Below w1.heap.size w1 w2 := below_of_drew hb2
  have BX1 : Hid (w2.heap[w.heap.size]? = some (.cells (vals s).toArray 23 (0, 0))) := (hbw.block _ (lt_of_block BOX1.out)).trans BOX1.out
  have bx3 : w2.heap[w.heap.size + 1 + 1]? = some (.cells (vals pk).toArray 47 (0, 0)) := (hbw.block _ (lt_of_block BOX3.out)).trans BOX3.out
  have HB2 := Lib.hid (HB.out.trans (hbw.mono HB.out.size))
  have HF : Hid (Fill w2 (w1.heap.size + 1) m (flat s z m)) := hf
  clear hr hb2 hbw hf BOX1 BOX2 BOX3 HB hi hl h1 hu CV
  generalize w1.heap.size + 1 = g at *
  have c0 := cell_byteD bx3 0 (by rw [HPK.out]; omega)
  have c1 := cell_byteD bx3 1 (by rw [HPK.out]; omega)
  have c2 := cell_byteD bx3 2 (by rw [HPK.out]; omega)
  clear bx3
  have tm : ∀ p : UInt8, (u p).tmod (m : Int) = ((p.toNat % m : Nat) : Int) := fun p => by rw [Int.tmod_eq_emod_of_nonneg (u_lo p)]; rfl
  have ti : ∀ p : UInt8, (u p) % (m : Int) = ((p.toNat % m : Nat) : Int) := fun p => rfl
  have tl : ∀ p : UInt8, p.toNat % m < m := fun p => Nat.mod_lt _ (by have := HM.out; omega)
  have m0 : (m : Int) ≠ 0 := by have := HM.out; omega
  have m1 : ((m : Int) == 0) = false := by simpa using m0
  have t0 := tm (pk.getD 0 0)
  have t1 := tm (pk.getD 1 0)
  have t2 := tm (pk.getD 2 0)
  have s0 := ti (pk.getD 0 0)
  have s1 := ti (pk.getD 1 0)
  have s2 := ti (pk.getD 2 0)
  have L0 := Lib.hid (tl (pk.getD 0 0))
  have L1 := Lib.hid (tl (pk.getD 1 0))
  have L2 := Lib.hid (tl (pk.getD 2 0))
  clear tm ti tl
  have p0 := u_lo (pk.getD 0 0)
  have p1 := u_lo (pk.getD 1 0)
  have p2 := u_lo (pk.getD 2 0)
  generalize (pk.getD 0 0).toNat % m = ia at *
  generalize (pk.getD 1 0).toNat % m = ib at *
  generalize (pk.getD 2 0).toNat % m = ic at *
  generalize pk.getD 0 0 = q0 at *
  generalize pk.getD 1 0 = q1 at *
  generalize pk.getD 2 0 = q2 at *
  go_wp2_with fail
  go_quiet (fail)
  go_wp2_with fail
  have k0 : (wrap64 (u q0)).tmod (m : Int) = (ia : Int) := by rw [show wrap64 (u q0) = u q0 from by have := u_hi q0; unfold wrap64; omega, t0]
  have k1 : (wrap64 (u q1)).tmod (m : Int) = (ib : Int) := by rw [show wrap64 (u q1) = u q1 from by have := u_hi q1; unfold wrap64; omega, t1]
  have k2 : (wrap64 (u q2)).tmod (m : Int) = (ic : Int) := by rw [show wrap64 (u q2) = u q2 from by have := u_hi q2; unfold wrap64; omega, t2]
  rw [k0, k1, k2]
  have HB3 : Hid (Below w.heap.size w (w2.drewN nq)) := below_drewN HB2.out _
  have BX3 : Hid ((w2.drewN nq).heap[w.heap.size]? = some (.cells (vals s).toArray 23 (0, 0))) := BX1.out
  have HF3 : Hid (Fill (w2.drewN nq) g m (flat s z m)) := HF.out.drewN _
  clear k0 k1 k2 t0 t1 t2 s0 s1 s2 p0 p1 p2 c0 c1 c2 HF BX1 HB2
  generalize w2.drewN nq = W2 at *
  have rat : ∀ j, j < m → W2.rangeAt g (j * 33) (vals (row s z j)) := fun j hj => by
    obtain ⟨_, _, e, hx, _⟩ := HF3.out.shs.at_ j (by rw [rows_length]; exact hj)
    cases e
    rw [rows_get s z m j hj, Nat.zero_add] at hx
    exact hx
  have hra := rat ia L0.out
  have hrb := rat ib L1.out
  have hrc := rat ic L2.out
  have hla := row_length s z ia
  have hlb := row_length s z ib
  have hlc := row_length s z ic
  have hgood := good_rows s z ia ib ic (by have := HM.out; have := L0.out; omega) (by have := HM.out; have := L1.out; omega) (by have := HM.out; have := L2.out; omega)
  have hyes := join_rows s z HS.out ia ib ic (by have := HM.out; have := L0.out; omega) (by have := HM.out; have := L1.out; omega) (by have := HM.out; have := L2.out; omega)
  have HNO : Hid (¬ (ia ≠ ib ∧ ia ≠ ic ∧ ib ≠ ic) → joinS [row s z ia, row s z ib, row s z ic] = (zs 32, 1)) := fun h => joinS_no (fun e => h (hgood.1 e))
  have HYES := Lib.hid hyes
  clear rat hgood hyes
  generalize row s z ia = la at *
  generalize row s z ib = lb at *
  generalize row s z ic = lc at *
  have i0 : (0 : Int) ≤ (ia : Int) ∧ (ia : Int) < (m : Int) := by have := L0.out; omega
  have i1 : (0 : Int) ≤ (ib : Int) ∧ (ib : Int) < (m : Int) := by have := L1.out; omega
  have i2 : (0 : Int) ≤ (ic : Int) ∧ (ic : Int) < (m : Int) := by have := L2.out; omega
  obtain ⟨i0a, i0b⟩ := i0
  obtain ⟨i1a, i1b⟩ := i1
  obtain ⟨i2a, i2b⟩ := i2
  have hu := Try.underlying34
  have hia : (Try.prog.info? 34).map (·.size) = some (vals la).length := by rw [vals_length, hla]; exact share_size
  have hib : (Try.prog.info? 34).map (·.size) = some (vals lb).length := by rw [vals_length, hlb]; exact share_size
  have hic : (Try.prog.info? 34).map (·.size) = some (vals lc).length := by rw [vals_length, hlc]; exact share_size
  have hk0 : ∀ W : World, (keyBuild #[]).run Try.prog W = .ok (.agg (vals (zs 32)).toArray) W := key_build0
  by_cases n1 : ia = ib
  · have f1 : ((ia : Int) == (ib : Int)) = true := by rw [n1]; simp
    have N1 := Lib.hid n1
    clear n1
    have HKE := HNO.out (fun h => h.1 N1.out)
    obtain ⟨kl, hkl⟩ : ∃ kl, kl = (zs 32) := ⟨_, rfl⟩
    have HKL : Hid (kl.length = 32) := by rw [Hid, hkl]; exact (zs_length 32)
    have hq := fun W : World => key_eql kl (zs 32) HKL.out (zs_length 32) W
    rw [show decide (kl = (zs 32)) = true from by simp [hkl]] at hq
    rw [← hkl] at HKE
    clear hkl
    have HC : Hid (∀ (g : Nat) (W : World), W.heap[g]? = some (.cells (vals (la ++ (lb ++ lc))).toArray 34 (0, 0)) → Calls Try.prog 20 #[.slice (some ⟨g, 0, none⟩) 3 3] W fun e w' => e = .returned (.tuple #[.agg (vals kl).toArray, .int .i64 1]) ∧ Below W.heap.size W w') := fun g W h => by
      have h2 : Shs W (some ⟨g, 0, none⟩) [la, lb, lc] := shs_of_block _ (by simp [hla, hlb, hlc]) (by simpa using h)
      have h3 := Join_c (some ⟨g, 0, none⟩) 3 3 [la, lb, lc] W rfl h2
      rw [HKE] at h3
      exact h3
    refine wp_region_noPanic ?_
    refine wp_region_held_drew (S := fun W => Below W2.heap.size W2 W) (by kernel_rfl) ((Below.refl _ _).drew) (fun hHeld => ?_)
    refine wpAnyH_take (i := 0) (v := ?_) rfl (by kernel_rfl) (by kernel_rfl) (by kernel_rfl) (fun _ _ _ h => h) (Or.inl ⟨by rfl, ?_⟩) (by assumption) ?_
    rotate_left
    · intro w hSw; go_simp; try (with_reducible rfl)
    try simp only [List.getElem_toArray, List.getElem_cons_succ, List.getElem_cons_zero, Act.put, List.setIfInBounds_toArray, List.set_cons_zero, List.set_cons_succ]
    refine wpAnyH_take (i := 1) (v := ?_) rfl (by kernel_rfl) (by kernel_rfl) (by kernel_rfl) (fun _ _ _ h => h) (Or.inl ⟨by rfl, ?_⟩) (by assumption) ?_
    rotate_left
    · intro w hSw; go_simp; try (with_reducible rfl)
    try simp only [List.getElem_toArray, List.getElem_cons_succ, List.getElem_cons_zero, Act.put, List.setIfInBounds_toArray, List.set_cons_zero, List.set_cons_succ]
    refine wpAnyH_take (i := 2) (v := ?_) rfl (by kernel_rfl) (by kernel_rfl) (by kernel_rfl) (fun _ _ _ h => h) (Or.inl ⟨by rfl, ?_⟩) (by assumption) ?_
    rotate_left
    · intro w hSw; go_simp; try (with_reducible rfl)
    try simp only [List.getElem_toArray, List.getElem_cons_succ, List.getElem_cons_zero, Act.put, List.setIfInBounds_toArray, List.set_cons_zero, List.set_cons_succ]
    refine' wpAnyH_take (i := 3) (v := _) rfl (by kernel_rfl) (by kernel_rfl) (by kernel_rfl) (fun _ _ _ h => h) (yieldsIf_load_mid (by rfl) _ _ rfl _ _ rfl _ _ (fun W hW => range_below hra hW) hu (by rfl) hia) (by assumption) ?_
    try simp only [List.getElem_toArray, List.getElem_cons_succ, List.getElem_cons_zero, Act.put, List.setIfInBounds_toArray, List.set_cons_zero, List.set_cons_succ]
    refine wpAnyH_take (i := 4) (v := ?_) rfl (by kernel_rfl) (by kernel_rfl) (by kernel_rfl) (fun _ _ _ h => h) (Or.inl ⟨by rfl, ?_⟩) (by assumption) ?_
    rotate_left
    · intro w hSw; go_simp; try (with_reducible rfl)
    try simp only [List.getElem_toArray, List.getElem_cons_succ, List.getElem_cons_zero, Act.put, List.setIfInBounds_toArray, List.set_cons_zero, List.set_cons_succ]
    refine wpAnyH_take (i := 5) (v := ?_) rfl (by kernel_rfl) (by kernel_rfl) (by kernel_rfl) (fun _ _ _ h => h) (Or.inl ⟨by rfl, ?_⟩) (by assumption) ?_
    rotate_left
    · intro w hSw; go_simp; try (with_reducible rfl)
    try simp only [List.getElem_toArray, List.getElem_cons_succ, List.getElem_cons_zero, Act.put, List.setIfInBounds_toArray, List.set_cons_zero, List.set_cons_succ]
    refine wpAnyH_take (i := 6) (v := ?_) rfl (by kernel_rfl) (by kernel_rfl) (by kernel_rfl) (fun _ _ _ h => h) (Or.inl ⟨by rfl, ?_⟩) (by assumption) ?_
    rotate_left
    · intro w hSw; go_simp; try (with_reducible rfl)
    try simp only [List.getElem_toArray, List.getElem_cons_succ, List.getElem_cons_zero, Act.put, List.setIfInBounds_toArray, List.set_cons_zero, List.set_cons_succ]
    refine' wpAnyH_take (i := 7) (v := _) rfl (by kernel_rfl) (by kernel_rfl) (by kernel_rfl) (fun _ _ _ h => h) (yieldsIf_load_mid (by rfl) _ _ rfl _ _ rfl _ _ (fun W hW => range_below hrb hW) hu (by rfl) hib) (by assumption) ?_
    try simp only [List.getElem_toArray, List.getElem_cons_succ, List.getElem_cons_zero, Act.put, List.setIfInBounds_toArray, List.set_cons_zero, List.set_cons_succ]
    refine wpAnyH_take (i := 8) (v := ?_) rfl (by kernel_rfl) (by kernel_rfl) (by kernel_rfl) (fun _ _ _ h => h) (Or.inl ⟨by rfl, ?_⟩) (by assumption) ?_
    rotate_left
    · intro w hSw; go_simp; try (with_reducible rfl)
    try simp only [List.getElem_toArray, List.getElem_cons_succ, List.getElem_cons_zero, Act.put, List.setIfInBounds_toArray, List.set_cons_zero, List.set_cons_succ]
    refine wpAnyH_take (i := 9) (v := ?_) rfl (by kernel_rfl) (by kernel_rfl) (by kernel_rfl) (fun _ _ _ h => h) (Or.inl ⟨by rfl, ?_⟩) (by assumption) ?_
    rotate_left
    · intro w hSw; go_simp; try (with_reducible rfl)
    try simp only [List.getElem_toArray, List.getElem_cons_succ, List.getElem_cons_zero, Act.put, List.setIfInBounds_toArray, List.set_cons_zero, List.set_cons_succ]
    refine wpAnyH_take (i := 10) (v := ?_) rfl (by kernel_rfl) (by kernel_rfl) (by kernel_rfl) (fun _ _ _ h => h) (Or.inl ⟨by rfl, ?_⟩) (by assumption) ?_
    rotate_left
    · intro w hSw; go_simp; try (with_reducible rfl)
    try simp only [List.getElem_toArray, List.getElem_cons_succ, List.getElem_cons_zero, Act.put, List.setIfInBounds_toArray, List.set_cons_zero, List.set_cons_succ]
    refine' wpAnyH_take (i := 11) (v := _) rfl (by kernel_rfl) (by kernel_rfl) (by kernel_rfl) (fun _ _ _ h => h) (yieldsIf_load_mid (by rfl) _ _ rfl _ _ rfl _ _ (fun W hW => range_below hrc hW) hu (by rfl) hic) (by assumption) ?_
    try simp only [List.getElem_toArray, List.getElem_cons_succ, List.getElem_cons_zero, Act.put, List.setIfInBounds_toArray, List.set_cons_zero, List.set_cons_succ]
    refine wpAnyH_ready (rs := [12, 17]) (by kernel_rfl) (by simp) ?_
    refine AllReadyH.cons (o := _) rfl (fun K hK => ?_) ?_
    · simp only [List.getElem_toArray, List.getElem_cons_succ, List.getElem_cons_zero]
      rw [if_pos (by rfl)]
      refine wp_shares3 (.tmp 58) (.tmp 62) (.tmp 66) (by rfl) la lb lc (by rfl) (by rfl) (by rfl) hla hlb hlc ?_
      refine hK.out _ _ ?_ (fun hHeld => ?_)
      · exact (Below.refl _ _).drew.alloc (Nat.le_refl _) _
      clear hK K
      try simp only [Act.put, List.setIfInBounds_toArray, List.set_cons_zero, List.set_cons_succ]
      refine wpAnyH_ready (rs := [13, 17]) (by kernel_rfl) (by simp) ?_
      refine AllReadyH.cons (o := _) rfl (fun K hK => ?_) ?_
      · simp only [List.getElem_toArray, List.getElem_cons_succ, List.getElem_cons_zero]
        go_simp
        go_at_call 20
        refine Calls.mono (HC.out _ _ ?_) ?_
        · exact (heap_at _ _ _ rfl)
        rintro e w2 ⟨rfl, hb2⟩
        refine hK.out _ _ ?_ (fun hHeld => ?_)
        · exact ((Below.refl _ _).drew.alloc (Nat.le_refl _) _).trans (hb2.mono (by first | (simp; done) | (simp; omega)))
        clear hK K
        try simp only [Act.put, List.setIfInBounds_toArray, List.set_cons_zero, List.set_cons_succ]
        refine wpAnyH_take (i := 14) (v := ?_) rfl (by kernel_rfl) (by kernel_rfl) (by kernel_rfl) (fun _ _ _ h => h) (Or.inl ⟨by rfl, ?_⟩) (by assumption) ?_
        rotate_left
        · intro w hSw; go_simp; try (with_reducible rfl)
        try simp only [List.getElem_toArray, List.getElem_cons_succ, List.getElem_cons_zero, Act.put, List.setIfInBounds_toArray, List.set_cons_zero, List.set_cons_succ]
        refine wpAnyH_take (i := 15) (v := ?_) rfl (by kernel_rfl) (by kernel_rfl) (by kernel_rfl) (fun _ _ _ h => h) (Or.inl ⟨by rfl, ?_⟩) (by assumption) ?_
        rotate_left
        · intro w hSw; go_simp; try (with_reducible rfl)
        try simp only [List.getElem_toArray, List.getElem_cons_succ, List.getElem_cons_zero, Act.put, List.setIfInBounds_toArray, List.set_cons_zero, List.set_cons_succ]
        refine wpAnyH_take (i := 16) (v := ?_) rfl (by kernel_rfl) (by kernel_rfl) (by kernel_rfl) (fun _ _ _ h => h) (Or.inl ⟨by rfl, ?_⟩) (by assumption) ?_
        rotate_left
        · intro w hSw; go_simp; try (with_reducible rfl)
        try simp only [List.getElem_toArray, List.getElem_cons_succ, List.getElem_cons_zero, Act.put, List.setIfInBounds_toArray, List.set_cons_zero, List.set_cons_succ]
        refine wpAnyH_ready (rs := [17]) (by kernel_rfl) (by simp) ?_
        refine AllReadyH.cons (o := _) rfl (fun K hK => ?_) ?_
        · simp only [List.getElem_toArray, List.getElem_cons_succ, List.getElem_cons_zero]
          rw [if_pos (by rfl)]
          refine wp_key_alloc (by rfl) ?_
          refine hK.out _ _ ?_ (fun hHeld => ?_)
          · exact (((Below.refl _ _).drew.alloc (Nat.le_refl _) _).trans (hb2.mono (by first | (simp; done) | (simp; omega)))).alloc (by first | omega | (simp; done) | (simp; omega) | (have h := hb2.size; simp at h; omega) | (have h := hb2.size; simp at h ⊢; omega)) _
          clear hK K
          try simp only [Act.put, List.setIfInBounds_toArray, List.set_cons_zero, List.set_cons_succ]
          refine wpAnyH_ready (rs := [18]) (by kernel_rfl) (by simp) ?_
          refine AllReadyH.cons (o := _) rfl (fun K hK => ?_) ?_
          · simp only [List.getElem_toArray, List.getElem_cons_succ, List.getElem_cons_zero]
            rw [if_pos (by rfl)]
            refine wp_store_row 23 (.tmp 15) (.tmp 69) (by rfl) w2.heap.size (vals kl).toArray (by rfl) (by rfl) 23 (vals (zs 32)).toArray (heap_at _ _ _ rfl) (by rw [List.size_toArray, vals_length, HKL.out]; exact key_size) (by simp [vals_length, zs_length, HKL.out]) (u8_all kl) ?_
            refine hK.out _ _ ?_ (fun hHeld => ?_)
            · exact below_setRow ((((Below.refl _ _).drew.alloc (Nat.le_refl _) _).trans (hb2.mono (by first | (simp; done) | (simp; omega)))).alloc (by first | omega | (simp; done) | (simp; omega) | (have h := hb2.size; simp at h; omega) | (have h := hb2.size; simp at h ⊢; omega)) _) (by first | omega | (simp; done) | (simp; omega) | (have h := hb2.size; simp at h; omega) | (have h := hb2.size; simp at h ⊢; omega)) _
            clear hK K
            try simp only [Act.put, List.setIfInBounds_toArray, List.set_cons_zero, List.set_cons_succ]
            refine wpAnyH_take (i := 19) (v := ?_) rfl (by kernel_rfl) (by kernel_rfl) (by kernel_rfl) (fun _ _ _ h => h) (Or.inl ⟨by rfl, ?_⟩) (by assumption) ?_
            rotate_left
            · intro w hSw; go_simp; try (with_reducible rfl)
            try simp only [List.getElem_toArray, List.getElem_cons_succ, List.getElem_cons_zero, Act.put, List.setIfInBounds_toArray, List.set_cons_zero, List.set_cons_succ]
            refine wpAnyH_done (by kernel_rfl) ?_ _
            refine NoPanic.normal ?_
            refine world_gen (fun W' => Below W2.heap.size W2 W' ∧ W'.heap[w2.heap.size]? = some (.cells (vals kl).toArray 23 (0, 0))) ⟨below_setRow ((((Below.refl _ _).drew.alloc (Nat.le_refl _) _).trans (hb2.mono (by first | (simp; done) | (simp; omega)))).alloc (by first | omega | (simp; done) | (simp; omega) | (have h := hb2.size; simp at h; omega) | (have h := hb2.size; simp at h ⊢; omega)) _) (by first | omega | (simp; done) | (simp; omega) | (have h := hb2.size; simp at h; omega) | (have h := hb2.size; simp at h ⊢; omega)) _, setRow_heap _ _ _ _ _ _ (heap_at _ _ _ rfl)⟩ (fun W3 hW3 => ?_)
            have e1 := keyLoad_at hW3.2 HKL.out
            have HB4 := Lib.hid (HB3.out.trans (hW3.1.mono HB3.out.size))
            clear hW3
            go_wp2
            go_ret
            exact ⟨ret_bool (by simp), HB4.out⟩
          exact AllReadyH.nil
        exact AllReadyH.nil
      refine AllReadyH.cons (o := _) rfl (fun K hK => ?_) ?_
      · simp only [List.getElem_toArray, List.getElem_cons_succ, List.getElem_cons_zero]
        rw [if_pos (by rfl)]
        refine wp_key_alloc (by rfl) ?_
        refine hK.out _ _ ?_ (fun hHeld => ?_)
        · exact ((Below.refl _ _).drew.alloc (Nat.le_refl _) _).alloc (by simp) _
        clear hK K
        try simp only [Act.put, List.setIfInBounds_toArray, List.set_cons_zero, List.set_cons_succ]
        refine wpAnyH_ready (rs := [13]) (by kernel_rfl) (by simp) ?_
        refine AllReadyH.cons (o := _) rfl (fun K hK => ?_) ?_
        · simp only [List.getElem_toArray, List.getElem_cons_succ, List.getElem_cons_zero]
          go_simp
          go_at_call 20
          refine Calls.mono (HC.out _ _ ?_) ?_
          · exact (heap_alloc2_old _ _ _)
          rintro e w2 ⟨rfl, hb2⟩
          refine hK.out _ _ ?_ (fun hHeld => ?_)
          · exact (((Below.refl _ _).drew.alloc (Nat.le_refl _) _).alloc (by simp) _).trans (hb2.mono (by first | (simp; done) | (simp; omega)))
          clear hK K
          try simp only [Act.put, List.setIfInBounds_toArray, List.set_cons_zero, List.set_cons_succ]
          refine wpAnyH_take (i := 14) (v := ?_) rfl (by kernel_rfl) (by kernel_rfl) (by kernel_rfl) (fun _ _ _ h => h) (Or.inl ⟨by rfl, ?_⟩) (by assumption) ?_
          rotate_left
          · intro w hSw; go_simp; try (with_reducible rfl)
          try simp only [List.getElem_toArray, List.getElem_cons_succ, List.getElem_cons_zero, Act.put, List.setIfInBounds_toArray, List.set_cons_zero, List.set_cons_succ]
          refine wpAnyH_take (i := 15) (v := ?_) rfl (by kernel_rfl) (by kernel_rfl) (by kernel_rfl) (fun _ _ _ h => h) (Or.inl ⟨by rfl, ?_⟩) (by assumption) ?_
          rotate_left
          · intro w hSw; go_simp; try (with_reducible rfl)
          try simp only [List.getElem_toArray, List.getElem_cons_succ, List.getElem_cons_zero, Act.put, List.setIfInBounds_toArray, List.set_cons_zero, List.set_cons_succ]
          refine wpAnyH_take (i := 16) (v := ?_) rfl (by kernel_rfl) (by kernel_rfl) (by kernel_rfl) (fun _ _ _ h => h) (Or.inl ⟨by rfl, ?_⟩) (by assumption) ?_
          rotate_left
          · intro w hSw; go_simp; try (with_reducible rfl)
          try simp only [List.getElem_toArray, List.getElem_cons_succ, List.getElem_cons_zero, Act.put, List.setIfInBounds_toArray, List.set_cons_zero, List.set_cons_succ]
          refine wpAnyH_ready (rs := [18]) (by kernel_rfl) (by simp) ?_
          refine AllReadyH.cons (o := _) rfl (fun K hK => ?_) ?_
          · simp only [List.getElem_toArray, List.getElem_cons_succ, List.getElem_cons_zero]
            rw [if_pos (by rfl)]
            refine wp_store_row 23 (.tmp 15) (.tmp 69) (by rfl) (W2.heap.size + 1) (vals kl).toArray (by rfl) (by rfl) 23 (vals (zs 32)).toArray ((hb2.block _ (by first | (simp; done) | (simp; omega))).trans (heap_alloc2_new _ _ _)) (by rw [List.size_toArray, vals_length, HKL.out]; exact key_size) (by simp [vals_length, zs_length, HKL.out]) (u8_all kl) ?_
            refine hK.out _ _ ?_ (fun hHeld => ?_)
            · exact below_setRow ((((Below.refl _ _).drew.alloc (Nat.le_refl _) _).alloc (by simp) _).trans (hb2.mono (by first | (simp; done) | (simp; omega)))) (by first | omega | (simp; done) | (simp; omega) | (have h := hb2.size; simp at h; omega) | (have h := hb2.size; simp at h ⊢; omega)) _
            clear hK K
            try simp only [Act.put, List.setIfInBounds_toArray, List.set_cons_zero, List.set_cons_succ]
            refine wpAnyH_take (i := 19) (v := ?_) rfl (by kernel_rfl) (by kernel_rfl) (by kernel_rfl) (fun _ _ _ h => h) (Or.inl ⟨by rfl, ?_⟩) (by assumption) ?_
            rotate_left
            · intro w hSw; go_simp; try (with_reducible rfl)
            try simp only [List.getElem_toArray, List.getElem_cons_succ, List.getElem_cons_zero, Act.put, List.setIfInBounds_toArray, List.set_cons_zero, List.set_cons_succ]
            refine wpAnyH_done (by kernel_rfl) ?_ _
            refine NoPanic.normal ?_
            refine world_gen (fun W' => Below W2.heap.size W2 W' ∧ W'.heap[(W2.heap.size + 1)]? = some (.cells (vals kl).toArray 23 (0, 0))) ⟨below_setRow ((((Below.refl _ _).drew.alloc (Nat.le_refl _) _).alloc (by simp) _).trans (hb2.mono (by first | (simp; done) | (simp; omega)))) (by first | omega | (simp; done) | (simp; omega) | (have h := hb2.size; simp at h; omega) | (have h := hb2.size; simp at h ⊢; omega)) _, setRow_heap _ _ _ _ _ _ ((hb2.block _ (by first | (simp; done) | (simp; omega))).trans (heap_alloc2_new _ _ _))⟩ (fun W3 hW3 => ?_)
            have e1 := keyLoad_at hW3.2 HKL.out
            have HB4 := Lib.hid (HB3.out.trans (hW3.1.mono HB3.out.size))
            clear hW3
            go_wp2
            go_ret
            exact ⟨ret_bool (by simp), HB4.out⟩
          exact AllReadyH.nil
        exact AllReadyH.nil
      exact AllReadyH.nil
    refine AllReadyH.cons (o := _) rfl (fun K hK => ?_) ?_
    · simp only [List.getElem_toArray, List.getElem_cons_succ, List.getElem_cons_zero]
      rw [if_pos (by rfl)]
      refine wp_key_alloc (by rfl) ?_
      refine hK.out _ _ ?_ (fun hHeld => ?_)
      · exact (Below.refl _ _).drew.alloc (Nat.le_refl _) _
      clear hK K
      try simp only [Act.put, List.setIfInBounds_toArray, List.set_cons_zero, List.set_cons_succ]
      refine wpAnyH_ready (rs := [12]) (by kernel_rfl) (by simp) ?_
      refine AllReadyH.cons (o := _) rfl (fun K hK => ?_) ?_
      · simp only [List.getElem_toArray, List.getElem_cons_succ, List.getElem_cons_zero]
        rw [if_pos (by rfl)]
        refine wp_shares3 (.tmp 58) (.tmp 62) (.tmp 66) (by rfl) la lb lc (by rfl) (by rfl) (by rfl) hla hlb hlc ?_
        refine hK.out _ _ ?_ (fun hHeld => ?_)
        · exact ((Below.refl _ _).drew.alloc (Nat.le_refl _) _).alloc (by simp) _
        clear hK K
        try simp only [Act.put, List.setIfInBounds_toArray, List.set_cons_zero, List.set_cons_succ]
        refine wpAnyH_ready (rs := [13]) (by kernel_rfl) (by simp) ?_
        refine AllReadyH.cons (o := _) rfl (fun K hK => ?_) ?_
        · simp only [List.getElem_toArray, List.getElem_cons_succ, List.getElem_cons_zero]
          go_simp
          go_at_call 20
          refine Calls.mono (HC.out _ _ ?_) ?_
          · exact (heap_alloc2_new _ _ _)
          rintro e w2 ⟨rfl, hb2⟩
          refine hK.out _ _ ?_ (fun hHeld => ?_)
          · exact (((Below.refl _ _).drew.alloc (Nat.le_refl _) _).alloc (by simp) _).trans (hb2.mono (by first | (simp; done) | (simp; omega)))
          clear hK K
          try simp only [Act.put, List.setIfInBounds_toArray, List.set_cons_zero, List.set_cons_succ]
          refine wpAnyH_take (i := 14) (v := ?_) rfl (by kernel_rfl) (by kernel_rfl) (by kernel_rfl) (fun _ _ _ h => h) (Or.inl ⟨by rfl, ?_⟩) (by assumption) ?_
          rotate_left
          · intro w hSw; go_simp; try (with_reducible rfl)
          try simp only [List.getElem_toArray, List.getElem_cons_succ, List.getElem_cons_zero, Act.put, List.setIfInBounds_toArray, List.set_cons_zero, List.set_cons_succ]
          refine wpAnyH_take (i := 15) (v := ?_) rfl (by kernel_rfl) (by kernel_rfl) (by kernel_rfl) (fun _ _ _ h => h) (Or.inl ⟨by rfl, ?_⟩) (by assumption) ?_
          rotate_left
          · intro w hSw; go_simp; try (with_reducible rfl)
          try simp only [List.getElem_toArray, List.getElem_cons_succ, List.getElem_cons_zero, Act.put, List.setIfInBounds_toArray, List.set_cons_zero, List.set_cons_succ]
          refine wpAnyH_take (i := 16) (v := ?_) rfl (by kernel_rfl) (by kernel_rfl) (by kernel_rfl) (fun _ _ _ h => h) (Or.inl ⟨by rfl, ?_⟩) (by assumption) ?_
          rotate_left
          · intro w hSw; go_simp; try (with_reducible rfl)
          try simp only [List.getElem_toArray, List.getElem_cons_succ, List.getElem_cons_zero, Act.put, List.setIfInBounds_toArray, List.set_cons_zero, List.set_cons_succ]
          refine wpAnyH_ready (rs := [18]) (by kernel_rfl) (by simp) ?_
          refine AllReadyH.cons (o := _) rfl (fun K hK => ?_) ?_
          · simp only [List.getElem_toArray, List.getElem_cons_succ, List.getElem_cons_zero]
            rw [if_pos (by rfl)]
            refine wp_store_row 23 (.tmp 15) (.tmp 69) (by rfl) W2.heap.size (vals kl).toArray (by rfl) (by rfl) 23 (vals (zs 32)).toArray ((hb2.block _ (by first | (simp; done) | (simp; omega))).trans (heap_alloc2_old _ _ _)) (by rw [List.size_toArray, vals_length, HKL.out]; exact key_size) (by simp [vals_length, zs_length, HKL.out]) (u8_all kl) ?_
            refine hK.out _ _ ?_ (fun hHeld => ?_)
            · exact below_setRow ((((Below.refl _ _).drew.alloc (Nat.le_refl _) _).alloc (by simp) _).trans (hb2.mono (by first | (simp; done) | (simp; omega)))) (by first | omega | (simp; done) | (simp; omega) | (have h := hb2.size; simp at h; omega) | (have h := hb2.size; simp at h ⊢; omega)) _
            clear hK K
            try simp only [Act.put, List.setIfInBounds_toArray, List.set_cons_zero, List.set_cons_succ]
            refine wpAnyH_take (i := 19) (v := ?_) rfl (by kernel_rfl) (by kernel_rfl) (by kernel_rfl) (fun _ _ _ h => h) (Or.inl ⟨by rfl, ?_⟩) (by assumption) ?_
            rotate_left
            · intro w hSw; go_simp; try (with_reducible rfl)
            try simp only [List.getElem_toArray, List.getElem_cons_succ, List.getElem_cons_zero, Act.put, List.setIfInBounds_toArray, List.set_cons_zero, List.set_cons_succ]
            refine wpAnyH_done (by kernel_rfl) ?_ _
            refine NoPanic.normal ?_
            refine world_gen (fun W' => Below W2.heap.size W2 W' ∧ W'.heap[W2.heap.size]? = some (.cells (vals kl).toArray 23 (0, 0))) ⟨below_setRow ((((Below.refl _ _).drew.alloc (Nat.le_refl _) _).alloc (by simp) _).trans (hb2.mono (by first | (simp; done) | (simp; omega)))) (by first | omega | (simp; done) | (simp; omega) | (have h := hb2.size; simp at h; omega) | (have h := hb2.size; simp at h ⊢; omega)) _, setRow_heap _ _ _ _ _ _ ((hb2.block _ (by first | (simp; done) | (simp; omega))).trans (heap_alloc2_old _ _ _))⟩ (fun W3 hW3 => ?_)
            have e1 := keyLoad_at hW3.2 HKL.out
            have HB4 := Lib.hid (HB3.out.trans (hW3.1.mono HB3.out.size))
            clear hW3
            go_wp2
            go_ret
            exact ⟨ret_bool (by simp), HB4.out⟩
          exact AllReadyH.nil
        exact AllReadyH.nil
      exact AllReadyH.nil
    exact AllReadyH.nil
  · by_cases n2 : ia = ic
    · have f1 : ((ia : Int) == (ib : Int)) = false := beq_eq_false_iff_ne.2 (by omega)
      have f2 : ((ia : Int) == (ic : Int)) = true := by rw [n2]; simp
      have N2 := Lib.hid n2
      clear n2
      have HKE := HNO.out (fun h => h.2.1 N2.out)
      obtain ⟨kl, hkl⟩ : ∃ kl, kl = (zs 32) := ⟨_, rfl⟩
      have HKL : Hid (kl.length = 32) := by rw [Hid, hkl]; exact (zs_length 32)
      have hq := fun W : World => key_eql kl (zs 32) HKL.out (zs_length 32) W
      rw [show decide (kl = (zs 32)) = true from by simp [hkl]] at hq
      rw [← hkl] at HKE
      clear hkl
      have HC : Hid (∀ (g : Nat) (W : World), W.heap[g]? = some (.cells (vals (la ++ (lb ++ lc))).toArray 34 (0, 0)) → Calls Try.prog 20 #[.slice (some ⟨g, 0, none⟩) 3 3] W fun e w' => e = .returned (.tuple #[.agg (vals kl).toArray, .int .i64 1]) ∧ Below W.heap.size W w') := fun g W h => by
        have h2 : Shs W (some ⟨g, 0, none⟩) [la, lb, lc] := shs_of_block _ (by simp [hla, hlb, hlc]) (by simpa using h)
        have h3 := Join_c (some ⟨g, 0, none⟩) 3 3 [la, lb, lc] W rfl h2
        rw [HKE] at h3
        exact h3
      refine wp_region_noPanic ?_
      refine wp_region_held_drew (S := fun W => Below W2.heap.size W2 W) (by kernel_rfl) ((Below.refl _ _).drew) (fun hHeld => ?_)
      refine wpAnyH_take (i := 0) (v := ?_) rfl (by kernel_rfl) (by kernel_rfl) (by kernel_rfl) (fun _ _ _ h => h) (Or.inl ⟨by rfl, ?_⟩) (by assumption) ?_
      rotate_left
      · intro w hSw; go_simp; try (with_reducible rfl)
      try simp only [List.getElem_toArray, List.getElem_cons_succ, List.getElem_cons_zero, Act.put, List.setIfInBounds_toArray, List.set_cons_zero, List.set_cons_succ]
      refine wpAnyH_take (i := 1) (v := ?_) rfl (by kernel_rfl) (by kernel_rfl) (by kernel_rfl) (fun _ _ _ h => h) (Or.inl ⟨by rfl, ?_⟩) (by assumption) ?_
      rotate_left
      · intro w hSw; go_simp; try (with_reducible rfl)
      try simp only [List.getElem_toArray, List.getElem_cons_succ, List.getElem_cons_zero, Act.put, List.setIfInBounds_toArray, List.set_cons_zero, List.set_cons_succ]
      refine wpAnyH_take (i := 2) (v := ?_) rfl (by kernel_rfl) (by kernel_rfl) (by kernel_rfl) (fun _ _ _ h => h) (Or.inl ⟨by rfl, ?_⟩) (by assumption) ?_
      rotate_left
      · intro w hSw; go_simp; try (with_reducible rfl)
      try simp only [List.getElem_toArray, List.getElem_cons_succ, List.getElem_cons_zero, Act.put, List.setIfInBounds_toArray, List.set_cons_zero, List.set_cons_succ]
      refine' wpAnyH_take (i := 3) (v := _) rfl (by kernel_rfl) (by kernel_rfl) (by kernel_rfl) (fun _ _ _ h => h) (yieldsIf_load_mid (by rfl) _ _ rfl _ _ rfl _ _ (fun W hW => range_below hra hW) hu (by rfl) hia) (by assumption) ?_
      try simp only [List.getElem_toArray, List.getElem_cons_succ, List.getElem_cons_zero, Act.put, List.setIfInBounds_toArray, List.set_cons_zero, List.set_cons_succ]
      refine wpAnyH_take (i := 4) (v := ?_) rfl (by kernel_rfl) (by kernel_rfl) (by kernel_rfl) (fun _ _ _ h => h) (Or.inl ⟨by rfl, ?_⟩) (by assumption) ?_
      rotate_left
      · intro w hSw; go_simp; try (with_reducible rfl)
      try simp only [List.getElem_toArray, List.getElem_cons_succ, List.getElem_cons_zero, Act.put, List.setIfInBounds_toArray, List.set_cons_zero, List.set_cons_succ]
      refine wpAnyH_take (i := 5) (v := ?_) rfl (by kernel_rfl) (by kernel_rfl) (by kernel_rfl) (fun _ _ _ h => h) (Or.inl ⟨by rfl, ?_⟩) (by assumption) ?_
      rotate_left
      · intro w hSw; go_simp; try (with_reducible rfl)
      try simp only [List.getElem_toArray, List.getElem_cons_succ, List.getElem_cons_zero, Act.put, List.setIfInBounds_toArray, List.set_cons_zero, List.set_cons_succ]
      refine wpAnyH_take (i := 6) (v := ?_) rfl (by kernel_rfl) (by kernel_rfl) (by kernel_rfl) (fun _ _ _ h => h) (Or.inl ⟨by rfl, ?_⟩) (by assumption) ?_
      rotate_left
      · intro w hSw; go_simp; try (with_reducible rfl)
      try simp only [List.getElem_toArray, List.getElem_cons_succ, List.getElem_cons_zero, Act.put, List.setIfInBounds_toArray, List.set_cons_zero, List.set_cons_succ]
      refine' wpAnyH_take (i := 7) (v := _) rfl (by kernel_rfl) (by kernel_rfl) (by kernel_rfl) (fun _ _ _ h => h) (yieldsIf_load_mid (by rfl) _ _ rfl _ _ rfl _ _ (fun W hW => range_below hrb hW) hu (by rfl) hib) (by assumption) ?_
      try simp only [List.getElem_toArray, List.getElem_cons_succ, List.getElem_cons_zero, Act.put, List.setIfInBounds_toArray, List.set_cons_zero, List.set_cons_succ]
      refine wpAnyH_take (i := 8) (v := ?_) rfl (by kernel_rfl) (by kernel_rfl) (by kernel_rfl) (fun _ _ _ h => h) (Or.inl ⟨by rfl, ?_⟩) (by assumption) ?_
      rotate_left
      · intro w hSw; go_simp; try (with_reducible rfl)
      try simp only [List.getElem_toArray, List.getElem_cons_succ, List.getElem_cons_zero, Act.put, List.setIfInBounds_toArray, List.set_cons_zero, List.set_cons_succ]
      refine wpAnyH_take (i := 9) (v := ?_) rfl (by kernel_rfl) (by kernel_rfl) (by kernel_rfl) (fun _ _ _ h => h) (Or.inl ⟨by rfl, ?_⟩) (by assumption) ?_
      rotate_left
      · intro w hSw; go_simp; try (with_reducible rfl)
      try simp only [List.getElem_toArray, List.getElem_cons_succ, List.getElem_cons_zero, Act.put, List.setIfInBounds_toArray, List.set_cons_zero, List.set_cons_succ]
      refine wpAnyH_take (i := 10) (v := ?_) rfl (by kernel_rfl) (by kernel_rfl) (by kernel_rfl) (fun _ _ _ h => h) (Or.inl ⟨by rfl, ?_⟩) (by assumption) ?_
      rotate_left
      · intro w hSw; go_simp; try (with_reducible rfl)
      try simp only [List.getElem_toArray, List.getElem_cons_succ, List.getElem_cons_zero, Act.put, List.setIfInBounds_toArray, List.set_cons_zero, List.set_cons_succ]
      refine' wpAnyH_take (i := 11) (v := _) rfl (by kernel_rfl) (by kernel_rfl) (by kernel_rfl) (fun _ _ _ h => h) (yieldsIf_load_mid (by rfl) _ _ rfl _ _ rfl _ _ (fun W hW => range_below hrc hW) hu (by rfl) hic) (by assumption) ?_
      try simp only [List.getElem_toArray, List.getElem_cons_succ, List.getElem_cons_zero, Act.put, List.setIfInBounds_toArray, List.set_cons_zero, List.set_cons_succ]
      refine wpAnyH_ready (rs := [12, 17]) (by kernel_rfl) (by simp) ?_
      refine AllReadyH.cons (o := _) rfl (fun K hK => ?_) ?_
      · simp only [List.getElem_toArray, List.getElem_cons_succ, List.getElem_cons_zero]
        rw [if_pos (by rfl)]
        refine wp_shares3 (.tmp 58) (.tmp 62) (.tmp 66) (by rfl) la lb lc (by rfl) (by rfl) (by rfl) hla hlb hlc ?_
        refine hK.out _ _ ?_ (fun hHeld => ?_)
        · exact (Below.refl _ _).drew.alloc (Nat.le_refl _) _
        clear hK K
        try simp only [Act.put, List.setIfInBounds_toArray, List.set_cons_zero, List.set_cons_succ]
        refine wpAnyH_ready (rs := [13, 17]) (by kernel_rfl) (by simp) ?_
        refine AllReadyH.cons (o := _) rfl (fun K hK => ?_) ?_
        · simp only [List.getElem_toArray, List.getElem_cons_succ, List.getElem_cons_zero]
          go_simp
          go_at_call 20
          refine Calls.mono (HC.out _ _ ?_) ?_
          · exact (heap_at _ _ _ rfl)
          rintro e w2 ⟨rfl, hb2⟩
          refine hK.out _ _ ?_ (fun hHeld => ?_)
          · exact ((Below.refl _ _).drew.alloc (Nat.le_refl _) _).trans (hb2.mono (by first | (simp; done) | (simp; omega)))
          clear hK K
          try simp only [Act.put, List.setIfInBounds_toArray, List.set_cons_zero, List.set_cons_succ]
          refine wpAnyH_take (i := 14) (v := ?_) rfl (by kernel_rfl) (by kernel_rfl) (by kernel_rfl) (fun _ _ _ h => h) (Or.inl ⟨by rfl, ?_⟩) (by assumption) ?_
          rotate_left
          · intro w hSw; go_simp; try (with_reducible rfl)
          try simp only [List.getElem_toArray, List.getElem_cons_succ, List.getElem_cons_zero, Act.put, List.setIfInBounds_toArray, List.set_cons_zero, List.set_cons_succ]
          refine wpAnyH_take (i := 15) (v := ?_) rfl (by kernel_rfl) (by kernel_rfl) (by kernel_rfl) (fun _ _ _ h => h) (Or.inl ⟨by rfl, ?_⟩) (by assumption) ?_
          rotate_left
          · intro w hSw; go_simp; try (with_reducible rfl)
          try simp only [List.getElem_toArray, List.getElem_cons_succ, List.getElem_cons_zero, Act.put, List.setIfInBounds_toArray, List.set_cons_zero, List.set_cons_succ]
          refine wpAnyH_take (i := 16) (v := ?_) rfl (by kernel_rfl) (by kernel_rfl) (by kernel_rfl) (fun _ _ _ h => h) (Or.inl ⟨by rfl, ?_⟩) (by assumption) ?_
          rotate_left
          · intro w hSw; go_simp; try (with_reducible rfl)
          try simp only [List.getElem_toArray, List.getElem_cons_succ, List.getElem_cons_zero, Act.put, List.setIfInBounds_toArray, List.set_cons_zero, List.set_cons_succ]
          refine wpAnyH_ready (rs := [17]) (by kernel_rfl) (by simp) ?_
          refine AllReadyH.cons (o := _) rfl (fun K hK => ?_) ?_
          · simp only [List.getElem_toArray, List.getElem_cons_succ, List.getElem_cons_zero]
            rw [if_pos (by rfl)]
            refine wp_key_alloc (by rfl) ?_
            refine hK.out _ _ ?_ (fun hHeld => ?_)
            · exact (((Below.refl _ _).drew.alloc (Nat.le_refl _) _).trans (hb2.mono (by first | (simp; done) | (simp; omega)))).alloc (by first | omega | (simp; done) | (simp; omega) | (have h := hb2.size; simp at h; omega) | (have h := hb2.size; simp at h ⊢; omega)) _
            clear hK K
            try simp only [Act.put, List.setIfInBounds_toArray, List.set_cons_zero, List.set_cons_succ]
            refine wpAnyH_ready (rs := [18]) (by kernel_rfl) (by simp) ?_
            refine AllReadyH.cons (o := _) rfl (fun K hK => ?_) ?_
            · simp only [List.getElem_toArray, List.getElem_cons_succ, List.getElem_cons_zero]
              rw [if_pos (by rfl)]
              refine wp_store_row 23 (.tmp 15) (.tmp 69) (by rfl) w2.heap.size (vals kl).toArray (by rfl) (by rfl) 23 (vals (zs 32)).toArray (heap_at _ _ _ rfl) (by rw [List.size_toArray, vals_length, HKL.out]; exact key_size) (by simp [vals_length, zs_length, HKL.out]) (u8_all kl) ?_
              refine hK.out _ _ ?_ (fun hHeld => ?_)
              · exact below_setRow ((((Below.refl _ _).drew.alloc (Nat.le_refl _) _).trans (hb2.mono (by first | (simp; done) | (simp; omega)))).alloc (by first | omega | (simp; done) | (simp; omega) | (have h := hb2.size; simp at h; omega) | (have h := hb2.size; simp at h ⊢; omega)) _) (by first | omega | (simp; done) | (simp; omega) | (have h := hb2.size; simp at h; omega) | (have h := hb2.size; simp at h ⊢; omega)) _
              clear hK K
              try simp only [Act.put, List.setIfInBounds_toArray, List.set_cons_zero, List.set_cons_succ]
              refine wpAnyH_take (i := 19) (v := ?_) rfl (by kernel_rfl) (by kernel_rfl) (by kernel_rfl) (fun _ _ _ h => h) (Or.inl ⟨by rfl, ?_⟩) (by assumption) ?_
              rotate_left
              · intro w hSw; go_simp; try (with_reducible rfl)
              try simp only [List.getElem_toArray, List.getElem_cons_succ, List.getElem_cons_zero, Act.put, List.setIfInBounds_toArray, List.set_cons_zero, List.set_cons_succ]
              refine wpAnyH_done (by kernel_rfl) ?_ _
              refine NoPanic.normal ?_
              refine world_gen (fun W' => Below W2.heap.size W2 W' ∧ W'.heap[w2.heap.size]? = some (.cells (vals kl).toArray 23 (0, 0))) ⟨below_setRow ((((Below.refl _ _).drew.alloc (Nat.le_refl _) _).trans (hb2.mono (by first | (simp; done) | (simp; omega)))).alloc (by first | omega | (simp; done) | (simp; omega) | (have h := hb2.size; simp at h; omega) | (have h := hb2.size; simp at h ⊢; omega)) _) (by first | omega | (simp; done) | (simp; omega) | (have h := hb2.size; simp at h; omega) | (have h := hb2.size; simp at h ⊢; omega)) _, setRow_heap _ _ _ _ _ _ (heap_at _ _ _ rfl)⟩ (fun W3 hW3 => ?_)
              have e1 := keyLoad_at hW3.2 HKL.out
              have HB4 := Lib.hid (HB3.out.trans (hW3.1.mono HB3.out.size))
              clear hW3
              go_wp2
              go_ret
              exact ⟨ret_bool (by simp), HB4.out⟩
            exact AllReadyH.nil
          exact AllReadyH.nil
        refine AllReadyH.cons (o := _) rfl (fun K hK => ?_) ?_
        · simp only [List.getElem_toArray, List.getElem_cons_succ, List.getElem_cons_zero]
          rw [if_pos (by rfl)]
          refine wp_key_alloc (by rfl) ?_
          refine hK.out _ _ ?_ (fun hHeld => ?_)
          · exact ((Below.refl _ _).drew.alloc (Nat.le_refl _) _).alloc (by simp) _
          clear hK K
          try simp only [Act.put, List.setIfInBounds_toArray, List.set_cons_zero, List.set_cons_succ]
          refine wpAnyH_ready (rs := [13]) (by kernel_rfl) (by simp) ?_
          refine AllReadyH.cons (o := _) rfl (fun K hK => ?_) ?_
          · simp only [List.getElem_toArray, List.getElem_cons_succ, List.getElem_cons_zero]
            go_simp
            go_at_call 20
            refine Calls.mono (HC.out _ _ ?_) ?_
            · exact (heap_alloc2_old _ _ _)
            rintro e w2 ⟨rfl, hb2⟩
            refine hK.out _ _ ?_ (fun hHeld => ?_)
            · exact (((Below.refl _ _).drew.alloc (Nat.le_refl _) _).alloc (by simp) _).trans (hb2.mono (by first | (simp; done) | (simp; omega)))
            clear hK K
            try simp only [Act.put, List.setIfInBounds_toArray, List.set_cons_zero, List.set_cons_succ]
            refine wpAnyH_take (i := 14) (v := ?_) rfl (by kernel_rfl) (by kernel_rfl) (by kernel_rfl) (fun _ _ _ h => h) (Or.inl ⟨by rfl, ?_⟩) (by assumption) ?_
            rotate_left
            · intro w hSw; go_simp; try (with_reducible rfl)
            try simp only [List.getElem_toArray, List.getElem_cons_succ, List.getElem_cons_zero, Act.put, List.setIfInBounds_toArray, List.set_cons_zero, List.set_cons_succ]
            refine wpAnyH_take (i := 15) (v := ?_) rfl (by kernel_rfl) (by kernel_rfl) (by kernel_rfl) (fun _ _ _ h => h) (Or.inl ⟨by rfl, ?_⟩) (by assumption) ?_
            rotate_left
            · intro w hSw; go_simp; try (with_reducible rfl)
            try simp only [List.getElem_toArray, List.getElem_cons_succ, List.getElem_cons_zero, Act.put, List.setIfInBounds_toArray, List.set_cons_zero, List.set_cons_succ]
            refine wpAnyH_take (i := 16) (v := ?_) rfl (by kernel_rfl) (by kernel_rfl) (by kernel_rfl) (fun _ _ _ h => h) (Or.inl ⟨by rfl, ?_⟩) (by assumption) ?_
            rotate_left
            · intro w hSw; go_simp; try (with_reducible rfl)
            try simp only [List.getElem_toArray, List.getElem_cons_succ, List.getElem_cons_zero, Act.put, List.setIfInBounds_toArray, List.set_cons_zero, List.set_cons_succ]
            refine wpAnyH_ready (rs := [18]) (by kernel_rfl) (by simp) ?_
            refine AllReadyH.cons (o := _) rfl (fun K hK => ?_) ?_
            · simp only [List.getElem_toArray, List.getElem_cons_succ, List.getElem_cons_zero]
              rw [if_pos (by rfl)]
              refine wp_store_row 23 (.tmp 15) (.tmp 69) (by rfl) (W2.heap.size + 1) (vals kl).toArray (by rfl) (by rfl) 23 (vals (zs 32)).toArray ((hb2.block _ (by first | (simp; done) | (simp; omega))).trans (heap_alloc2_new _ _ _)) (by rw [List.size_toArray, vals_length, HKL.out]; exact key_size) (by simp [vals_length, zs_length, HKL.out]) (u8_all kl) ?_
              refine hK.out _ _ ?_ (fun hHeld => ?_)
              · exact below_setRow ((((Below.refl _ _).drew.alloc (Nat.le_refl _) _).alloc (by simp) _).trans (hb2.mono (by first | (simp; done) | (simp; omega)))) (by first | omega | (simp; done) | (simp; omega) | (have h := hb2.size; simp at h; omega) | (have h := hb2.size; simp at h ⊢; omega)) _
              clear hK K
              try simp only [Act.put, List.setIfInBounds_toArray, List.set_cons_zero, List.set_cons_succ]
              refine wpAnyH_take (i := 19) (v := ?_) rfl (by kernel_rfl) (by kernel_rfl) (by kernel_rfl) (fun _ _ _ h => h) (Or.inl ⟨by rfl, ?_⟩) (by assumption) ?_
              rotate_left
              · intro w hSw; go_simp; try (with_reducible rfl)
              try simp only [List.getElem_toArray, List.getElem_cons_succ, List.getElem_cons_zero, Act.put, List.setIfInBounds_toArray, List.set_cons_zero, List.set_cons_succ]
              refine wpAnyH_done (by kernel_rfl) ?_ _
              refine NoPanic.normal ?_
              refine world_gen (fun W' => Below W2.heap.size W2 W' ∧ W'.heap[(W2.heap.size + 1)]? = some (.cells (vals kl).toArray 23 (0, 0))) ⟨below_setRow ((((Below.refl _ _).drew.alloc (Nat.le_refl _) _).alloc (by simp) _).trans (hb2.mono (by first | (simp; done) | (simp; omega)))) (by first | omega | (simp; done) | (simp; omega) | (have h := hb2.size; simp at h; omega) | (have h := hb2.size; simp at h ⊢; omega)) _, setRow_heap _ _ _ _ _ _ ((hb2.block _ (by first | (simp; done) | (simp; omega))).trans (heap_alloc2_new _ _ _))⟩ (fun W3 hW3 => ?_)
              have e1 := keyLoad_at hW3.2 HKL.out
              have HB4 := Lib.hid (HB3.out.trans (hW3.1.mono HB3.out.size))
              clear hW3
              go_wp2
              go_ret
              exact ⟨ret_bool (by simp), HB4.out⟩
            exact AllReadyH.nil
          exact AllReadyH.nil
        exact AllReadyH.nil
      refine AllReadyH.cons (o := _) rfl (fun K hK => ?_) ?_
      · simp only [List.getElem_toArray, List.getElem_cons_succ, List.getElem_cons_zero]
        rw [if_pos (by rfl)]
        refine wp_key_alloc (by rfl) ?_
        refine hK.out _ _ ?_ (fun hHeld => ?_)
        · exact (Below.refl _ _).drew.alloc (Nat.le_refl _) _
        clear hK K
        try simp only [Act.put, List.setIfInBounds_toArray, List.set_cons_zero, List.set_cons_succ]
        refine wpAnyH_ready (rs := [12]) (by kernel_rfl) (by simp) ?_
        refine AllReadyH.cons (o := _) rfl (fun K hK => ?_) ?_
        · simp only [List.getElem_toArray, List.getElem_cons_succ, List.getElem_cons_zero]
          rw [if_pos (by rfl)]
          refine wp_shares3 (.tmp 58) (.tmp 62) (.tmp 66) (by rfl) la lb lc (by rfl) (by rfl) (by rfl) hla hlb hlc ?_
          refine hK.out _ _ ?_ (fun hHeld => ?_)
          · exact ((Below.refl _ _).drew.alloc (Nat.le_refl _) _).alloc (by simp) _
          clear hK K
          try simp only [Act.put, List.setIfInBounds_toArray, List.set_cons_zero, List.set_cons_succ]
          refine wpAnyH_ready (rs := [13]) (by kernel_rfl) (by simp) ?_
          refine AllReadyH.cons (o := _) rfl (fun K hK => ?_) ?_
          · simp only [List.getElem_toArray, List.getElem_cons_succ, List.getElem_cons_zero]
            go_simp
            go_at_call 20
            refine Calls.mono (HC.out _ _ ?_) ?_
            · exact (heap_alloc2_new _ _ _)
            rintro e w2 ⟨rfl, hb2⟩
            refine hK.out _ _ ?_ (fun hHeld => ?_)
            · exact (((Below.refl _ _).drew.alloc (Nat.le_refl _) _).alloc (by simp) _).trans (hb2.mono (by first | (simp; done) | (simp; omega)))
            clear hK K
            try simp only [Act.put, List.setIfInBounds_toArray, List.set_cons_zero, List.set_cons_succ]
            refine wpAnyH_take (i := 14) (v := ?_) rfl (by kernel_rfl) (by kernel_rfl) (by kernel_rfl) (fun _ _ _ h => h) (Or.inl ⟨by rfl, ?_⟩) (by assumption) ?_
            rotate_left
            · intro w hSw; go_simp; try (with_reducible rfl)
            try simp only [List.getElem_toArray, List.getElem_cons_succ, List.getElem_cons_zero, Act.put, List.setIfInBounds_toArray, List.set_cons_zero, List.set_cons_succ]
            refine wpAnyH_take (i := 15) (v := ?_) rfl (by kernel_rfl) (by kernel_rfl) (by kernel_rfl) (fun _ _ _ h => h) (Or.inl ⟨by rfl, ?_⟩) (by assumption) ?_
            rotate_left
            · intro w hSw; go_simp; try (with_reducible rfl)
            try simp only [List.getElem_toArray, List.getElem_cons_succ, List.getElem_cons_zero, Act.put, List.setIfInBounds_toArray, List.set_cons_zero, List.set_cons_succ]
            refine wpAnyH_take (i := 16) (v := ?_) rfl (by kernel_rfl) (by kernel_rfl) (by kernel_rfl) (fun _ _ _ h => h) (Or.inl ⟨by rfl, ?_⟩) (by assumption) ?_
            rotate_left
            · intro w hSw; go_simp; try (with_reducible rfl)
            try simp only [List.getElem_toArray, List.getElem_cons_succ, List.getElem_cons_zero, Act.put, List.setIfInBounds_toArray, List.set_cons_zero, List.set_cons_succ]
            refine wpAnyH_ready (rs := [18]) (by kernel_rfl) (by simp) ?_
            refine AllReadyH.cons (o := _) rfl (fun K hK => ?_) ?_
            · simp only [List.getElem_toArray, List.getElem_cons_succ, List.getElem_cons_zero]
              rw [if_pos (by rfl)]
              refine wp_store_row 23 (.tmp 15) (.tmp 69) (by rfl) W2.heap.size (vals kl).toArray (by rfl) (by rfl) 23 (vals (zs 32)).toArray ((hb2.block _ (by first | (simp; done) | (simp; omega))).trans (heap_alloc2_old _ _ _)) (by rw [List.size_toArray, vals_length, HKL.out]; exact key_size) (by simp [vals_length, zs_length, HKL.out]) (u8_all kl) ?_
              refine hK.out _ _ ?_ (fun hHeld => ?_)
              · exact below_setRow ((((Below.refl _ _).drew.alloc (Nat.le_refl _) _).alloc (by simp) _).trans (hb2.mono (by first | (simp; done) | (simp; omega)))) (by first | omega | (simp; done) | (simp; omega) | (have h := hb2.size; simp at h; omega) | (have h := hb2.size; simp at h ⊢; omega)) _
              clear hK K
              try simp only [Act.put, List.setIfInBounds_toArray, List.set_cons_zero, List.set_cons_succ]
              refine wpAnyH_take (i := 19) (v := ?_) rfl (by kernel_rfl) (by kernel_rfl) (by kernel_rfl) (fun _ _ _ h => h) (Or.inl ⟨by rfl, ?_⟩) (by assumption) ?_
              rotate_left
              · intro w hSw; go_simp; try (with_reducible rfl)
              try simp only [List.getElem_toArray, List.getElem_cons_succ, List.getElem_cons_zero, Act.put, List.setIfInBounds_toArray, List.set_cons_zero, List.set_cons_succ]
              refine wpAnyH_done (by kernel_rfl) ?_ _
              refine NoPanic.normal ?_
              refine world_gen (fun W' => Below W2.heap.size W2 W' ∧ W'.heap[W2.heap.size]? = some (.cells (vals kl).toArray 23 (0, 0))) ⟨below_setRow ((((Below.refl _ _).drew.alloc (Nat.le_refl _) _).alloc (by simp) _).trans (hb2.mono (by first | (simp; done) | (simp; omega)))) (by first | omega | (simp; done) | (simp; omega) | (have h := hb2.size; simp at h; omega) | (have h := hb2.size; simp at h ⊢; omega)) _, setRow_heap _ _ _ _ _ _ ((hb2.block _ (by first | (simp; done) | (simp; omega))).trans (heap_alloc2_old _ _ _))⟩ (fun W3 hW3 => ?_)
              have e1 := keyLoad_at hW3.2 HKL.out
              have HB4 := Lib.hid (HB3.out.trans (hW3.1.mono HB3.out.size))
              clear hW3
              go_wp2
              go_ret
              exact ⟨ret_bool (by simp), HB4.out⟩
            exact AllReadyH.nil
          exact AllReadyH.nil
        exact AllReadyH.nil
      exact AllReadyH.nil
    · by_cases n3 : ib = ic
      · have f1 : ((ia : Int) == (ib : Int)) = false := beq_eq_false_iff_ne.2 (by omega)
        have f2 : ((ia : Int) == (ic : Int)) = false := beq_eq_false_iff_ne.2 (by omega)
        have f3 : ((ib : Int) == (ic : Int)) = true := by rw [n3]; simp
        have N3 := Lib.hid n3
        clear n3
        have HKE := HNO.out (fun h => h.2.2 N3.out)
        obtain ⟨kl, hkl⟩ : ∃ kl, kl = (zs 32) := ⟨_, rfl⟩
        have HKL : Hid (kl.length = 32) := by rw [Hid, hkl]; exact (zs_length 32)
        have hq := fun W : World => key_eql kl (zs 32) HKL.out (zs_length 32) W
        rw [show decide (kl = (zs 32)) = true from by simp [hkl]] at hq
        rw [← hkl] at HKE
        clear hkl
        have HC : Hid (∀ (g : Nat) (W : World), W.heap[g]? = some (.cells (vals (la ++ (lb ++ lc))).toArray 34 (0, 0)) → Calls Try.prog 20 #[.slice (some ⟨g, 0, none⟩) 3 3] W fun e w' => e = .returned (.tuple #[.agg (vals kl).toArray, .int .i64 1]) ∧ Below W.heap.size W w') := fun g W h => by
          have h2 : Shs W (some ⟨g, 0, none⟩) [la, lb, lc] := shs_of_block _ (by simp [hla, hlb, hlc]) (by simpa using h)
          have h3 := Join_c (some ⟨g, 0, none⟩) 3 3 [la, lb, lc] W rfl h2
          rw [HKE] at h3
          exact h3
        refine wp_region_noPanic ?_
        refine wp_region_held_drew (S := fun W => Below W2.heap.size W2 W) (by kernel_rfl) ((Below.refl _ _).drew) (fun hHeld => ?_)
        refine wpAnyH_take (i := 0) (v := ?_) rfl (by kernel_rfl) (by kernel_rfl) (by kernel_rfl) (fun _ _ _ h => h) (Or.inl ⟨by rfl, ?_⟩) (by assumption) ?_
        rotate_left
        · intro w hSw; go_simp; try (with_reducible rfl)
        try simp only [List.getElem_toArray, List.getElem_cons_succ, List.getElem_cons_zero, Act.put, List.setIfInBounds_toArray, List.set_cons_zero, List.set_cons_succ]
        refine wpAnyH_take (i := 1) (v := ?_) rfl (by kernel_rfl) (by kernel_rfl) (by kernel_rfl) (fun _ _ _ h => h) (Or.inl ⟨by rfl, ?_⟩) (by assumption) ?_
        rotate_left
        · intro w hSw; go_simp; try (with_reducible rfl)
        try simp only [List.getElem_toArray, List.getElem_cons_succ, List.getElem_cons_zero, Act.put, List.setIfInBounds_toArray, List.set_cons_zero, List.set_cons_succ]
        refine wpAnyH_take (i := 2) (v := ?_) rfl (by kernel_rfl) (by kernel_rfl) (by kernel_rfl) (fun _ _ _ h => h) (Or.inl ⟨by rfl, ?_⟩) (by assumption) ?_
        rotate_left
        · intro w hSw; go_simp; try (with_reducible rfl)
        try simp only [List.getElem_toArray, List.getElem_cons_succ, List.getElem_cons_zero, Act.put, List.setIfInBounds_toArray, List.set_cons_zero, List.set_cons_succ]
        refine' wpAnyH_take (i := 3) (v := _) rfl (by kernel_rfl) (by kernel_rfl) (by kernel_rfl) (fun _ _ _ h => h) (yieldsIf_load_mid (by rfl) _ _ rfl _ _ rfl _ _ (fun W hW => range_below hra hW) hu (by rfl) hia) (by assumption) ?_
        try simp only [List.getElem_toArray, List.getElem_cons_succ, List.getElem_cons_zero, Act.put, List.setIfInBounds_toArray, List.set_cons_zero, List.set_cons_succ]
        refine wpAnyH_take (i := 4) (v := ?_) rfl (by kernel_rfl) (by kernel_rfl) (by kernel_rfl) (fun _ _ _ h => h) (Or.inl ⟨by rfl, ?_⟩) (by assumption) ?_
        rotate_left
        · intro w hSw; go_simp; try (with_reducible rfl)
        try simp only [List.getElem_toArray, List.getElem_cons_succ, List.getElem_cons_zero, Act.put, List.setIfInBounds_toArray, List.set_cons_zero, List.set_cons_succ]
        refine wpAnyH_take (i := 5) (v := ?_) rfl (by kernel_rfl) (by kernel_rfl) (by kernel_rfl) (fun _ _ _ h => h) (Or.inl ⟨by rfl, ?_⟩) (by assumption) ?_
        rotate_left
        · intro w hSw; go_simp; try (with_reducible rfl)
        try simp only [List.getElem_toArray, List.getElem_cons_succ, List.getElem_cons_zero, Act.put, List.setIfInBounds_toArray, List.set_cons_zero, List.set_cons_succ]
        refine wpAnyH_take (i := 6) (v := ?_) rfl (by kernel_rfl) (by kernel_rfl) (by kernel_rfl) (fun _ _ _ h => h) (Or.inl ⟨by rfl, ?_⟩) (by assumption) ?_
        rotate_left
        · intro w hSw; go_simp; try (with_reducible rfl)
        try simp only [List.getElem_toArray, List.getElem_cons_succ, List.getElem_cons_zero, Act.put, List.setIfInBounds_toArray, List.set_cons_zero, List.set_cons_succ]
        refine' wpAnyH_take (i := 7) (v := _) rfl (by kernel_rfl) (by kernel_rfl) (by kernel_rfl) (fun _ _ _ h => h) (yieldsIf_load_mid (by rfl) _ _ rfl _ _ rfl _ _ (fun W hW => range_below hrb hW) hu (by rfl) hib) (by assumption) ?_
        try simp only [List.getElem_toArray, List.getElem_cons_succ, List.getElem_cons_zero, Act.put, List.setIfInBounds_toArray, List.set_cons_zero, List.set_cons_succ]
        refine wpAnyH_take (i := 8) (v := ?_) rfl (by kernel_rfl) (by kernel_rfl) (by kernel_rfl) (fun _ _ _ h => h) (Or.inl ⟨by rfl, ?_⟩) (by assumption) ?_
        rotate_left
        · intro w hSw; go_simp; try (with_reducible rfl)
        try simp only [List.getElem_toArray, List.getElem_cons_succ, List.getElem_cons_zero, Act.put, List.setIfInBounds_toArray, List.set_cons_zero, List.set_cons_succ]
        refine wpAnyH_take (i := 9) (v := ?_) rfl (by kernel_rfl) (by kernel_rfl) (by kernel_rfl) (fun _ _ _ h => h) (Or.inl ⟨by rfl, ?_⟩) (by assumption) ?_
        rotate_left
        · intro w hSw; go_simp; try (with_reducible rfl)
        try simp only [List.getElem_toArray, List.getElem_cons_succ, List.getElem_cons_zero, Act.put, List.setIfInBounds_toArray, List.set_cons_zero, List.set_cons_succ]
        refine wpAnyH_take (i := 10) (v := ?_) rfl (by kernel_rfl) (by kernel_rfl) (by kernel_rfl) (fun _ _ _ h => h) (Or.inl ⟨by rfl, ?_⟩) (by assumption) ?_
        rotate_left
        · intro w hSw; go_simp; try (with_reducible rfl)
        try simp only [List.getElem_toArray, List.getElem_cons_succ, List.getElem_cons_zero, Act.put, List.setIfInBounds_toArray, List.set_cons_zero, List.set_cons_succ]
        refine' wpAnyH_take (i := 11) (v := _) rfl (by kernel_rfl) (by kernel_rfl) (by kernel_rfl) (fun _ _ _ h => h) (yieldsIf_load_mid (by rfl) _ _ rfl _ _ rfl _ _ (fun W hW => range_below hrc hW) hu (by rfl) hic) (by assumption) ?_
        try simp only [List.getElem_toArray, List.getElem_cons_succ, List.getElem_cons_zero, Act.put, List.setIfInBounds_toArray, List.set_cons_zero, List.set_cons_succ]
        refine wpAnyH_ready (rs := [12, 17]) (by kernel_rfl) (by simp) ?_
        refine AllReadyH.cons (o := _) rfl (fun K hK => ?_) ?_
        · simp only [List.getElem_toArray, List.getElem_cons_succ, List.getElem_cons_zero]
          rw [if_pos (by rfl)]
          refine wp_shares3 (.tmp 58) (.tmp 62) (.tmp 66) (by rfl) la lb lc (by rfl) (by rfl) (by rfl) hla hlb hlc ?_
          refine hK.out _ _ ?_ (fun hHeld => ?_)
          · exact (Below.refl _ _).drew.alloc (Nat.le_refl _) _
          clear hK K
          try simp only [Act.put, List.setIfInBounds_toArray, List.set_cons_zero, List.set_cons_succ]
          refine wpAnyH_ready (rs := [13, 17]) (by kernel_rfl) (by simp) ?_
          refine AllReadyH.cons (o := _) rfl (fun K hK => ?_) ?_
          · simp only [List.getElem_toArray, List.getElem_cons_succ, List.getElem_cons_zero]
            go_simp
            go_at_call 20
            refine Calls.mono (HC.out _ _ ?_) ?_
            · exact (heap_at _ _ _ rfl)
            rintro e w2 ⟨rfl, hb2⟩
            refine hK.out _ _ ?_ (fun hHeld => ?_)
            · exact ((Below.refl _ _).drew.alloc (Nat.le_refl _) _).trans (hb2.mono (by first | (simp; done) | (simp; omega)))
            clear hK K
            try simp only [Act.put, List.setIfInBounds_toArray, List.set_cons_zero, List.set_cons_succ]
            refine wpAnyH_take (i := 14) (v := ?_) rfl (by kernel_rfl) (by kernel_rfl) (by kernel_rfl) (fun _ _ _ h => h) (Or.inl ⟨by rfl, ?_⟩) (by assumption) ?_
            rotate_left
            · intro w hSw; go_simp; try (with_reducible rfl)
            try simp only [List.getElem_toArray, List.getElem_cons_succ, List.getElem_cons_zero, Act.put, List.setIfInBounds_toArray, List.set_cons_zero, List.set_cons_succ]
            refine wpAnyH_take (i := 15) (v := ?_) rfl (by kernel_rfl) (by kernel_rfl) (by kernel_rfl) (fun _ _ _ h => h) (Or.inl ⟨by rfl, ?_⟩) (by assumption) ?_
            rotate_left
            · intro w hSw; go_simp; try (with_reducible rfl)
            try simp only [List.getElem_toArray, List.getElem_cons_succ, List.getElem_cons_zero, Act.put, List.setIfInBounds_toArray, List.set_cons_zero, List.set_cons_succ]
            refine wpAnyH_take (i := 16) (v := ?_) rfl (by kernel_rfl) (by kernel_rfl) (by kernel_rfl) (fun _ _ _ h => h) (Or.inl ⟨by rfl, ?_⟩) (by assumption) ?_
            rotate_left
            · intro w hSw; go_simp; try (with_reducible rfl)
            try simp only [List.getElem_toArray, List.getElem_cons_succ, List.getElem_cons_zero, Act.put, List.setIfInBounds_toArray, List.set_cons_zero, List.set_cons_succ]
            refine wpAnyH_ready (rs := [17]) (by kernel_rfl) (by simp) ?_
            refine AllReadyH.cons (o := _) rfl (fun K hK => ?_) ?_
            · simp only [List.getElem_toArray, List.getElem_cons_succ, List.getElem_cons_zero]
              rw [if_pos (by rfl)]
              refine wp_key_alloc (by rfl) ?_
              refine hK.out _ _ ?_ (fun hHeld => ?_)
              · exact (((Below.refl _ _).drew.alloc (Nat.le_refl _) _).trans (hb2.mono (by first | (simp; done) | (simp; omega)))).alloc (by first | omega | (simp; done) | (simp; omega) | (have h := hb2.size; simp at h; omega) | (have h := hb2.size; simp at h ⊢; omega)) _
              clear hK K
              try simp only [Act.put, List.setIfInBounds_toArray, List.set_cons_zero, List.set_cons_succ]
              refine wpAnyH_ready (rs := [18]) (by kernel_rfl) (by simp) ?_
              refine AllReadyH.cons (o := _) rfl (fun K hK => ?_) ?_
              · simp only [List.getElem_toArray, List.getElem_cons_succ, List.getElem_cons_zero]
                rw [if_pos (by rfl)]
                refine wp_store_row 23 (.tmp 15) (.tmp 69) (by rfl) w2.heap.size (vals kl).toArray (by rfl) (by rfl) 23 (vals (zs 32)).toArray (heap_at _ _ _ rfl) (by rw [List.size_toArray, vals_length, HKL.out]; exact key_size) (by simp [vals_length, zs_length, HKL.out]) (u8_all kl) ?_
                refine hK.out _ _ ?_ (fun hHeld => ?_)
                · exact below_setRow ((((Below.refl _ _).drew.alloc (Nat.le_refl _) _).trans (hb2.mono (by first | (simp; done) | (simp; omega)))).alloc (by first | omega | (simp; done) | (simp; omega) | (have h := hb2.size; simp at h; omega) | (have h := hb2.size; simp at h ⊢; omega)) _) (by first | omega | (simp; done) | (simp; omega) | (have h := hb2.size; simp at h; omega) | (have h := hb2.size; simp at h ⊢; omega)) _
                clear hK K
                try simp only [Act.put, List.setIfInBounds_toArray, List.set_cons_zero, List.set_cons_succ]
                refine wpAnyH_take (i := 19) (v := ?_) rfl (by kernel_rfl) (by kernel_rfl) (by kernel_rfl) (fun _ _ _ h => h) (Or.inl ⟨by rfl, ?_⟩) (by assumption) ?_
                rotate_left
                · intro w hSw; go_simp; try (with_reducible rfl)
                try simp only [List.getElem_toArray, List.getElem_cons_succ, List.getElem_cons_zero, Act.put, List.setIfInBounds_toArray, List.set_cons_zero, List.set_cons_succ]
                refine wpAnyH_done (by kernel_rfl) ?_ _
                refine NoPanic.normal ?_
                refine world_gen (fun W' => Below W2.heap.size W2 W' ∧ W'.heap[w2.heap.size]? = some (.cells (vals kl).toArray 23 (0, 0))) ⟨below_setRow ((((Below.refl _ _).drew.alloc (Nat.le_refl _) _).trans (hb2.mono (by first | (simp; done) | (simp; omega)))).alloc (by first | omega | (simp; done) | (simp; omega) | (have h := hb2.size; simp at h; omega) | (have h := hb2.size; simp at h ⊢; omega)) _) (by first | omega | (simp; done) | (simp; omega) | (have h := hb2.size; simp at h; omega) | (have h := hb2.size; simp at h ⊢; omega)) _, setRow_heap _ _ _ _ _ _ (heap_at _ _ _ rfl)⟩ (fun W3 hW3 => ?_)
                have e1 := keyLoad_at hW3.2 HKL.out
                have HB4 := Lib.hid (HB3.out.trans (hW3.1.mono HB3.out.size))
                clear hW3
                go_wp2
                go_ret
                exact ⟨ret_bool (by simp), HB4.out⟩
              exact AllReadyH.nil
            exact AllReadyH.nil
          refine AllReadyH.cons (o := _) rfl (fun K hK => ?_) ?_
          · simp only [List.getElem_toArray, List.getElem_cons_succ, List.getElem_cons_zero]
            rw [if_pos (by rfl)]
            refine wp_key_alloc (by rfl) ?_
            refine hK.out _ _ ?_ (fun hHeld => ?_)
            · exact ((Below.refl _ _).drew.alloc (Nat.le_refl _) _).alloc (by simp) _
            clear hK K
            try simp only [Act.put, List.setIfInBounds_toArray, List.set_cons_zero, List.set_cons_succ]
            refine wpAnyH_ready (rs := [13]) (by kernel_rfl) (by simp) ?_
            refine AllReadyH.cons (o := _) rfl (fun K hK => ?_) ?_
            · simp only [List.getElem_toArray, List.getElem_cons_succ, List.getElem_cons_zero]
              go_simp
              go_at_call 20
              refine Calls.mono (HC.out _ _ ?_) ?_
              · exact (heap_alloc2_old _ _ _)
              rintro e w2 ⟨rfl, hb2⟩
              refine hK.out _ _ ?_ (fun hHeld => ?_)
              · exact (((Below.refl _ _).drew.alloc (Nat.le_refl _) _).alloc (by simp) _).trans (hb2.mono (by first | (simp; done) | (simp; omega)))
              clear hK K
              try simp only [Act.put, List.setIfInBounds_toArray, List.set_cons_zero, List.set_cons_succ]
              refine wpAnyH_take (i := 14) (v := ?_) rfl (by kernel_rfl) (by kernel_rfl) (by kernel_rfl) (fun _ _ _ h => h) (Or.inl ⟨by rfl, ?_⟩) (by assumption) ?_
              rotate_left
              · intro w hSw; go_simp; try (with_reducible rfl)
              try simp only [List.getElem_toArray, List.getElem_cons_succ, List.getElem_cons_zero, Act.put, List.setIfInBounds_toArray, List.set_cons_zero, List.set_cons_succ]
              refine wpAnyH_take (i := 15) (v := ?_) rfl (by kernel_rfl) (by kernel_rfl) (by kernel_rfl) (fun _ _ _ h => h) (Or.inl ⟨by rfl, ?_⟩) (by assumption) ?_
              rotate_left
              · intro w hSw; go_simp; try (with_reducible rfl)
              try simp only [List.getElem_toArray, List.getElem_cons_succ, List.getElem_cons_zero, Act.put, List.setIfInBounds_toArray, List.set_cons_zero, List.set_cons_succ]
              refine wpAnyH_take (i := 16) (v := ?_) rfl (by kernel_rfl) (by kernel_rfl) (by kernel_rfl) (fun _ _ _ h => h) (Or.inl ⟨by rfl, ?_⟩) (by assumption) ?_
              rotate_left
              · intro w hSw; go_simp; try (with_reducible rfl)
              try simp only [List.getElem_toArray, List.getElem_cons_succ, List.getElem_cons_zero, Act.put, List.setIfInBounds_toArray, List.set_cons_zero, List.set_cons_succ]
              refine wpAnyH_ready (rs := [18]) (by kernel_rfl) (by simp) ?_
              refine AllReadyH.cons (o := _) rfl (fun K hK => ?_) ?_
              · simp only [List.getElem_toArray, List.getElem_cons_succ, List.getElem_cons_zero]
                rw [if_pos (by rfl)]
                refine wp_store_row 23 (.tmp 15) (.tmp 69) (by rfl) (W2.heap.size + 1) (vals kl).toArray (by rfl) (by rfl) 23 (vals (zs 32)).toArray ((hb2.block _ (by first | (simp; done) | (simp; omega))).trans (heap_alloc2_new _ _ _)) (by rw [List.size_toArray, vals_length, HKL.out]; exact key_size) (by simp [vals_length, zs_length, HKL.out]) (u8_all kl) ?_
                refine hK.out _ _ ?_ (fun hHeld => ?_)
                · exact below_setRow ((((Below.refl _ _).drew.alloc (Nat.le_refl _) _).alloc (by simp) _).trans (hb2.mono (by first | (simp; done) | (simp; omega)))) (by first | omega | (simp; done) | (simp; omega) | (have h := hb2.size; simp at h; omega) | (have h := hb2.size; simp at h ⊢; omega)) _
                clear hK K
                try simp only [Act.put, List.setIfInBounds_toArray, List.set_cons_zero, List.set_cons_succ]
                refine wpAnyH_take (i := 19) (v := ?_) rfl (by kernel_rfl) (by kernel_rfl) (by kernel_rfl) (fun _ _ _ h => h) (Or.inl ⟨by rfl, ?_⟩) (by assumption) ?_
                rotate_left
                · intro w hSw; go_simp; try (with_reducible rfl)
                try simp only [List.getElem_toArray, List.getElem_cons_succ, List.getElem_cons_zero, Act.put, List.setIfInBounds_toArray, List.set_cons_zero, List.set_cons_succ]
                refine wpAnyH_done (by kernel_rfl) ?_ _
                refine NoPanic.normal ?_
                refine world_gen (fun W' => Below W2.heap.size W2 W' ∧ W'.heap[(W2.heap.size + 1)]? = some (.cells (vals kl).toArray 23 (0, 0))) ⟨below_setRow ((((Below.refl _ _).drew.alloc (Nat.le_refl _) _).alloc (by simp) _).trans (hb2.mono (by first | (simp; done) | (simp; omega)))) (by first | omega | (simp; done) | (simp; omega) | (have h := hb2.size; simp at h; omega) | (have h := hb2.size; simp at h ⊢; omega)) _, setRow_heap _ _ _ _ _ _ ((hb2.block _ (by first | (simp; done) | (simp; omega))).trans (heap_alloc2_new _ _ _))⟩ (fun W3 hW3 => ?_)
                have e1 := keyLoad_at hW3.2 HKL.out
                have HB4 := Lib.hid (HB3.out.trans (hW3.1.mono HB3.out.size))
                clear hW3
                go_wp2
                go_ret
                exact ⟨ret_bool (by simp), HB4.out⟩
              exact AllReadyH.nil
            exact AllReadyH.nil
          exact AllReadyH.nil
        refine AllReadyH.cons (o := _) rfl (fun K hK => ?_) ?_
        · simp only [List.getElem_toArray, List.getElem_cons_succ, List.getElem_cons_zero]
          rw [if_pos (by rfl)]
          refine wp_key_alloc (by rfl) ?_
          refine hK.out _ _ ?_ (fun hHeld => ?_)
          · exact (Below.refl _ _).drew.alloc (Nat.le_refl _) _
          clear hK K
          try simp only [Act.put, List.setIfInBounds_toArray, List.set_cons_zero, List.set_cons_succ]
          refine wpAnyH_ready (rs := [12]) (by kernel_rfl) (by simp) ?_
          refine AllReadyH.cons (o := _) rfl (fun K hK => ?_) ?_
          · simp only [List.getElem_toArray, List.getElem_cons_succ, List.getElem_cons_zero]
            rw [if_pos (by rfl)]
            refine wp_shares3 (.tmp 58) (.tmp 62) (.tmp 66) (by rfl) la lb lc (by rfl) (by rfl) (by rfl) hla hlb hlc ?_
            refine hK.out _ _ ?_ (fun hHeld => ?_)
            · exact ((Below.refl _ _).drew.alloc (Nat.le_refl _) _).alloc (by simp) _
            clear hK K
            try simp only [Act.put, List.setIfInBounds_toArray, List.set_cons_zero, List.set_cons_succ]
            refine wpAnyH_ready (rs := [13]) (by kernel_rfl) (by simp) ?_
            refine AllReadyH.cons (o := _) rfl (fun K hK => ?_) ?_
            · simp only [List.getElem_toArray, List.getElem_cons_succ, List.getElem_cons_zero]
              go_simp
              go_at_call 20
              refine Calls.mono (HC.out _ _ ?_) ?_
              · exact (heap_alloc2_new _ _ _)
              rintro e w2 ⟨rfl, hb2⟩
              refine hK.out _ _ ?_ (fun hHeld => ?_)
              · exact (((Below.refl _ _).drew.alloc (Nat.le_refl _) _).alloc (by simp) _).trans (hb2.mono (by first | (simp; done) | (simp; omega)))
              clear hK K
              try simp only [Act.put, List.setIfInBounds_toArray, List.set_cons_zero, List.set_cons_succ]
              refine wpAnyH_take (i := 14) (v := ?_) rfl (by kernel_rfl) (by kernel_rfl) (by kernel_rfl) (fun _ _ _ h => h) (Or.inl ⟨by rfl, ?_⟩) (by assumption) ?_
              rotate_left
              · intro w hSw; go_simp; try (with_reducible rfl)
              try simp only [List.getElem_toArray, List.getElem_cons_succ, List.getElem_cons_zero, Act.put, List.setIfInBounds_toArray, List.set_cons_zero, List.set_cons_succ]
              refine wpAnyH_take (i := 15) (v := ?_) rfl (by kernel_rfl) (by kernel_rfl) (by kernel_rfl) (fun _ _ _ h => h) (Or.inl ⟨by rfl, ?_⟩) (by assumption) ?_
              rotate_left
              · intro w hSw; go_simp; try (with_reducible rfl)
              try simp only [List.getElem_toArray, List.getElem_cons_succ, List.getElem_cons_zero, Act.put, List.setIfInBounds_toArray, List.set_cons_zero, List.set_cons_succ]
              refine wpAnyH_take (i := 16) (v := ?_) rfl (by kernel_rfl) (by kernel_rfl) (by kernel_rfl) (fun _ _ _ h => h) (Or.inl ⟨by rfl, ?_⟩) (by assumption) ?_
              rotate_left
              · intro w hSw; go_simp; try (with_reducible rfl)
              try simp only [List.getElem_toArray, List.getElem_cons_succ, List.getElem_cons_zero, Act.put, List.setIfInBounds_toArray, List.set_cons_zero, List.set_cons_succ]
              refine wpAnyH_ready (rs := [18]) (by kernel_rfl) (by simp) ?_
              refine AllReadyH.cons (o := _) rfl (fun K hK => ?_) ?_
              · simp only [List.getElem_toArray, List.getElem_cons_succ, List.getElem_cons_zero]
                rw [if_pos (by rfl)]
                refine wp_store_row 23 (.tmp 15) (.tmp 69) (by rfl) W2.heap.size (vals kl).toArray (by rfl) (by rfl) 23 (vals (zs 32)).toArray ((hb2.block _ (by first | (simp; done) | (simp; omega))).trans (heap_alloc2_old _ _ _)) (by rw [List.size_toArray, vals_length, HKL.out]; exact key_size) (by simp [vals_length, zs_length, HKL.out]) (u8_all kl) ?_
                refine hK.out _ _ ?_ (fun hHeld => ?_)
                · exact below_setRow ((((Below.refl _ _).drew.alloc (Nat.le_refl _) _).alloc (by simp) _).trans (hb2.mono (by first | (simp; done) | (simp; omega)))) (by first | omega | (simp; done) | (simp; omega) | (have h := hb2.size; simp at h; omega) | (have h := hb2.size; simp at h ⊢; omega)) _
                clear hK K
                try simp only [Act.put, List.setIfInBounds_toArray, List.set_cons_zero, List.set_cons_succ]
                refine wpAnyH_take (i := 19) (v := ?_) rfl (by kernel_rfl) (by kernel_rfl) (by kernel_rfl) (fun _ _ _ h => h) (Or.inl ⟨by rfl, ?_⟩) (by assumption) ?_
                rotate_left
                · intro w hSw; go_simp; try (with_reducible rfl)
                try simp only [List.getElem_toArray, List.getElem_cons_succ, List.getElem_cons_zero, Act.put, List.setIfInBounds_toArray, List.set_cons_zero, List.set_cons_succ]
                refine wpAnyH_done (by kernel_rfl) ?_ _
                refine NoPanic.normal ?_
                refine world_gen (fun W' => Below W2.heap.size W2 W' ∧ W'.heap[W2.heap.size]? = some (.cells (vals kl).toArray 23 (0, 0))) ⟨below_setRow ((((Below.refl _ _).drew.alloc (Nat.le_refl _) _).alloc (by simp) _).trans (hb2.mono (by first | (simp; done) | (simp; omega)))) (by first | omega | (simp; done) | (simp; omega) | (have h := hb2.size; simp at h; omega) | (have h := hb2.size; simp at h ⊢; omega)) _, setRow_heap _ _ _ _ _ _ ((hb2.block _ (by first | (simp; done) | (simp; omega))).trans (heap_alloc2_old _ _ _))⟩ (fun W3 hW3 => ?_)
                have e1 := keyLoad_at hW3.2 HKL.out
                have HB4 := Lib.hid (HB3.out.trans (hW3.1.mono HB3.out.size))
                clear hW3
                go_wp2
                go_ret
                exact ⟨ret_bool (by simp), HB4.out⟩
              exact AllReadyH.nil
            exact AllReadyH.nil
          exact AllReadyH.nil
        exact AllReadyH.nil
      · have f1 : ((ia : Int) == (ib : Int)) = false := beq_eq_false_iff_ne.2 (by omega)
        have f2 : ((ia : Int) == (ic : Int)) = false := beq_eq_false_iff_ne.2 (by omega)
        have f3 : ((ib : Int) == (ic : Int)) = false := beq_eq_false_iff_ne.2 (by omega)
        have HKE := HYES.out ⟨n1, n2, n3⟩
        obtain ⟨kl, hkl⟩ : ∃ kl, kl = s := ⟨_, rfl⟩
        have HKL : Hid (kl.length = 32) := by rw [Hid, hkl]; exact HS.out
        have hq := fun W : World => key_eql kl s HKL.out HS.out W
        rw [show decide (kl = s) = true from by simp [hkl]] at hq
        rw [← hkl] at HKE
        clear hkl
        have HC : Hid (∀ (g : Nat) (W : World), W.heap[g]? = some (.cells (vals (la ++ (lb ++ lc))).toArray 34 (0, 0)) → Calls Try.prog 20 #[.slice (some ⟨g, 0, none⟩) 3 3] W fun e w' => e = .returned (.tuple #[.agg (vals kl).toArray, .int .i64 0]) ∧ Below W.heap.size W w') := fun g W h => by
          have h2 : Shs W (some ⟨g, 0, none⟩) [la, lb, lc] := shs_of_block _ (by simp [hla, hlb, hlc]) (by simpa using h)
          have h3 := Join_c (some ⟨g, 0, none⟩) 3 3 [la, lb, lc] W rfl h2
          rw [HKE] at h3
          exact h3
        refine wp_region_noPanic ?_
        refine wp_region_held_drew (S := fun W => Below W2.heap.size W2 W) (by kernel_rfl) ((Below.refl _ _).drew) (fun hHeld => ?_)
        refine wpAnyH_take (i := 0) (v := ?_) rfl (by kernel_rfl) (by kernel_rfl) (by kernel_rfl) (fun _ _ _ h => h) (Or.inl ⟨by rfl, ?_⟩) (by assumption) ?_
        rotate_left
        · intro w hSw; go_simp; try (with_reducible rfl)
        try simp only [List.getElem_toArray, List.getElem_cons_succ, List.getElem_cons_zero, Act.put, List.setIfInBounds_toArray, List.set_cons_zero, List.set_cons_succ]
        refine wpAnyH_take (i := 1) (v := ?_) rfl (by kernel_rfl) (by kernel_rfl) (by kernel_rfl) (fun _ _ _ h => h) (Or.inl ⟨by rfl, ?_⟩) (by assumption) ?_
        rotate_left
        · intro w hSw; go_simp; try (with_reducible rfl)
        try simp only [List.getElem_toArray, List.getElem_cons_succ, List.getElem_cons_zero, Act.put, List.setIfInBounds_toArray, List.set_cons_zero, List.set_cons_succ]
        refine wpAnyH_take (i := 2) (v := ?_) rfl (by kernel_rfl) (by kernel_rfl) (by kernel_rfl) (fun _ _ _ h => h) (Or.inl ⟨by rfl, ?_⟩) (by assumption) ?_
        rotate_left
        · intro w hSw; go_simp; try (with_reducible rfl)
        try simp only [List.getElem_toArray, List.getElem_cons_succ, List.getElem_cons_zero, Act.put, List.setIfInBounds_toArray, List.set_cons_zero, List.set_cons_succ]
        refine' wpAnyH_take (i := 3) (v := _) rfl (by kernel_rfl) (by kernel_rfl) (by kernel_rfl) (fun _ _ _ h => h) (yieldsIf_load_mid (by rfl) _ _ rfl _ _ rfl _ _ (fun W hW => range_below hra hW) hu (by rfl) hia) (by assumption) ?_
        try simp only [List.getElem_toArray, List.getElem_cons_succ, List.getElem_cons_zero, Act.put, List.setIfInBounds_toArray, List.set_cons_zero, List.set_cons_succ]
        refine wpAnyH_take (i := 4) (v := ?_) rfl (by kernel_rfl) (by kernel_rfl) (by kernel_rfl) (fun _ _ _ h => h) (Or.inl ⟨by rfl, ?_⟩) (by assumption) ?_
        rotate_left
        · intro w hSw; go_simp; try (with_reducible rfl)
        try simp only [List.getElem_toArray, List.getElem_cons_succ, List.getElem_cons_zero, Act.put, List.setIfInBounds_toArray, List.set_cons_zero, List.set_cons_succ]
        refine wpAnyH_take (i := 5) (v := ?_) rfl (by kernel_rfl) (by kernel_rfl) (by kernel_rfl) (fun _ _ _ h => h) (Or.inl ⟨by rfl, ?_⟩) (by assumption) ?_
        rotate_left
        · intro w hSw; go_simp; try (with_reducible rfl)
        try simp only [List.getElem_toArray, List.getElem_cons_succ, List.getElem_cons_zero, Act.put, List.setIfInBounds_toArray, List.set_cons_zero, List.set_cons_succ]
        refine wpAnyH_take (i := 6) (v := ?_) rfl (by kernel_rfl) (by kernel_rfl) (by kernel_rfl) (fun _ _ _ h => h) (Or.inl ⟨by rfl, ?_⟩) (by assumption) ?_
        rotate_left
        · intro w hSw; go_simp; try (with_reducible rfl)
        try simp only [List.getElem_toArray, List.getElem_cons_succ, List.getElem_cons_zero, Act.put, List.setIfInBounds_toArray, List.set_cons_zero, List.set_cons_succ]
        refine' wpAnyH_take (i := 7) (v := _) rfl (by kernel_rfl) (by kernel_rfl) (by kernel_rfl) (fun _ _ _ h => h) (yieldsIf_load_mid (by rfl) _ _ rfl _ _ rfl _ _ (fun W hW => range_below hrb hW) hu (by rfl) hib) (by assumption) ?_
        try simp only [List.getElem_toArray, List.getElem_cons_succ, List.getElem_cons_zero, Act.put, List.setIfInBounds_toArray, List.set_cons_zero, List.set_cons_succ]
        refine wpAnyH_take (i := 8) (v := ?_) rfl (by kernel_rfl) (by kernel_rfl) (by kernel_rfl) (fun _ _ _ h => h) (Or.inl ⟨by rfl, ?_⟩) (by assumption) ?_
        rotate_left
        · intro w hSw; go_simp; try (with_reducible rfl)
        try simp only [List.getElem_toArray, List.getElem_cons_succ, List.getElem_cons_zero, Act.put, List.setIfInBounds_toArray, List.set_cons_zero, List.set_cons_succ]
        refine wpAnyH_take (i := 9) (v := ?_) rfl (by kernel_rfl) (by kernel_rfl) (by kernel_rfl) (fun _ _ _ h => h) (Or.inl ⟨by rfl, ?_⟩) (by assumption) ?_
        rotate_left
        · intro w hSw; go_simp; try (with_reducible rfl)
        try simp only [List.getElem_toArray, List.getElem_cons_succ, List.getElem_cons_zero, Act.put, List.setIfInBounds_toArray, List.set_cons_zero, List.set_cons_succ]
        refine wpAnyH_take (i := 10) (v := ?_) rfl (by kernel_rfl) (by kernel_rfl) (by kernel_rfl) (fun _ _ _ h => h) (Or.inl ⟨by rfl, ?_⟩) (by assumption) ?_
        rotate_left
        · intro w hSw; go_simp; try (with_reducible rfl)
        try simp only [List.getElem_toArray, List.getElem_cons_succ, List.getElem_cons_zero, Act.put, List.setIfInBounds_toArray, List.set_cons_zero, List.set_cons_succ]
        refine' wpAnyH_take (i := 11) (v := _) rfl (by kernel_rfl) (by kernel_rfl) (by kernel_rfl) (fun _ _ _ h => h) (yieldsIf_load_mid (by rfl) _ _ rfl _ _ rfl _ _ (fun W hW => range_below hrc hW) hu (by rfl) hic) (by assumption) ?_
        try simp only [List.getElem_toArray, List.getElem_cons_succ, List.getElem_cons_zero, Act.put, List.setIfInBounds_toArray, List.set_cons_zero, List.set_cons_succ]
        refine wpAnyH_ready (rs := [12, 17]) (by kernel_rfl) (by simp) ?_
        refine AllReadyH.cons (o := _) rfl (fun K hK => ?_) ?_
        · simp only [List.getElem_toArray, List.getElem_cons_succ, List.getElem_cons_zero]
          rw [if_pos (by rfl)]
          refine wp_shares3 (.tmp 58) (.tmp 62) (.tmp 66) (by rfl) la lb lc (by rfl) (by rfl) (by rfl) hla hlb hlc ?_
          refine hK.out _ _ ?_ (fun hHeld => ?_)
          · exact (Below.refl _ _).drew.alloc (Nat.le_refl _) _
          clear hK K
          try simp only [Act.put, List.setIfInBounds_toArray, List.set_cons_zero, List.set_cons_succ]
          refine wpAnyH_ready (rs := [13, 17]) (by kernel_rfl) (by simp) ?_
          refine AllReadyH.cons (o := _) rfl (fun K hK => ?_) ?_
          · simp only [List.getElem_toArray, List.getElem_cons_succ, List.getElem_cons_zero]
            go_simp
            go_at_call 20
            refine Calls.mono (HC.out _ _ ?_) ?_
            · exact (heap_at _ _ _ rfl)
            rintro e w2 ⟨rfl, hb2⟩
            refine hK.out _ _ ?_ (fun hHeld => ?_)
            · exact ((Below.refl _ _).drew.alloc (Nat.le_refl _) _).trans (hb2.mono (by first | (simp; done) | (simp; omega)))
            clear hK K
            try simp only [Act.put, List.setIfInBounds_toArray, List.set_cons_zero, List.set_cons_succ]
            refine wpAnyH_take (i := 14) (v := ?_) rfl (by kernel_rfl) (by kernel_rfl) (by kernel_rfl) (fun _ _ _ h => h) (Or.inl ⟨by rfl, ?_⟩) (by assumption) ?_
            rotate_left
            · intro w hSw; go_simp; try (with_reducible rfl)
            try simp only [List.getElem_toArray, List.getElem_cons_succ, List.getElem_cons_zero, Act.put, List.setIfInBounds_toArray, List.set_cons_zero, List.set_cons_succ]
            refine wpAnyH_take (i := 15) (v := ?_) rfl (by kernel_rfl) (by kernel_rfl) (by kernel_rfl) (fun _ _ _ h => h) (Or.inl ⟨by rfl, ?_⟩) (by assumption) ?_
            rotate_left
            · intro w hSw; go_simp; try (with_reducible rfl)
            try simp only [List.getElem_toArray, List.getElem_cons_succ, List.getElem_cons_zero, Act.put, List.setIfInBounds_toArray, List.set_cons_zero, List.set_cons_succ]
            refine wpAnyH_take (i := 16) (v := ?_) rfl (by kernel_rfl) (by kernel_rfl) (by kernel_rfl) (fun _ _ _ h => h) (Or.inl ⟨by rfl, ?_⟩) (by assumption) ?_
            rotate_left
            · intro w hSw; go_simp; try (with_reducible rfl)
            try simp only [List.getElem_toArray, List.getElem_cons_succ, List.getElem_cons_zero, Act.put, List.setIfInBounds_toArray, List.set_cons_zero, List.set_cons_succ]
            refine wpAnyH_ready (rs := [17]) (by kernel_rfl) (by simp) ?_
            refine AllReadyH.cons (o := _) rfl (fun K hK => ?_) ?_
            · simp only [List.getElem_toArray, List.getElem_cons_succ, List.getElem_cons_zero]
              rw [if_pos (by rfl)]
              refine wp_key_alloc (by rfl) ?_
              refine hK.out _ _ ?_ (fun hHeld => ?_)
              · exact (((Below.refl _ _).drew.alloc (Nat.le_refl _) _).trans (hb2.mono (by first | (simp; done) | (simp; omega)))).alloc (by first | omega | (simp; done) | (simp; omega) | (have h := hb2.size; simp at h; omega) | (have h := hb2.size; simp at h ⊢; omega)) _
              clear hK K
              try simp only [Act.put, List.setIfInBounds_toArray, List.set_cons_zero, List.set_cons_succ]
              refine wpAnyH_ready (rs := [18]) (by kernel_rfl) (by simp) ?_
              refine AllReadyH.cons (o := _) rfl (fun K hK => ?_) ?_
              · simp only [List.getElem_toArray, List.getElem_cons_succ, List.getElem_cons_zero]
                rw [if_pos (by rfl)]
                refine wp_store_row 23 (.tmp 15) (.tmp 69) (by rfl) w2.heap.size (vals kl).toArray (by rfl) (by rfl) 23 (vals (zs 32)).toArray (heap_at _ _ _ rfl) (by rw [List.size_toArray, vals_length, HKL.out]; exact key_size) (by simp [vals_length, zs_length, HKL.out]) (u8_all kl) ?_
                refine hK.out _ _ ?_ (fun hHeld => ?_)
                · exact below_setRow ((((Below.refl _ _).drew.alloc (Nat.le_refl _) _).trans (hb2.mono (by first | (simp; done) | (simp; omega)))).alloc (by first | omega | (simp; done) | (simp; omega) | (have h := hb2.size; simp at h; omega) | (have h := hb2.size; simp at h ⊢; omega)) _) (by first | omega | (simp; done) | (simp; omega) | (have h := hb2.size; simp at h; omega) | (have h := hb2.size; simp at h ⊢; omega)) _
                clear hK K
                try simp only [Act.put, List.setIfInBounds_toArray, List.set_cons_zero, List.set_cons_succ]
                refine wpAnyH_take (i := 19) (v := ?_) rfl (by kernel_rfl) (by kernel_rfl) (by kernel_rfl) (fun _ _ _ h => h) (Or.inl ⟨by rfl, ?_⟩) (by assumption) ?_
                rotate_left
                · intro w hSw; go_simp; try (with_reducible rfl)
                try simp only [List.getElem_toArray, List.getElem_cons_succ, List.getElem_cons_zero, Act.put, List.setIfInBounds_toArray, List.set_cons_zero, List.set_cons_succ]
                refine wpAnyH_done (by kernel_rfl) ?_ _
                refine NoPanic.normal ?_
                refine world_gen (fun W' => Below W2.heap.size W2 W' ∧ W'.heap[w2.heap.size]? = some (.cells (vals kl).toArray 23 (0, 0))) ⟨below_setRow ((((Below.refl _ _).drew.alloc (Nat.le_refl _) _).trans (hb2.mono (by first | (simp; done) | (simp; omega)))).alloc (by first | omega | (simp; done) | (simp; omega) | (have h := hb2.size; simp at h; omega) | (have h := hb2.size; simp at h ⊢; omega)) _) (by first | omega | (simp; done) | (simp; omega) | (have h := hb2.size; simp at h; omega) | (have h := hb2.size; simp at h ⊢; omega)) _, setRow_heap _ _ _ _ _ _ (heap_at _ _ _ rfl)⟩ (fun W3 hW3 => ?_)
                have e1 := keyLoad_at hW3.2 HKL.out
                have e2 := keyLoad_at ((hW3.1.block _ (lt_of_block BX3.out)).trans BX3.out) HS.out
                have HB4 := Lib.hid (HB3.out.trans (hW3.1.mono HB3.out.size))
                clear hW3
                go_wp2
                go_ret
                exact ⟨ret_bool (by simp), HB4.out⟩
              exact AllReadyH.nil
            exact AllReadyH.nil
          refine AllReadyH.cons (o := _) rfl (fun K hK => ?_) ?_
          · simp only [List.getElem_toArray, List.getElem_cons_succ, List.getElem_cons_zero]
            rw [if_pos (by rfl)]
            refine wp_key_alloc (by rfl) ?_
            refine hK.out _ _ ?_ (fun hHeld => ?_)
            · exact ((Below.refl _ _).drew.alloc (Nat.le_refl _) _).alloc (by simp) _
            clear hK K
            try simp only [Act.put, List.setIfInBounds_toArray, List.set_cons_zero, List.set_cons_succ]
            refine wpAnyH_ready (rs := [13]) (by kernel_rfl) (by simp) ?_
            refine AllReadyH.cons (o := _) rfl (fun K hK => ?_) ?_
            · simp only [List.getElem_toArray, List.getElem_cons_succ, List.getElem_cons_zero]
              go_simp
              go_at_call 20
              refine Calls.mono (HC.out _ _ ?_) ?_
              · exact (heap_alloc2_old _ _ _)
              rintro e w2 ⟨rfl, hb2⟩
              refine hK.out _ _ ?_ (fun hHeld => ?_)
              · exact (((Below.refl _ _).drew.alloc (Nat.le_refl _) _).alloc (by simp) _).trans (hb2.mono (by first | (simp; done) | (simp; omega)))
              clear hK K
              try simp only [Act.put, List.setIfInBounds_toArray, List.set_cons_zero, List.set_cons_succ]
              refine wpAnyH_take (i := 14) (v := ?_) rfl (by kernel_rfl) (by kernel_rfl) (by kernel_rfl) (fun _ _ _ h => h) (Or.inl ⟨by rfl, ?_⟩) (by assumption) ?_
              rotate_left
              · intro w hSw; go_simp; try (with_reducible rfl)
              try simp only [List.getElem_toArray, List.getElem_cons_succ, List.getElem_cons_zero, Act.put, List.setIfInBounds_toArray, List.set_cons_zero, List.set_cons_succ]
              refine wpAnyH_take (i := 15) (v := ?_) rfl (by kernel_rfl) (by kernel_rfl) (by kernel_rfl) (fun _ _ _ h => h) (Or.inl ⟨by rfl, ?_⟩) (by assumption) ?_
              rotate_left
              · intro w hSw; go_simp; try (with_reducible rfl)
              try simp only [List.getElem_toArray, List.getElem_cons_succ, List.getElem_cons_zero, Act.put, List.setIfInBounds_toArray, List.set_cons_zero, List.set_cons_succ]
              refine wpAnyH_take (i := 16) (v := ?_) rfl (by kernel_rfl) (by kernel_rfl) (by kernel_rfl) (fun _ _ _ h => h) (Or.inl ⟨by rfl, ?_⟩) (by assumption) ?_
              rotate_left
              · intro w hSw; go_simp; try (with_reducible rfl)
              try simp only [List.getElem_toArray, List.getElem_cons_succ, List.getElem_cons_zero, Act.put, List.setIfInBounds_toArray, List.set_cons_zero, List.set_cons_succ]
              refine wpAnyH_ready (rs := [18]) (by kernel_rfl) (by simp) ?_
              refine AllReadyH.cons (o := _) rfl (fun K hK => ?_) ?_
              · simp only [List.getElem_toArray, List.getElem_cons_succ, List.getElem_cons_zero]
                rw [if_pos (by rfl)]
                refine wp_store_row 23 (.tmp 15) (.tmp 69) (by rfl) (W2.heap.size + 1) (vals kl).toArray (by rfl) (by rfl) 23 (vals (zs 32)).toArray ((hb2.block _ (by first | (simp; done) | (simp; omega))).trans (heap_alloc2_new _ _ _)) (by rw [List.size_toArray, vals_length, HKL.out]; exact key_size) (by simp [vals_length, zs_length, HKL.out]) (u8_all kl) ?_
                refine hK.out _ _ ?_ (fun hHeld => ?_)
                · exact below_setRow ((((Below.refl _ _).drew.alloc (Nat.le_refl _) _).alloc (by simp) _).trans (hb2.mono (by first | (simp; done) | (simp; omega)))) (by first | omega | (simp; done) | (simp; omega) | (have h := hb2.size; simp at h; omega) | (have h := hb2.size; simp at h ⊢; omega)) _
                clear hK K
                try simp only [Act.put, List.setIfInBounds_toArray, List.set_cons_zero, List.set_cons_succ]
                refine wpAnyH_take (i := 19) (v := ?_) rfl (by kernel_rfl) (by kernel_rfl) (by kernel_rfl) (fun _ _ _ h => h) (Or.inl ⟨by rfl, ?_⟩) (by assumption) ?_
                rotate_left
                · intro w hSw; go_simp; try (with_reducible rfl)
                try simp only [List.getElem_toArray, List.getElem_cons_succ, List.getElem_cons_zero, Act.put, List.setIfInBounds_toArray, List.set_cons_zero, List.set_cons_succ]
                refine wpAnyH_done (by kernel_rfl) ?_ _
                refine NoPanic.normal ?_
                refine world_gen (fun W' => Below W2.heap.size W2 W' ∧ W'.heap[(W2.heap.size + 1)]? = some (.cells (vals kl).toArray 23 (0, 0))) ⟨below_setRow ((((Below.refl _ _).drew.alloc (Nat.le_refl _) _).alloc (by simp) _).trans (hb2.mono (by first | (simp; done) | (simp; omega)))) (by first | omega | (simp; done) | (simp; omega) | (have h := hb2.size; simp at h; omega) | (have h := hb2.size; simp at h ⊢; omega)) _, setRow_heap _ _ _ _ _ _ ((hb2.block _ (by first | (simp; done) | (simp; omega))).trans (heap_alloc2_new _ _ _))⟩ (fun W3 hW3 => ?_)
                have e1 := keyLoad_at hW3.2 HKL.out
                have e2 := keyLoad_at ((hW3.1.block _ (lt_of_block BX3.out)).trans BX3.out) HS.out
                have HB4 := Lib.hid (HB3.out.trans (hW3.1.mono HB3.out.size))
                clear hW3
                go_wp2
                go_ret
                exact ⟨ret_bool (by simp), HB4.out⟩
              exact AllReadyH.nil
            exact AllReadyH.nil
          exact AllReadyH.nil
        refine AllReadyH.cons (o := _) rfl (fun K hK => ?_) ?_
        · simp only [List.getElem_toArray, List.getElem_cons_succ, List.getElem_cons_zero]
          rw [if_pos (by rfl)]
          refine wp_key_alloc (by rfl) ?_
          refine hK.out _ _ ?_ (fun hHeld => ?_)
          · exact (Below.refl _ _).drew.alloc (Nat.le_refl _) _
          clear hK K
          try simp only [Act.put, List.setIfInBounds_toArray, List.set_cons_zero, List.set_cons_succ]
          refine wpAnyH_ready (rs := [12]) (by kernel_rfl) (by simp) ?_
          refine AllReadyH.cons (o := _) rfl (fun K hK => ?_) ?_
          · simp only [List.getElem_toArray, List.getElem_cons_succ, List.getElem_cons_zero]
            rw [if_pos (by rfl)]
            refine wp_shares3 (.tmp 58) (.tmp 62) (.tmp 66) (by rfl) la lb lc (by rfl) (by rfl) (by rfl) hla hlb hlc ?_
            refine hK.out _ _ ?_ (fun hHeld => ?_)
            · exact ((Below.refl _ _).drew.alloc (Nat.le_refl _) _).alloc (by simp) _
            clear hK K
            try simp only [Act.put, List.setIfInBounds_toArray, List.set_cons_zero, List.set_cons_succ]
            refine wpAnyH_ready (rs := [13]) (by kernel_rfl) (by simp) ?_
            refine AllReadyH.cons (o := _) rfl (fun K hK => ?_) ?_
            · simp only [List.getElem_toArray, List.getElem_cons_succ, List.getElem_cons_zero]
              go_simp
              go_at_call 20
              refine Calls.mono (HC.out _ _ ?_) ?_
              · exact (heap_alloc2_new _ _ _)
              rintro e w2 ⟨rfl, hb2⟩
              refine hK.out _ _ ?_ (fun hHeld => ?_)
              · exact (((Below.refl _ _).drew.alloc (Nat.le_refl _) _).alloc (by simp) _).trans (hb2.mono (by first | (simp; done) | (simp; omega)))
              clear hK K
              try simp only [Act.put, List.setIfInBounds_toArray, List.set_cons_zero, List.set_cons_succ]
              refine wpAnyH_take (i := 14) (v := ?_) rfl (by kernel_rfl) (by kernel_rfl) (by kernel_rfl) (fun _ _ _ h => h) (Or.inl ⟨by rfl, ?_⟩) (by assumption) ?_
              rotate_left
              · intro w hSw; go_simp; try (with_reducible rfl)
              try simp only [List.getElem_toArray, List.getElem_cons_succ, List.getElem_cons_zero, Act.put, List.setIfInBounds_toArray, List.set_cons_zero, List.set_cons_succ]
              refine wpAnyH_take (i := 15) (v := ?_) rfl (by kernel_rfl) (by kernel_rfl) (by kernel_rfl) (fun _ _ _ h => h) (Or.inl ⟨by rfl, ?_⟩) (by assumption) ?_
              rotate_left
              · intro w hSw; go_simp; try (with_reducible rfl)
              try simp only [List.getElem_toArray, List.getElem_cons_succ, List.getElem_cons_zero, Act.put, List.setIfInBounds_toArray, List.set_cons_zero, List.set_cons_succ]
              refine wpAnyH_take (i := 16) (v := ?_) rfl (by kernel_rfl) (by kernel_rfl) (by kernel_rfl) (fun _ _ _ h => h) (Or.inl ⟨by rfl, ?_⟩) (by assumption) ?_
              rotate_left
              · intro w hSw; go_simp; try (with_reducible rfl)
              try simp only [List.getElem_toArray, List.getElem_cons_succ, List.getElem_cons_zero, Act.put, List.setIfInBounds_toArray, List.set_cons_zero, List.set_cons_succ]
              refine wpAnyH_ready (rs := [18]) (by kernel_rfl) (by simp) ?_
              refine AllReadyH.cons (o := _) rfl (fun K hK => ?_) ?_
              · simp only [List.getElem_toArray, List.getElem_cons_succ, List.getElem_cons_zero]
                rw [if_pos (by rfl)]
                refine wp_store_row 23 (.tmp 15) (.tmp 69) (by rfl) W2.heap.size (vals kl).toArray (by rfl) (by rfl) 23 (vals (zs 32)).toArray ((hb2.block _ (by first | (simp; done) | (simp; omega))).trans (heap_alloc2_old _ _ _)) (by rw [List.size_toArray, vals_length, HKL.out]; exact key_size) (by simp [vals_length, zs_length, HKL.out]) (u8_all kl) ?_
                refine hK.out _ _ ?_ (fun hHeld => ?_)
                · exact below_setRow ((((Below.refl _ _).drew.alloc (Nat.le_refl _) _).alloc (by simp) _).trans (hb2.mono (by first | (simp; done) | (simp; omega)))) (by first | omega | (simp; done) | (simp; omega) | (have h := hb2.size; simp at h; omega) | (have h := hb2.size; simp at h ⊢; omega)) _
                clear hK K
                try simp only [Act.put, List.setIfInBounds_toArray, List.set_cons_zero, List.set_cons_succ]
                refine wpAnyH_take (i := 19) (v := ?_) rfl (by kernel_rfl) (by kernel_rfl) (by kernel_rfl) (fun _ _ _ h => h) (Or.inl ⟨by rfl, ?_⟩) (by assumption) ?_
                rotate_left
                · intro w hSw; go_simp; try (with_reducible rfl)
                try simp only [List.getElem_toArray, List.getElem_cons_succ, List.getElem_cons_zero, Act.put, List.setIfInBounds_toArray, List.set_cons_zero, List.set_cons_succ]
                refine wpAnyH_done (by kernel_rfl) ?_ _
                refine NoPanic.normal ?_
                refine world_gen (fun W' => Below W2.heap.size W2 W' ∧ W'.heap[W2.heap.size]? = some (.cells (vals kl).toArray 23 (0, 0))) ⟨below_setRow ((((Below.refl _ _).drew.alloc (Nat.le_refl _) _).alloc (by simp) _).trans (hb2.mono (by first | (simp; done) | (simp; omega)))) (by first | omega | (simp; done) | (simp; omega) | (have h := hb2.size; simp at h; omega) | (have h := hb2.size; simp at h ⊢; omega)) _, setRow_heap _ _ _ _ _ _ ((hb2.block _ (by first | (simp; done) | (simp; omega))).trans (heap_alloc2_old _ _ _))⟩ (fun W3 hW3 => ?_)
                have e1 := keyLoad_at hW3.2 HKL.out
                have e2 := keyLoad_at ((hW3.1.block _ (lt_of_block BX3.out)).trans BX3.out) HS.out
                have HB4 := Lib.hid (HB3.out.trans (hW3.1.mono HB3.out.size))
                clear hW3
                go_wp2
                go_ret
                exact ⟨ret_bool (by simp), HB4.out⟩
              exact AllReadyH.nil
            exact AllReadyH.nil
          exact AllReadyH.nil
        exact AllReadyH.nil

theorem ShareAny_any (v : Value) (h : IsArr 32 v) (v' : Value) (h' : IsArr 64 v') (n : Int) (hn : (Lit.int .u8 n).wf = true) (x : Value) (hx : IsArr 3 x) (w : World) :
    Calls Try.prog 9 #[v, v', .int .u8 n, x] w fun e w' => e = .returned (.bool true) ∧ Below w.heap.size w w' := by
  obtain ⟨s, hs, rfl⟩ := h
  obtain ⟨z, hz, rfl⟩ := h'
  obtain ⟨a, rfl⟩ := u_wf hn
  obtain ⟨pk, hp, rfl⟩ := hx
  exact ShareAny_w s z pk a w hs hz hp

end Go.Proofs.Ytffmnldhklejcaa
