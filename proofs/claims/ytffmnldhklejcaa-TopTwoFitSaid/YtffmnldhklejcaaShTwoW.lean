/- The walk of TopTwoFit. -/
import Derived.Test.YtffmnldhklejcaaShFitsW
namespace Go.Proofs.Ytffmnldhklejcaa
open Go.RowKit
set_option linter.unusedSimpArgs false

attribute [local go_sem ↓] keyLoad_pre keyBuild_pre shareLoad_pre

/-- both bytes of noise that are reckoned from two shares -/
def fitTwo (X Y : UInt8) (la lb o : List UInt8) (j : Nat) : UInt8 × UInt8 :=
  (Gf.mul (la.getD (j + 1) 0 ^^^ o.getD j 0) (Gf.inv X) ^^^ Gf.mul (Gf.mul (Gf.mul (la.getD (j + 1) 0 ^^^ o.getD j 0) (Gf.inv X) ^^^ Gf.mul (lb.getD (j + 1) 0 ^^^ o.getD j 0) (Gf.inv Y)) (Gf.inv (X ^^^ Y))) X,
    Gf.mul (Gf.mul (la.getD (j + 1) 0 ^^^ o.getD j 0) (Gf.inv X) ^^^ Gf.mul (lb.getD (j + 1) 0 ^^^ o.getD j 0) (Gf.inv Y)) (Gf.inv (X ^^^ Y)))

/-- what the walk keeps: the other secret's box, two shares of its own -/
structure TW (w W : World) (o la lb : List UInt8) (gx gy : Nat) : Prop where
  bo : W.heap[w.heap.size + 1]? = some (.cells (vals o).toArray 23 (0, 0))
  bx : W.heap[gx]? = some (.cells (vals la).toArray 34 (0, 0))
  bY : W.heap[gy]? = some (.cells (vals lb).toArray 34 (0, 0))
  b : Below w.heap.size w W
theorem TW.belowB {w W W' : World} {o la lb : List UInt8} {gx gy : Nat} (h : TW w W o la lb gx gy) {B : Nat} (hb : Below B W W') (h0 : w.heap.size ≤ B) (h1 : w.heap.size + 1 < B) (h2 : gx < B) (h3 : gy < B) : TW w W' o la lb gx gy :=
  ⟨(hb.block _ h1).trans h.bo, (hb.block _ h2).trans h.bx, (hb.block _ h3).trans h.bY, h.b.trans (hb.mono h0)⟩
theorem TW.below {w W W' : World} {o la lb : List UInt8} {gx gy : Nat} (h : TW w W o la lb gx gy) (hb : Below W.heap.size W W') : TW w W' o la lb gx gy :=
  h.belowB hb h.b.size (lt_of_block h.bo) (lt_of_block h.bx) (lt_of_block h.bY)
/-- with the noise that is being written -/
structure TM (w W : World) (o la lb : List UInt8) (gx gy gf : Nat) (M : List UInt8) : Prop where
  i : TW w W o la lb gx gy
  m : W.heap[gf]? = some (.cells (vals M).toArray 31 (0, 0))
  l1 : w.heap.size + 1 < gf
  l2 : gx < gf
  l3 : gy < gf
theorem TM.below {w W W' : World} {o la lb : List UInt8} {gx gy gf : Nat} {M : List UInt8} (h : TM w W o la lb gx gy gf M) (hb : Below W.heap.size W W') : TM w W' o la lb gx gy gf M :=
  ⟨h.i.below hb, (hb.block _ (lt_of_block h.m)).trans h.m, h.l1, h.l2, h.l3⟩
theorem TM.drewN {w W : World} {o la lb : List UInt8} {gx gy gf : Nat} {M : List UInt8} (h : TM w W o la lb gx gy gf M) (n : Nat) : TM w (W.drewN n) o la lb gx gy gf M := h.below (below_drewN (Below.refl _ _) n)
theorem TM.set {w W : World} {o la lb : List UInt8} {gx gy gf : Nat} {M : List UInt8} (h : TM w W o la lb gx gy gf M) (j : Nat) (v : UInt8) : TM w (W.setCell ⟨gf, j, none⟩ (.int .u8 (u v))) o la lb gx gy gf (M.set j v) :=
  ⟨h.i.belowB (B := gf) ((Below.refl gf W).setCell (p := ⟨gf, j, none⟩) (Nat.le_refl _) _) (by have := h.l1; omega) h.l1 h.l2 h.l3, block_set h.m v, h.l1, h.l2, h.l3⟩

set_option maxRecDepth 100000 in
set_option maxHeartbeats 1000000 in
theorem TopTwoFit_w (s o z : List UInt8) (n p q : UInt8) (w : World) (hs : s.length = 32) (ho : o.length = 32) (hz : z.length = 64) :
    Calls Try.prog 7 #[.agg (vals s).toArray, .agg (vals o).toArray, .agg (vals z).toArray, .int .u8 (u n), .int .u8 (u p), .int .u8 (u q)] w fun e w' => e = .returned (.bool true) ∧ Below w.heap.size w w' := by
  obtain ⟨m, hm⟩ : ∃ m : Nat, m = 3 + n.toNat % 200 := ⟨_, rfl⟩
  have hn0 := u_lo n
  have hn1 := u_hi n
  have em : (3 : Int) + u n % 200 = (m : Int) := by rw [hm]; unfold u; omega
  have EM := Lib.hid em
  have HM : Hid (3 ≤ m ∧ m ≤ 202) := by constructor <;> omega
  obtain ⟨ia, hia⟩ : ∃ j : Nat, j = p.toNat % m := ⟨_, rfl⟩
  obtain ⟨ib, hib⟩ : ∃ j : Nat, j = q.toNat % m := ⟨_, rfl⟩
  have lta : ia < m := by rw [hia]; exact Nat.mod_lt _ (by omega)
  have ltb : ib < m := by rw [hib]; exact Nat.mod_lt _ (by omega)
  have HIA := Lib.hid lta
  have HIB := Lib.hid ltb
  have tm : ∀ c : UInt8, (u c).tmod (m : Int) = ((c.toNat % m : Nat) : Int) := fun c => by rw [Int.tmod_eq_emod_of_nonneg (u_lo c)]; rfl
  have ta : (u p).tmod (m : Int) = (ia : Int) := by rw [hia]; exact tm p
  have tb : (u q).tmod (m : Int) = (ib : Int) := by rw [hib]; exact tm q
  have TA := Lib.hid ta
  have TB := Lib.hid tb
  have HZ := Lib.hid hz
  have HS := Lib.hid hs
  have HO := Lib.hid ho
  clear hz hs ho hm hia hib ta tb tm lta ltb em
  go_enter Try.func7, Try.ntmps7
  go_wp2_with fail
  rw [EM.out]
  have H0 : Hid (Below w.heap.size w (((w.alloc (.cells (vals s).toArray 23)).alloc (.cells (vals o).toArray 23)).alloc (.cells (vals z).toArray 31)) ∧
      (((w.alloc (.cells (vals s).toArray 23)).alloc (.cells (vals o).toArray 23)).alloc (.cells (vals z).toArray 31)).heap[w.heap.size]? = some (.cells (vals s).toArray 23 (0, 0)) ∧
      (((w.alloc (.cells (vals s).toArray 23)).alloc (.cells (vals o).toArray 23)).alloc (.cells (vals z).toArray 31)).heap[w.heap.size + 1]? = some (.cells (vals o).toArray 23 (0, 0)) ∧
      (((w.alloc (.cells (vals s).toArray 23)).alloc (.cells (vals o).toArray 23)).alloc (.cells (vals z).toArray 31)).heap[w.heap.size + 1 + 1]? = some (.cells (vals z).toArray 31 (0, 0))) :=
    ⟨(((Below.refl _ w).alloc (Nat.le_refl _) _).alloc (by simp) _).alloc (by simp; omega) _, (Below.heap_alloc _ _ _ (by simp only [World.size_alloc]; omega)).trans (heap_alloc2_old _ _ _), (Below.heap_alloc _ _ _ (by simp only [World.size_alloc]; omega)).trans (heap_alloc2_new _ _ _), heap_at _ _ _ (by simp)⟩
  generalize ((w.alloc (.cells (vals s).toArray 23)).alloc (.cells (vals o).toArray 23)).alloc (.cells (vals z).toArray 31) = w1 at *
  have cv1 := conv64 _ z HZ.out w1 H0.out.2.2.2
  have CV := Lib.hid (conv64 (w.heap.size + 1 + 1) z HZ.out)
  have hr : w1.rangeAt w.heap.size 0 (vals s) := range_of_block _ H0.out.2.1
  have hu := Try.underlying23
  have hi : (Try.prog.info? 23).map (·.size) = some (vals s).length := by rw [vals_length, HS.out]; exact key_size
  have hl : (vals s).length = 32 := by rw [vals_length, HS.out]
  have h1 := vals_one s
  have HZS : Hid (bs (⟨z.toArray⟩ : ByteArray) = z) := by simp [Hid, bs]
  generalize (⟨z.toArray⟩ : ByteArray) = zstr at *
  go_region_held3 (fun W => W.rangeAt w.heap.size 0 (vals s) ∧ (convert 32 9 (.slice (some ⟨w.heap.size + 1 + 1, 0, none⟩) 64 64)).run Try.prog W = .ok (.string zstr) W)
    (first | exact ⟨hr, CV.out _ H0.out.2.2.2⟩ | exact ⟨range_below (W := w1.drew) hr hb2, CV.out _ ((hb2.block _ (lt_of_block H0.out.2.2.2)).trans H0.out.2.2.2)⟩)
    (first | (go_at_call 12; refine (Split_g _ _ _ s z m _ (by rfl) (by rfl) HZS.out HS.out (by have := HM.out; omega) (by have := HM.out; omega) HZ.out).mono ?_; rintro e w2 ⟨rfl, hf, hb2⟩))
  have hbw : Below w1.heap.size w1 w2 := below_of_drew hb2
  have HB2 : Hid (Below w.heap.size w w2) := H0.out.1.trans (hbw.mono H0.out.1.size)
  have BX2 : Hid (w2.heap[w.heap.size + 1]? = some (.cells (vals o).toArray 23 (0, 0))) := (hbw.block _ (lt_of_block H0.out.2.2.1)).trans H0.out.2.2.1
  have HF : Hid (Fill w2 (w1.heap.size + 1) m (flat s z m)) := hf
  clear hr hb2 hbw hf H0 hi hl h1 hu CV cv1 hn0 hn1
  generalize w1.heap.size + 1 = g at *
  go_wp2_with fail
  have k0 : (wrap64 (u p)).tmod (m : Int) = (ia : Int) := by rw [w64u]; exact TA.out
  have k1 : (wrap64 (u q)).tmod (m : Int) = (ib : Int) := by rw [w64u]; exact TB.out
  have k2 : (IntKind.i64.wrap (u p)).tmod (m : Int) = (ia : Int) := by rw [IntWalk.i64_in _ (by have := u_lo p; have := u_hi p; omega)]; exact TA.out
  have k3 : (IntKind.i64.wrap (u q)).tmod (m : Int) = (ib : Int) := by rw [IntWalk.i64_in _ (by have := u_lo q; have := u_hi q; omega)]; exact TB.out
  have mn : ¬ m = 0 := by have := HM.out; omega
  have m0 : (m : Int) ≠ 0 := by have := HM.out; omega
  have m1 : ((m : Int) == 0) = false := by simpa using m0
  have a0 : (0 : Int) ≤ (ia : Int) := by omega
  have a1 : (ia : Int) < (m : Int) := by have := HIA.out; omega
  have b0 : (0 : Int) ≤ (ib : Int) := by omega
  have b1 : (ib : Int) < (m : Int) := by have := HIB.out; omega
  have hsh := HF.out.shs
  obtain ⟨_, _, e1, hra, hla⟩ := hsh.at_ ia (by rw [rows_length]; exact HIA.out)
  cases e1
  obtain ⟨_, _, e2, hrb, hlb⟩ := hsh.at_ ib (by rw [rows_length]; exact HIB.out)
  cases e2
  rw [rows_get s z m ia HIA.out, Nat.zero_add] at hra
  rw [rows_get s z m ib HIB.out, Nat.zero_add] at hrb
  have HLA := Lib.hid (row_length s z ia)
  have HLB := Lib.hid (row_length s z ib)
  have HA0 := Lib.hid (row_head s z ia)
  have HB0 := Lib.hid (row_head s z ib)
  clear hla hlb hsh
  generalize row s z ia = la at *
  generalize row s z ib = lb at *
  have hu := Try.underlying34
  have hia : (Try.prog.info? 34).map (·.size) = some (vals la).length := by rw [vals_length, HLA.out]; exact share_size
  have hib : (Try.prog.info? 34).map (·.size) = some (vals lb).length := by rw [vals_length, HLB.out]; exact share_size
  clear HF
  obtain ⟨W0, hW0⟩ : ∃ W0, W0 = w2 := ⟨_, rfl⟩
  subst hW0
  apply region_leaf (fun g1 g2 W' => Below W0.heap.size W0 W' ∧ W'.heap[g1]? = some (.cells (vals la).toArray 34 (0, 0)) ∧ W'.heap[g2]? = some (.cells (vals lb).toArray 34 (0, 0)))
  · intro Q' KONT
    refine wp_region_held_drew (S := fun W => Below W0.heap.size W0 W) (by kernel_rfl) ((Below.refl _ _).drew) (fun hHeld => ?_)
    refine wpAnyH_take (i := 0) (v := ?_) rfl (by kernel_rfl) (by kernel_rfl) (by kernel_rfl) (fun _ _ _ h => h) (Or.inl ⟨by rfl, ?_⟩) (by assumption) ?_
    rotate_left
    · intro w hSw; go_simp; try (with_reducible rfl)
    try simp only [List.getElem_toArray, List.getElem_cons_succ, List.getElem_cons_zero, Act.put, List.setIfInBounds_toArray, List.set_cons_zero, List.set_cons_succ]
    refine wpAnyH_take (i := 1) (v := ?_) rfl (by kernel_rfl) (by kernel_rfl) (by kernel_rfl) (fun _ _ _ h => h) (Or.inl ⟨by rfl, ?_⟩) (by assumption) ?_
    rotate_left
    · intro w hSw; go_simp; try (with_reducible rfl)
    try simp only [List.getElem_toArray, List.getElem_cons_succ, List.getElem_cons_zero, Act.put, List.setIfInBounds_toArray, List.set_cons_zero, List.set_cons_succ]
    refine wpAnyH_take (i := 2) (v := ?_) rfl (by kernel_rfl) (by kernel_rfl) (by kernel_rfl) (fun _ _ _ h => h) (Or.inl ⟨by rfl, ?_⟩) (by assumption) ?_
    rotate_left
    · intro w hSw; go_simp; try (with_reducible rfl)
    try simp only [List.getElem_toArray, List.getElem_cons_succ, List.getElem_cons_zero, Act.put, List.setIfInBounds_toArray, List.set_cons_zero, List.set_cons_succ]
    refine wpAnyH_take (i := 3) (v := ?_) rfl (by kernel_rfl) (by kernel_rfl) (by kernel_rfl) (fun _ _ _ h => h) (Or.inl ⟨by rfl, ?_⟩) (by assumption) ?_
    rotate_left
    · intro w hSw; go_simp; try (with_reducible rfl)
    try simp only [List.getElem_toArray, List.getElem_cons_succ, List.getElem_cons_zero, Act.put, List.setIfInBounds_toArray, List.set_cons_zero, List.set_cons_succ]
    refine wpAnyH_take (i := 4) (v := ?_) rfl (by kernel_rfl) (by kernel_rfl) (by kernel_rfl) (fun _ _ _ h => h) (Or.inl ⟨by rfl, ?_⟩) (by assumption) ?_
    rotate_left
    · intro w hSw; go_simp; try (with_reducible rfl)
    try simp only [List.getElem_toArray, List.getElem_cons_succ, List.getElem_cons_zero, Act.put, List.setIfInBounds_toArray, List.set_cons_zero, List.set_cons_succ]
    refine wpAnyH_take (i := 5) (v := ?_) rfl (by kernel_rfl) (by kernel_rfl) (by kernel_rfl) (fun _ _ _ h => h) (Or.inl ⟨by rfl, ?_⟩) (by assumption) ?_
    rotate_left
    · intro w hSw; go_simp; try (with_reducible rfl)
    try simp only [List.getElem_toArray, List.getElem_cons_succ, List.getElem_cons_zero, Act.put, List.setIfInBounds_toArray, List.set_cons_zero, List.set_cons_succ]
    refine' wpAnyH_take (i := 6) (v := _) rfl (by kernel_rfl) (by kernel_rfl) (by kernel_rfl) (fun _ _ _ h => h) (yieldsIf_load_mid (by rfl) _ _ rfl _ _ rfl _ _ (fun W hW => range_below hra hW) hu (by rfl) hia) (by assumption) ?_
    try simp only [List.getElem_toArray, List.getElem_cons_succ, List.getElem_cons_zero, Act.put, List.setIfInBounds_toArray, List.set_cons_zero, List.set_cons_succ]
    refine wpAnyH_take (i := 7) (v := ?_) rfl (by kernel_rfl) (by kernel_rfl) (by kernel_rfl) (fun _ _ _ h => h) (Or.inl ⟨by rfl, ?_⟩) (by assumption) ?_
    rotate_left
    · intro w hSw; go_simp; try (with_reducible rfl)
    try simp only [List.getElem_toArray, List.getElem_cons_succ, List.getElem_cons_zero, Act.put, List.setIfInBounds_toArray, List.set_cons_zero, List.set_cons_succ]
    refine wpAnyH_take (i := 8) (v := ?_) rfl (by kernel_rfl) (by kernel_rfl) (by kernel_rfl) (fun _ _ _ h => h) (Or.inl ⟨by rfl, ?_⟩) (by assumption) ?_
    rotate_left
    · intro w hSw; go_simp; try (with_reducible rfl)
    try simp only [List.getElem_toArray, List.getElem_cons_succ, List.getElem_cons_zero, Act.put, List.setIfInBounds_toArray, List.set_cons_zero, List.set_cons_succ]
    refine wpAnyH_take (i := 9) (v := ?_) rfl (by kernel_rfl) (by kernel_rfl) (by kernel_rfl) (fun _ _ _ h => h) (Or.inl ⟨by rfl, ?_⟩) (by assumption) ?_
    rotate_left
    · intro w hSw; go_simp; try (with_reducible rfl)
    try simp only [List.getElem_toArray, List.getElem_cons_succ, List.getElem_cons_zero, Act.put, List.setIfInBounds_toArray, List.set_cons_zero, List.set_cons_succ]
    refine wpAnyH_take (i := 10) (v := ?_) rfl (by kernel_rfl) (by kernel_rfl) (by kernel_rfl) (fun _ _ _ h => h) (Or.inl ⟨by rfl, ?_⟩) (by assumption) ?_
    rotate_left
    · intro w hSw; go_simp; try (with_reducible rfl)
    try simp only [List.getElem_toArray, List.getElem_cons_succ, List.getElem_cons_zero, Act.put, List.setIfInBounds_toArray, List.set_cons_zero, List.set_cons_succ]
    refine wpAnyH_take (i := 11) (v := ?_) rfl (by kernel_rfl) (by kernel_rfl) (by kernel_rfl) (fun _ _ _ h => h) (Or.inl ⟨by rfl, ?_⟩) (by assumption) ?_
    rotate_left
    · intro w hSw; go_simp; try (with_reducible rfl)
    try simp only [List.getElem_toArray, List.getElem_cons_succ, List.getElem_cons_zero, Act.put, List.setIfInBounds_toArray, List.set_cons_zero, List.set_cons_succ]
    refine wpAnyH_take (i := 12) (v := ?_) rfl (by kernel_rfl) (by kernel_rfl) (by kernel_rfl) (fun _ _ _ h => h) (Or.inl ⟨by rfl, ?_⟩) (by assumption) ?_
    rotate_left
    · intro w hSw; go_simp; try (with_reducible rfl)
    try simp only [List.getElem_toArray, List.getElem_cons_succ, List.getElem_cons_zero, Act.put, List.setIfInBounds_toArray, List.set_cons_zero, List.set_cons_succ]
    refine' wpAnyH_take (i := 13) (v := _) rfl (by kernel_rfl) (by kernel_rfl) (by kernel_rfl) (fun _ _ _ h => h) (yieldsIf_load_mid (by rfl) _ _ rfl _ _ rfl _ _ (fun W hW => range_below hrb hW) hu (by rfl) hib) (by assumption) ?_
    try simp only [List.getElem_toArray, List.getElem_cons_succ, List.getElem_cons_zero, Act.put, List.setIfInBounds_toArray, List.set_cons_zero, List.set_cons_succ]
    refine held_gen (fun W' => Below W0.heap.size W0 W') hHeld (fun V0 hB => ?_)
    clear hHeld
    refine wpAnyH_ready (rs := [14, 15]) (by kernel_rfl) (by simp) ?_
    refine AllReadyH.cons (o := _) rfl (fun K hK => ?_) ?_
    · simp only [List.getElem_toArray, List.getElem_cons_succ, List.getElem_cons_zero]
      rw [if_pos (by rfl)]
      refine wp_share_alloc (by rfl) ?_
      refine hK.out _ _ ?_ (fun hHeld => ?_)
      · exact hB.alloc hB.size _
      clear hK K
      try simp only [Act.put, List.setIfInBounds_toArray, List.set_cons_zero, List.set_cons_succ]
      refine held_gen (fun W' => Below W0.heap.size W0 W' ∧ W'.heap[V0.heap.size]? = some (.cells (vals (zs 33)).toArray 34 (0, 0))) ⟨hB.alloc hB.size _, heap_at _ _ _ rfl⟩ (fun V1 hW => ?_)
      have hlt_g1 := hB.size
      clear hHeld hB
      obtain ⟨hB, f_g1⟩ := hW
      generalize V0.heap.size = g1 at *
      refine wpAnyH_ready (rs := [15]) (by kernel_rfl) (by simp) ?_
      refine AllReadyH.cons (o := _) rfl (fun K hK => ?_) ?_
      · simp only [List.getElem_toArray, List.getElem_cons_succ, List.getElem_cons_zero]
        rw [if_pos (by rfl)]
        refine wp_share_alloc (by rfl) ?_
        refine hK.out _ _ ?_ (fun hHeld => ?_)
        · exact hB.alloc hB.size _
        clear hK K
        try simp only [Act.put, List.setIfInBounds_toArray, List.set_cons_zero, List.set_cons_succ]
        refine held_gen (fun W' => Below W0.heap.size W0 W' ∧ W'.heap[g1]? = some (.cells (vals (zs 33)).toArray 34 (0, 0)) ∧ W'.heap[V1.heap.size]? = some (.cells (vals (zs 33)).toArray 34 (0, 0))) ⟨hB.alloc hB.size _, (Below.heap_alloc _ _ _ (lt_of_block f_g1)).trans f_g1, heap_at _ _ _ rfl⟩ (fun V2 hW => ?_)
        have hlt_g2 := hB.size
        have hne : g1 ≠ V1.heap.size := Nat.ne_of_lt (lt_of_block f_g1)
        clear hHeld hB f_g1
        obtain ⟨hB, f_g1, f_g2⟩ := hW
        generalize V1.heap.size = g2 at *
        refine wpAnyH_ready (rs := [16]) (by kernel_rfl) (by simp) ?_
        refine AllReadyH.cons (o := _) rfl (fun K hK => ?_) ?_
        · simp only [List.getElem_toArray, List.getElem_cons_succ, List.getElem_cons_zero]
          rw [if_pos (by rfl)]
          refine wp_store_row 34 (.tmp 16) (.tmp 50) (by rfl) g1 (vals la).toArray (by rfl) (by rfl) 34 (vals (zs 33)).toArray f_g1 (by rw [List.size_toArray, vals_length, HLA.out]; exact share_size) (by simp [vals_length, zs_length, HLA.out]) (u8_all _) ?_
          refine hK.out _ _ ?_ (fun hHeld => ?_)
          · exact below_setRow hB hlt_g1 _
          clear hK K
          try simp only [Act.put, List.setIfInBounds_toArray, List.set_cons_zero, List.set_cons_succ]
          refine held_gen (fun W' => Below W0.heap.size W0 W' ∧ W'.heap[g2]? = some (.cells (vals (zs 33)).toArray 34 (0, 0)) ∧ W'.heap[g1]? = some (.cells (vals la).toArray 34 (0, 0))) ⟨below_setRow hB hlt_g1 _, (setRow_other _ _ _ _ (Ne.symm hne)).trans f_g2, setRow_heap _ _ _ _ _ _ f_g1⟩ (fun U hW => ?_)
          clear hHeld hB f_g1 f_g2
          obtain ⟨hB, f_g2, f_g1⟩ := hW
          refine wpAnyH_ready (rs := [17]) (by kernel_rfl) (by simp) ?_
          refine AllReadyH.cons (o := _) rfl (fun K hK => ?_) ?_
          · simp only [List.getElem_toArray, List.getElem_cons_succ, List.getElem_cons_zero]
            rw [if_pos (by rfl)]
            refine wp_store_row 34 (.tmp 17) (.tmp 57) (by rfl) g2 (vals lb).toArray (by rfl) (by rfl) 34 (vals (zs 33)).toArray f_g2 (by rw [List.size_toArray, vals_length, HLB.out]; exact share_size) (by simp [vals_length, zs_length, HLB.out]) (u8_all _) ?_
            refine hK.out _ _ ?_ (fun hHeld => ?_)
            · exact below_setRow hB hlt_g2 _
            clear hK K
            try simp only [Act.put, List.setIfInBounds_toArray, List.set_cons_zero, List.set_cons_succ]
            refine wpAnyH_done (by kernel_rfl) ?_ _
            exact NoPanic.normal (KONT g1 g2 _ ⟨below_setRow hB hlt_g2 _, (setRow_other _ _ _ _ hne).trans f_g1, setRow_heap _ _ _ _ _ _ f_g2⟩)
          exact AllReadyH.nil
        exact AllReadyH.nil
      exact AllReadyH.nil
    refine AllReadyH.cons (o := _) rfl (fun K hK => ?_) ?_
    · simp only [List.getElem_toArray, List.getElem_cons_succ, List.getElem_cons_zero]
      rw [if_pos (by rfl)]
      refine wp_share_alloc (by rfl) ?_
      refine hK.out _ _ ?_ (fun hHeld => ?_)
      · exact hB.alloc hB.size _
      clear hK K
      try simp only [Act.put, List.setIfInBounds_toArray, List.set_cons_zero, List.set_cons_succ]
      refine held_gen (fun W' => Below W0.heap.size W0 W' ∧ W'.heap[V0.heap.size]? = some (.cells (vals (zs 33)).toArray 34 (0, 0))) ⟨hB.alloc hB.size _, heap_at _ _ _ rfl⟩ (fun V1 hW => ?_)
      have hlt_g2 := hB.size
      clear hHeld hB
      obtain ⟨hB, f_g2⟩ := hW
      generalize V0.heap.size = g2 at *
      refine wpAnyH_ready (rs := [14]) (by kernel_rfl) (by simp) ?_
      refine AllReadyH.cons (o := _) rfl (fun K hK => ?_) ?_
      · simp only [List.getElem_toArray, List.getElem_cons_succ, List.getElem_cons_zero]
        rw [if_pos (by rfl)]
        refine wp_share_alloc (by rfl) ?_
        refine hK.out _ _ ?_ (fun hHeld => ?_)
        · exact hB.alloc hB.size _
        clear hK K
        try simp only [Act.put, List.setIfInBounds_toArray, List.set_cons_zero, List.set_cons_succ]
        refine held_gen (fun W' => Below W0.heap.size W0 W' ∧ W'.heap[g2]? = some (.cells (vals (zs 33)).toArray 34 (0, 0)) ∧ W'.heap[V1.heap.size]? = some (.cells (vals (zs 33)).toArray 34 (0, 0))) ⟨hB.alloc hB.size _, (Below.heap_alloc _ _ _ (lt_of_block f_g2)).trans f_g2, heap_at _ _ _ rfl⟩ (fun V2 hW => ?_)
        have hlt_g1 := hB.size
        have hne : g2 ≠ V1.heap.size := Nat.ne_of_lt (lt_of_block f_g2)
        clear hHeld hB f_g2
        obtain ⟨hB, f_g2, f_g1⟩ := hW
        generalize V1.heap.size = g1 at *
        refine wpAnyH_ready (rs := [16]) (by kernel_rfl) (by simp) ?_
        refine AllReadyH.cons (o := _) rfl (fun K hK => ?_) ?_
        · simp only [List.getElem_toArray, List.getElem_cons_succ, List.getElem_cons_zero]
          rw [if_pos (by rfl)]
          refine wp_store_row 34 (.tmp 16) (.tmp 50) (by rfl) g1 (vals la).toArray (by rfl) (by rfl) 34 (vals (zs 33)).toArray f_g1 (by rw [List.size_toArray, vals_length, HLA.out]; exact share_size) (by simp [vals_length, zs_length, HLA.out]) (u8_all _) ?_
          refine hK.out _ _ ?_ (fun hHeld => ?_)
          · exact below_setRow hB hlt_g1 _
          clear hK K
          try simp only [Act.put, List.setIfInBounds_toArray, List.set_cons_zero, List.set_cons_succ]
          refine held_gen (fun W' => Below W0.heap.size W0 W' ∧ W'.heap[g2]? = some (.cells (vals (zs 33)).toArray 34 (0, 0)) ∧ W'.heap[g1]? = some (.cells (vals la).toArray 34 (0, 0))) ⟨below_setRow hB hlt_g1 _, (setRow_other _ _ _ _ hne).trans f_g2, setRow_heap _ _ _ _ _ _ f_g1⟩ (fun U hW => ?_)
          clear hHeld hB f_g1 f_g2
          obtain ⟨hB, f_g2, f_g1⟩ := hW
          refine wpAnyH_ready (rs := [17]) (by kernel_rfl) (by simp) ?_
          refine AllReadyH.cons (o := _) rfl (fun K hK => ?_) ?_
          · simp only [List.getElem_toArray, List.getElem_cons_succ, List.getElem_cons_zero]
            rw [if_pos (by rfl)]
            refine wp_store_row 34 (.tmp 17) (.tmp 57) (by rfl) g2 (vals lb).toArray (by rfl) (by rfl) 34 (vals (zs 33)).toArray f_g2 (by rw [List.size_toArray, vals_length, HLB.out]; exact share_size) (by simp [vals_length, zs_length, HLB.out]) (u8_all _) ?_
            refine hK.out _ _ ?_ (fun hHeld => ?_)
            · exact below_setRow hB hlt_g2 _
            clear hK K
            try simp only [Act.put, List.setIfInBounds_toArray, List.set_cons_zero, List.set_cons_succ]
            refine wpAnyH_done (by kernel_rfl) ?_ _
            exact NoPanic.normal (KONT g1 g2 _ ⟨below_setRow hB hlt_g2 _, (setRow_other _ _ _ _ (Ne.symm hne)).trans f_g1, setRow_heap _ _ _ _ _ _ f_g2⟩)
          exact AllReadyH.nil
        exact AllReadyH.nil
      exact AllReadyH.nil
    exact AllReadyH.nil
  · intro gx gy Z hZ
    have HT : Hid (TW w Z o la lb gx gy) := ⟨(hZ.1.block _ (lt_of_block BX2.out)).trans BX2.out, hZ.2.1, hZ.2.2, HB2.out.trans (hZ.1.mono HB2.out.size)⟩
    clear hZ hra hrb hu hia hib BX2 HB2
    have c0 := cell_byteD HT.out.bx 0 (by rw [HLA.out]; omega)
    have c1 := cell_byteD HT.out.bY 0 (by rw [HLB.out]; omega)
    rw [HA0.out] at c0
    rw [HB0.out] at c1
    by_cases n1 : ia = ib
    · have f1 : (u (pt ia) == u (pt ib)) = true := by rw [n1]; simp
      clear n1
      go_wp2_with fail
      refine (splits_c _).mono ?_
      rintro e w3 ⟨rfl, hb3⟩
      have HB3 : Hid (Below w.heap.size w w3) := HT.out.b.trans (hb3.mono HT.out.b.size)
      clear hb3
      go_wp2
      go_ret
      exact ⟨rfl, HB3.out⟩
    · have hp : pt ia ≠ pt ib := fun e => n1 (pt_inj (by have := HM.out; have := HIA.out; omega) (by have := HM.out; have := HIB.out; omega) e)
      have HP := Lib.hid hp
      have f1 : (u (pt ia) == u (pt ib)) = false := beq_eq_false_iff_ne.2 (fun e => hp (u_inj e))
      clear n1 hp
      go_wp2_with (refine wpList_alloc_run (by rfl) 31 (by rfl) _ (arr64_alloc _) ?_)
      have H3 : Hid (TM w (Z.alloc (.cells (vals (zs 64)).toArray 31)) o la lb gx gy Z.heap.size (zs 64)) :=
        ⟨HT.out.below ((Below.refl _ _).alloc (Nat.le_refl _) _), heap_at _ _ _ rfl, lt_of_block HT.out.bo, lt_of_block HT.out.bx, lt_of_block HT.out.bY⟩
      clear HT c0 c1
      generalize Z.alloc (.cells (vals (zs 64)).toArray 31) = W6 at *
      generalize Z.heap.size = gf at *
      go_loopw [64] (fun vi W => ∃ (j : Nat) (M : List UInt8), j ≤ 32 ∧ vi = .int .i64 j ∧ Hid (M.length = 64) ∧ Hid (∀ k, k < j → M.getD k 0 = (fitTwo (pt ia) (pt ib) la lb o k).1 ∧ M.getD (32 + k) 0 = (fitTwo (pt ia) (pt ib) la lb o k).2) ∧ Hid (TM w W o la lb gx gy gf M)) (fun vi _ => 32 - (intOf vi).toNat)
      case atStart => exact ⟨0, _, Nat.zero_le _, rfl, zs_length _, fun j h => absurd h (by omega), H3⟩
      case round =>
        clear H3
        obtain ⟨j, M, hj, rfl, HML, HMV, HTM⟩ := hrel
        by_cases hlt : j < 32
        · have j0 : (0 : Int) ≤ (j : Int) := by omega
          have j1 : (j : Int) < 32 := by omega
          have x3 : IntKind.i64.wrap ((32 : Int) + (j : Int)) = (32 : Int) + (j : Int) := IntWalk.i64_in _ (by omega)
          obtain ⟨X, hX⟩ : ∃ X, X = pt ia := ⟨_, rfl⟩
          obtain ⟨Y, hY⟩ : ∃ Y, Y = pt ib := ⟨_, rfl⟩
          have HD : Hid (∀ (W : World) (M' : List UInt8), TM w W o la lb gx gy gf M' → W.cell? ⟨gx, 0, none⟩ = some (.int .u8 (u X)) ∧ W.cell? ⟨gy, 0, none⟩ = some (.int .u8 (u Y)) ∧
              W.cell? ⟨gx, 1 + j, none⟩ = some (.int .u8 (u (la.getD (j + 1) 0))) ∧ W.cell? ⟨gy, 1 + j, none⟩ = some (.int .u8 (u (lb.getD (j + 1) 0))) ∧ W.cell? ⟨w.heap.size + 1, j, none⟩ = some (.int .u8 (u (o.getD j 0)))) := fun W M' h => by
            have d0 := cell_byteD h.i.bx 0 (by rw [HLA.out]; omega)
            have d1 := cell_byteD h.i.bY 0 (by rw [HLB.out]; omega)
            rw [HA0.out, ← hX] at d0
            rw [HB0.out, ← hY] at d1
            exact ⟨d0, d1, by rw [Nat.add_comm 1 j]; exact cell_byteD h.i.bx (j + 1) (by rw [HLA.out]; omega), by rw [Nat.add_comm 1 j]; exact cell_byteD h.i.bY (j + 1) (by rw [HLB.out]; omega), cell_byteD h.i.bo j (by rw [HO.out]; omega)⟩
          have hs2 := noise_step M HML.out _ j hlt HMV.out
          obtain ⟨fv, hfv⟩ : ∃ f, f = fitTwo (pt ia) (pt ib) la lb o j := ⟨_, rfl⟩
          rw [← hfv] at hs2
          have hfd := hfv
          unfold fitTwo at hfd
          rw [← hX, ← hY] at hfd
          obtain ⟨xd, hxd⟩ : ∃ t, t = la.getD (j + 1) 0 := ⟨_, rfl⟩
          obtain ⟨yd, hyd⟩ : ∃ t, t = lb.getD (j + 1) 0 := ⟨_, rfl⟩
          obtain ⟨ob, hob⟩ : ∃ t, t = o.getD j 0 := ⟨_, rfl⟩
          rw [← hxd, ← hyd, ← hob] at hfd
          obtain ⟨xo, hxo⟩ : ∃ t, t = xd ^^^ ob := ⟨_, rfl⟩
          obtain ⟨yo, hyo⟩ : ∃ t, t = yd ^^^ ob := ⟨_, rfl⟩
          obtain ⟨ix, hix⟩ : ∃ t, t = Gf.inv X := ⟨_, rfl⟩
          obtain ⟨iy, hiy⟩ : ∃ t, t = Gf.inv Y := ⟨_, rfl⟩
          rw [← hxo, ← hyo, ← hix, ← hiy] at hfd
          obtain ⟨pp, hpp⟩ : ∃ t, t = Gf.mul xo ix := ⟨_, rfl⟩
          obtain ⟨qq, hqq⟩ : ∃ t, t = Gf.mul yo iy := ⟨_, rfl⟩
          rw [← hpp, ← hqq] at hfd
          obtain ⟨pq, hpq⟩ : ∃ t, t = pp ^^^ qq := ⟨_, rfl⟩
          obtain ⟨xy, hxy⟩ : ∃ t, t = X ^^^ Y := ⟨_, rfl⟩
          obtain ⟨iz, hiz⟩ : ∃ t, t = Gf.inv xy := ⟨_, rfl⟩
          rw [← hpq, ← hxy, ← hiz] at hfd
          obtain ⟨n2, hn2⟩ : ∃ t, t = Gf.mul pq iz := ⟨_, rfl⟩
          rw [← hn2] at hfd
          obtain ⟨nx, hnx⟩ : ∃ t, t = Gf.mul n2 X := ⟨_, rfl⟩
          rw [← hnx] at hfd
          obtain ⟨n1, hn1⟩ : ∃ t, t = pp ^^^ nx := ⟨_, rfl⟩
          rw [← hn1] at hfd
          rw [hfd] at hs2
          have HS2 : Hid (∀ k, k < j + 1 → ((M.set (32 + j) n2).set j n1).getD k 0 = (fitTwo (pt ia) (pt ib) la lb o k).1 ∧ ((M.set (32 + j) n2).set j n1).getD (32 + k) 0 = (fitTwo (pt ia) (pt ib) la lb o k).2) := by
            rw [Hid, List.set_comm _ _ (by omega : 32 + j ≠ j)]; exact hs2
          have z1 := xor_u xd ob
          have z2 := xor_u yd ob
          have z3 := xor_u pp qq
          have z4 := xor_u X Y
          have z5 := xor_u pp nx
          rw [← hxo] at z1
          rw [← hyo] at z2
          rw [← hpq] at z3
          rw [← hxy] at z4
          rw [← hn1] at z5
          have C1 : Hid (∀ W : World, Calls Try.prog 19 #[.int .u8 (u X)] W fun e w' => e = .returned (.int .u8 (u ix)) ∧ W = w') := fun W => by rw [hix]; exact Inv_c _ X W rfl
          have C2 : Hid (∀ W : World, Calls Try.prog 18 #[.int .u8 (u xo), .int .u8 (u ix)] W fun e w' => e = .returned (.int .u8 (u pp)) ∧ W = w') := fun W => by rw [hpp]; exact Mul_c _ _ xo ix W rfl rfl
          have C3 : Hid (∀ W : World, Calls Try.prog 19 #[.int .u8 (u Y)] W fun e w' => e = .returned (.int .u8 (u iy)) ∧ W = w') := fun W => by rw [hiy]; exact Inv_c _ Y W rfl
          have C4 : Hid (∀ W : World, Calls Try.prog 18 #[.int .u8 (u yo), .int .u8 (u iy)] W fun e w' => e = .returned (.int .u8 (u qq)) ∧ W = w') := fun W => by rw [hqq]; exact Mul_c _ _ yo iy W rfl rfl
          have C5 : Hid (∀ W : World, Calls Try.prog 19 #[.int .u8 (u xy)] W fun e w' => e = .returned (.int .u8 (u iz)) ∧ W = w') := fun W => by rw [hiz]; exact Inv_c _ xy W rfl
          have C6 : Hid (∀ W : World, Calls Try.prog 18 #[.int .u8 (u pq), .int .u8 (u iz)] W fun e w' => e = .returned (.int .u8 (u n2)) ∧ W = w') := fun W => by rw [hn2]; exact Mul_c _ _ pq iz W rfl rfl
          have C7 : Hid (∀ W : World, Calls Try.prog 18 #[.int .u8 (u n2), .int .u8 (u X)] W fun e w' => e = .returned (.int .u8 (u nx)) ∧ W = w') := fun W => by rw [hnx]; exact Mul_c _ _ n2 X W rfl rfl
          clear hs2 hfd hfv hxo hyo hix hiy hpp hqq hpq hxy hiz hn2 hnx hn1 hX hY
          rw [← hxd, ← hyd, ← hob] at HD
          clear hxd hyd hob
          obtain ⟨d0, d1, d2, d3, d4⟩ := HD.out _ _ HTM.out
          go_wp2_with fail
          go_quiet ((first | (go_at_call 19; first | with_reducible exact quiet_eq_add (C1.out _) | with_reducible exact quiet_eq (C1.out _)) | (go_at_call 18; first | with_reducible exact quiet_eq_add (C2.out _) | with_reducible exact quiet_eq (C2.out _))))
          have HT7 : Hid (TM w (wr.drewN nq) o la lb gx gy gf M) := HTM.out.drewN _
          clear d0 d1 d2 d3 d4 HTM
          generalize wr.drewN nq = W7 at *
          obtain ⟨d0, d1, d2, d3, d4⟩ := HD.out _ _ HT7.out
          go_wp2_with fail
          go_quiet ((first | (go_at_call 19; first | with_reducible exact quiet_eq_add (C3.out _) | with_reducible exact quiet_eq (C3.out _)) | (go_at_call 18; first | with_reducible exact quiet_eq_add (C4.out _) | with_reducible exact quiet_eq (C4.out _))))
          have HT8 : Hid (TM w (W7.drewN nq) o la lb gx gy gf M) := HT7.out.drewN _
          clear d0 d1 d2 d3 d4 HT7
          generalize W7.drewN nq = W8 at *
          obtain ⟨d0, d1, d2, d3, d4⟩ := HD.out _ _ HT8.out
          have e1 := cell_byteD HT8.out.m (32 + j) (by rw [HML.out]; omega)
          have f3 := frozen_of_row W8 gf (32 + j) _ _ HT8.out.m
          go_wp2_with (first | (go_at_call 19; refine (C5.out _).mono ?_; rintro e w9 ⟨rfl, rfl⟩) | (go_at_call 18; refine (C6.out _).mono ?_; rintro e w9 ⟨rfl, rfl⟩))
          have HT9 : Hid (TM w (W8.setCell ⟨gf, 32 + j, none⟩ (.int .u8 (u n2))) o la lb gx gy gf (M.set (32 + j) n2)) := HT8.out.set (32 + j) n2
          have e2 : (W8.setCell ⟨gf, 32 + j, none⟩ (.int .u8 (u n2))).cell? ⟨gf, 32 + j, none⟩ = some (.int .u8 (u n2)) := World.cell?_setCell_same' _ _ _ (by rw [e1]; rfl)
          clear d0 d1 d2 d3 d4 HT8 e1 f3
          generalize W8.setCell ⟨gf, 32 + j, none⟩ (.int .u8 (u n2)) = W9 at *
          obtain ⟨d0, d1, d2, d3, d4⟩ := HD.out _ _ HT9.out
          have e3 := cell_byteD HT9.out.m j (by rw [List.length_set, HML.out]; omega)
          have f3 := frozen_of_row W9 gf j _ _ HT9.out.m
          have HG := Lib.hid HT9.out.l2
          have y0 : (0 : Int) ≤ 32 + (j : Int) := by omega
          have y1 : (32 : Int) + (j : Int) < 64 := by omega
          have y2 : (j : Int) < 64 := by omega
          have y3 : ((32 : Int) + (j : Int)).toNat = 32 + j := by omega
          clear d1 d2 d3 d4
          go_region_held3 (fun W => W.cell? ⟨gf, 32 + j, none⟩ = some (.int .u8 (u n2)) ∧ W.cell? ⟨gx, 0, none⟩ = some (.int .u8 (u X)) ∧ W.cell? ⟨gf, j, none⟩ = some (held W ⟨gf, j, none⟩) ∧ W.frozen? ⟨gf, j, none⟩ = false)
            (first
              | exact ⟨e2, d0, held_of e3, f3⟩
              | exact ⟨(World.cell?_setCell_other _ _ _ _ (fun e => by injection e with e e'; omega)).trans e2, (World.cell?_setCell_other _ _ _ _ (fun e => by have := HG.out; injection e with e e'; omega)).trans d0, held_of (World.cell?_setCell_same' _ _ _ (by rw [e3]; rfl)), (World.frozen?_setCell _ _ _ _).trans f3⟩)
            (first | (go_at_call 18; refine (C7.out _).mono ?_; rintro e w9 ⟨rfl, rfl⟩))
          have HE : Hid (TM w (W9.setCell ⟨gf, j, none⟩ (.int .u8 (u n1))).drew o la lb gx gy gf ((M.set (32 + j) n2).set j n1)) := (HT9.out.set j n1).drewN 1
          clear d0 e2 e3 f3 HT9 z1 z2 z3 z4 z5 y0 y1 y2 y3 HD HMV
          generalize (W9.setCell ⟨gf, j, none⟩ (.int .u8 (u n1))).drew = W10 at *
          go_wp2_with fail
          go_roundw
          case rel => exact ⟨j + 1, _, by omega, by go_num, by rw [Hid, List.length_set, List.length_set]; exact HML.out, HS2, HE⟩
          case measure => simp [intOf]; omega
        · obtain rfl : j = 32 := by omega
          have hra2 : row o M ia = la := row_fits o M la ia HLA.out HA0.out (fun i hi => by unfold dat; rw [(HMV.out i hi).1, (HMV.out i hi).2]; exact (fits_two _ _ _ _ _ (pt_ne ia (by have := HM.out; have := HIA.out; omega)) (pt_ne ib (by have := HM.out; have := HIB.out; omega)) HP.out).1)
          have hrb2 : row o M ib = lb := row_fits o M lb ib HLB.out HB0.out (fun i hi => by unfold dat; rw [(HMV.out i hi).1, (HMV.out i hi).2]; exact (fits_two _ _ _ _ _ (pt_ne ia (by have := HM.out; have := HIA.out; omega)) (pt_ne ib (by have := HM.out; have := HIB.out; omega)) HP.out).2)
          have HRA := Lib.hid hra2
          have HRB := Lib.hid hrb2
          clear hra2 hrb2 HMV HA0 HB0
          have cv1 := conv64 _ M HML.out wr HTM.out.m
          have CV := Lib.hid (conv64 gf M HML.out)
          have hr : wr.rangeAt (w.heap.size + 1) 0 (vals o) := range_of_block _ HTM.out.i.bo
          have hu := Try.underlying23
          have hi : (Try.prog.info? 23).map (·.size) = some (vals o).length := by rw [vals_length, HO.out]; exact key_size
          have hl : (vals o).length = 32 := by rw [vals_length, HO.out]
          have h1 := vals_one o
          have HMS : Hid (bs (⟨M.toArray⟩ : ByteArray) = M) := by simp [Hid, bs]
          generalize (⟨M.toArray⟩ : ByteArray) = mstr at *
          go_wp2_with fail
          go_region_held3 (fun W => W.rangeAt (w.heap.size + 1) 0 (vals o) ∧ (convert 32 9 (.slice (some ⟨gf, 0, none⟩) 64 64)).run Try.prog W = .ok (.string mstr) W)
            (first | exact ⟨hr, CV.out _ HTM.out.m⟩ | exact ⟨range_below (W := wr.drew) hr hb8, CV.out _ ((hb8.block _ (lt_of_block HTM.out.m)).trans HTM.out.m)⟩)
            (first | (go_at_call 12; refine (Split_g _ _ _ o M m _ (by rfl) (by rfl) HMS.out HO.out (by have := HM.out; omega) (by have := HM.out; omega) HML.out).mono ?_; rintro e w8 ⟨rfl, hf, hb8⟩))
          have HM8 : Hid (TM w w8 o la lb gx gy gf M) := HTM.out.below (below_of_drew hb8)
          have hf8 : Fill w8 (wr.heap.size + 1) m (flat o M m) := hf
          have hsh := hf8.shs
          obtain ⟨_, _, e1, hqa, -⟩ := hsh.at_ ia (by rw [rows_length]; exact HIA.out)
          cases e1
          obtain ⟨_, _, e2, hqb, -⟩ := hsh.at_ ib (by rw [rows_length]; exact HIB.out)
          cases e2
          rw [rows_get o M m ia HIA.out, Nat.zero_add, HRA.out] at hqa
          rw [rows_get o M m ib HIB.out, Nat.zero_add, HRB.out] at hqb
          have hxa := range_of_block _ HM8.out.i.bx
          have hxb := range_of_block _ HM8.out.i.bY
          clear hr hu hi hl h1 cv1 CV hsh hf hf8 hb8 HTM
          generalize wr.heap.size + 1 = g2 at *
          have hu := Try.underlying34
          have hia : (Try.prog.info? 34).map (·.size) = some (vals la).length := by rw [vals_length, HLA.out]; exact share_size
          have hib : (Try.prog.info? 34).map (·.size) = some (vals lb).length := by rw [vals_length, HLB.out]; exact share_size
          have q1 := fun W : World => share_eql la la HLA.out HLA.out W
          have q2 := fun W : World => share_eql lb lb HLB.out HLB.out W
          rw [show decide (la = la) = true from by simp] at q1
          rw [show decide (lb = lb) = true from by simp] at q2
          go_wp2_with fail
          refine wp_region_noPanic ?_
          refine wp_region_held_drew (S := fun W => Below w8.heap.size w8 W) (by kernel_rfl) ((Below.refl _ _).drew) (fun hHeld => ?_)
          refine wpAnyH_take (i := 0) (v := ?_) rfl (by kernel_rfl) (by kernel_rfl) (by kernel_rfl) (fun _ _ _ h => h) (Or.inl ⟨by rfl, ?_⟩) (by assumption) ?_
          rotate_left
          · intro w hSw; go_simp; try (with_reducible rfl)
          try simp only [List.getElem_toArray, List.getElem_cons_succ, List.getElem_cons_zero, Act.put, List.setIfInBounds_toArray, List.set_cons_zero, List.set_cons_succ]
          refine wpAnyH_take (i := 1) (v := ?_) rfl (by kernel_rfl) (by kernel_rfl) (by kernel_rfl) (fun _ _ _ h => h) (Or.inl ⟨by rfl, ?_⟩) (by assumption) ?_
          rotate_left
          · intro w hSw; go_simp; try (with_reducible rfl)
          try simp only [List.getElem_toArray, List.getElem_cons_succ, List.getElem_cons_zero, Act.put, List.setIfInBounds_toArray, List.set_cons_zero, List.set_cons_succ]
          refine wpAnyH_take (i := 2) (v := ?_) rfl (by kernel_rfl) (by kernel_rfl) (by kernel_rfl) (fun _ _ _ h => h) (Or.inl ⟨by rfl, ?_⟩) (by assumption) ?_
          rotate_left
          · intro w hSw; go_simp; try (with_reducible rfl)
          try simp only [List.getElem_toArray, List.getElem_cons_succ, List.getElem_cons_zero, Act.put, List.setIfInBounds_toArray, List.set_cons_zero, List.set_cons_succ]
          refine wpAnyH_take (i := 3) (v := ?_) rfl (by kernel_rfl) (by kernel_rfl) (by kernel_rfl) (fun _ _ _ h => h) (Or.inl ⟨by rfl, ?_⟩) (by assumption) ?_
          rotate_left
          · intro w hSw; go_simp; try (with_reducible rfl)
          try simp only [List.getElem_toArray, List.getElem_cons_succ, List.getElem_cons_zero, Act.put, List.setIfInBounds_toArray, List.set_cons_zero, List.set_cons_succ]
          refine wpAnyH_take (i := 4) (v := ?_) rfl (by kernel_rfl) (by kernel_rfl) (by kernel_rfl) (fun _ _ _ h => h) (Or.inl ⟨by rfl, ?_⟩) (by assumption) ?_
          rotate_left
          · intro w hSw; go_simp; try (with_reducible rfl)
          try simp only [List.getElem_toArray, List.getElem_cons_succ, List.getElem_cons_zero, Act.put, List.setIfInBounds_toArray, List.set_cons_zero, List.set_cons_succ]
          refine wpAnyH_take (i := 5) (v := ?_) rfl (by kernel_rfl) (by kernel_rfl) (by kernel_rfl) (fun _ _ _ h => h) (Or.inl ⟨by rfl, ?_⟩) (by assumption) ?_
          rotate_left
          · intro w hSw; go_simp; try (with_reducible rfl)
          try simp only [List.getElem_toArray, List.getElem_cons_succ, List.getElem_cons_zero, Act.put, List.setIfInBounds_toArray, List.set_cons_zero, List.set_cons_succ]
          refine wpAnyH_take (i := 6) (v := ?_) rfl (by kernel_rfl) (by kernel_rfl) (by kernel_rfl) (fun _ _ _ h => h) (Or.inl ⟨by rfl, ?_⟩) (by assumption) ?_
          rotate_left
          · intro w hSw; go_simp; try (with_reducible rfl)
          try simp only [List.getElem_toArray, List.getElem_cons_succ, List.getElem_cons_zero, Act.put, List.setIfInBounds_toArray, List.set_cons_zero, List.set_cons_succ]
          refine wpAnyH_take (i := 7) (v := ?_) rfl (by kernel_rfl) (by kernel_rfl) (by kernel_rfl) (fun _ _ _ h => h) (Or.inl ⟨by rfl, ?_⟩) (by assumption) ?_
          rotate_left
          · intro w hSw; go_simp; try (with_reducible rfl)
          try simp only [List.getElem_toArray, List.getElem_cons_succ, List.getElem_cons_zero, Act.put, List.setIfInBounds_toArray, List.set_cons_zero, List.set_cons_succ]
          refine wpAnyH_take (i := 8) (v := ?_) rfl (by kernel_rfl) (by kernel_rfl) (by kernel_rfl) (fun _ _ _ h => h) (Or.inl ⟨by rfl, ?_⟩) (by assumption) ?_
          rotate_left
          · intro w hSw; go_simp; try (with_reducible rfl)
          try simp only [List.getElem_toArray, List.getElem_cons_succ, List.getElem_cons_zero, Act.put, List.setIfInBounds_toArray, List.set_cons_zero, List.set_cons_succ]
          refine wpAnyH_take (i := 9) (v := ?_) rfl (by kernel_rfl) (by kernel_rfl) (by kernel_rfl) (fun _ _ _ h => h) (Or.inl ⟨by rfl, ?_⟩) (by assumption) ?_
          rotate_left
          · intro w hSw; go_simp; try (with_reducible rfl)
          try simp only [List.getElem_toArray, List.getElem_cons_succ, List.getElem_cons_zero, Act.put, List.setIfInBounds_toArray, List.set_cons_zero, List.set_cons_succ]
          refine wpAnyH_take (i := 10) (v := ?_) rfl (by kernel_rfl) (by kernel_rfl) (by kernel_rfl) (fun _ _ _ h => h) (Or.inl ⟨by rfl, ?_⟩) (by assumption) ?_
          rotate_left
          · intro w hSw; go_simp; try (with_reducible rfl)
          try simp only [List.getElem_toArray, List.getElem_cons_succ, List.getElem_cons_zero, Act.put, List.setIfInBounds_toArray, List.set_cons_zero, List.set_cons_succ]
          refine wpAnyH_take (i := 11) (v := ?_) rfl (by kernel_rfl) (by kernel_rfl) (by kernel_rfl) (fun _ _ _ h => h) (Or.inl ⟨by rfl, ?_⟩) (by assumption) ?_
          rotate_left
          · intro w hSw; go_simp; try (with_reducible rfl)
          try simp only [List.getElem_toArray, List.getElem_cons_succ, List.getElem_cons_zero, Act.put, List.setIfInBounds_toArray, List.set_cons_zero, List.set_cons_succ]
          refine wpAnyH_take (i := 12) (v := ?_) rfl (by kernel_rfl) (by kernel_rfl) (by kernel_rfl) (fun _ _ _ h => h) (Or.inl ⟨by rfl, ?_⟩) (by assumption) ?_
          rotate_left
          · intro w hSw; go_simp; try (with_reducible rfl)
          try simp only [List.getElem_toArray, List.getElem_cons_succ, List.getElem_cons_zero, Act.put, List.setIfInBounds_toArray, List.set_cons_zero, List.set_cons_succ]
          refine wpAnyH_take (i := 13) (v := ?_) rfl (by kernel_rfl) (by kernel_rfl) (by kernel_rfl) (fun _ _ _ h => h) (Or.inl ⟨by rfl, ?_⟩) (by assumption) ?_
          rotate_left
          · intro w hSw; go_simp; try (with_reducible rfl)
          try simp only [List.getElem_toArray, List.getElem_cons_succ, List.getElem_cons_zero, Act.put, List.setIfInBounds_toArray, List.set_cons_zero, List.set_cons_succ]
          refine wpAnyH_take (i := 14) (v := ?_) rfl (by kernel_rfl) (by kernel_rfl) (by kernel_rfl) (fun _ _ _ h => h) (Or.inl ⟨by rfl, ?_⟩) (by assumption) ?_
          rotate_left
          · intro w hSw; go_simp; try (with_reducible rfl)
          try simp only [List.getElem_toArray, List.getElem_cons_succ, List.getElem_cons_zero, Act.put, List.setIfInBounds_toArray, List.set_cons_zero, List.set_cons_succ]
          refine' wpAnyH_take (i := 15) (v := _) rfl (by kernel_rfl) (by kernel_rfl) (by kernel_rfl) (fun _ _ _ h => h) (yieldsIf_load_mid (by rfl) _ _ rfl _ _ rfl _ _ (fun W hW => range_below hqa hW) hu (by rfl) hia) (by assumption) ?_
          try simp only [List.getElem_toArray, List.getElem_cons_succ, List.getElem_cons_zero, Act.put, List.setIfInBounds_toArray, List.set_cons_zero, List.set_cons_succ]
          refine' wpAnyH_take (i := 16) (v := _) rfl (by kernel_rfl) (by kernel_rfl) (by kernel_rfl) (fun _ _ _ h => h) (yieldsIf_load_mid (by rfl) _ _ rfl _ _ rfl _ _ (fun W hW => range_below hxa hW) hu (by rfl) hia) (by assumption) ?_
          try simp only [List.getElem_toArray, List.getElem_cons_succ, List.getElem_cons_zero, Act.put, List.setIfInBounds_toArray, List.set_cons_zero, List.set_cons_succ]
          refine wpAnyH_take (i := 17) (v := ?_) rfl (by kernel_rfl) (by kernel_rfl) (by kernel_rfl) (fun _ _ _ h => h) (Or.inl ⟨by rfl, ?_⟩) (by assumption) ?_
          rotate_left
          · intro w hSw; go_simp; try (with_reducible rfl)
          try simp only [List.getElem_toArray, List.getElem_cons_succ, List.getElem_cons_zero, Act.put, List.setIfInBounds_toArray, List.set_cons_zero, List.set_cons_succ]
          refine wpAnyH_take (i := 18) (v := ?_) rfl (by kernel_rfl) (by kernel_rfl) (by kernel_rfl) (fun _ _ _ h => h) (Or.inl ⟨by rfl, ?_⟩) (by assumption) ?_
          rotate_left
          · intro w hSw; go_simp; try (with_reducible rfl)
          try simp only [List.getElem_toArray, List.getElem_cons_succ, List.getElem_cons_zero, Act.put, List.setIfInBounds_toArray, List.set_cons_zero, List.set_cons_succ]
          refine wpAnyH_take (i := 19) (v := ?_) rfl (by kernel_rfl) (by kernel_rfl) (by kernel_rfl) (fun _ _ _ h => h) (Or.inl ⟨by rfl, ?_⟩) (by assumption) ?_
          rotate_left
          · intro w hSw; go_simp; try (with_reducible rfl)
          try simp only [List.getElem_toArray, List.getElem_cons_succ, List.getElem_cons_zero, Act.put, List.setIfInBounds_toArray, List.set_cons_zero, List.set_cons_succ]
          refine wpAnyH_take (i := 20) (v := ?_) rfl (by kernel_rfl) (by kernel_rfl) (by kernel_rfl) (fun _ _ _ h => h) (Or.inl ⟨by rfl, ?_⟩) (by assumption) ?_
          rotate_left
          · intro w hSw; go_simp; try (with_reducible rfl)
          try simp only [List.getElem_toArray, List.getElem_cons_succ, List.getElem_cons_zero, Act.put, List.setIfInBounds_toArray, List.set_cons_zero, List.set_cons_succ]
          refine wpAnyH_take (i := 21) (v := ?_) rfl (by kernel_rfl) (by kernel_rfl) (by kernel_rfl) (fun _ _ _ h => h) (Or.inl ⟨by rfl, ?_⟩) (by assumption) ?_
          rotate_left
          · intro w hSw; go_simp; try (with_reducible rfl)
          try simp only [List.getElem_toArray, List.getElem_cons_succ, List.getElem_cons_zero, Act.put, List.setIfInBounds_toArray, List.set_cons_zero, List.set_cons_succ]
          refine wpAnyH_take (i := 22) (v := ?_) rfl (by kernel_rfl) (by kernel_rfl) (by kernel_rfl) (fun _ _ _ h => h) (Or.inl ⟨by rfl, ?_⟩) (by assumption) ?_
          rotate_left
          · intro w hSw; go_simp; try (with_reducible rfl)
          try simp only [List.getElem_toArray, List.getElem_cons_succ, List.getElem_cons_zero, Act.put, List.setIfInBounds_toArray, List.set_cons_zero, List.set_cons_succ]
          refine wpAnyH_take (i := 23) (v := ?_) rfl (by kernel_rfl) (by kernel_rfl) (by kernel_rfl) (fun _ _ _ h => h) (Or.inl ⟨by rfl, ?_⟩) (by assumption) ?_
          rotate_left
          · intro w hSw; go_simp; try (with_reducible rfl)
          try simp only [List.getElem_toArray, List.getElem_cons_succ, List.getElem_cons_zero, Act.put, List.setIfInBounds_toArray, List.set_cons_zero, List.set_cons_succ]
          refine wpAnyH_take (i := 24) (v := ?_) rfl (by kernel_rfl) (by kernel_rfl) (by kernel_rfl) (fun _ _ _ h => h) (Or.inl ⟨by rfl, ?_⟩) (by assumption) ?_
          rotate_left
          · intro w hSw; go_simp; try (with_reducible rfl)
          try simp only [List.getElem_toArray, List.getElem_cons_succ, List.getElem_cons_zero, Act.put, List.setIfInBounds_toArray, List.set_cons_zero, List.set_cons_succ]
          refine wpAnyH_take (i := 25) (v := ?_) rfl (by kernel_rfl) (by kernel_rfl) (by kernel_rfl) (fun _ _ _ h => h) (Or.inl ⟨by rfl, ?_⟩) (by assumption) ?_
          rotate_left
          · intro w hSw; go_simp; try (with_reducible rfl)
          try simp only [List.getElem_toArray, List.getElem_cons_succ, List.getElem_cons_zero, Act.put, List.setIfInBounds_toArray, List.set_cons_zero, List.set_cons_succ]
          refine' wpAnyH_take (i := 26) (v := _) rfl (by kernel_rfl) (by kernel_rfl) (by kernel_rfl) (fun _ _ _ h => h) (yieldsIf_load_mid (by rfl) _ _ rfl _ _ rfl _ _ (fun W hW => range_below hqb hW) hu (by rfl) hib) (by assumption) ?_
          try simp only [List.getElem_toArray, List.getElem_cons_succ, List.getElem_cons_zero, Act.put, List.setIfInBounds_toArray, List.set_cons_zero, List.set_cons_succ]
          refine' wpAnyH_take (i := 27) (v := _) rfl (by kernel_rfl) (by kernel_rfl) (by kernel_rfl) (fun _ _ _ h => h) (yieldsIf_load_mid (by rfl) _ _ rfl _ _ rfl _ _ (fun W hW => range_below hxb hW) hu (by rfl) hib) (by assumption) ?_
          try simp only [List.getElem_toArray, List.getElem_cons_succ, List.getElem_cons_zero, Act.put, List.setIfInBounds_toArray, List.set_cons_zero, List.set_cons_succ]
          refine wpAnyH_take (i := 28) (v := ?_) rfl (by kernel_rfl) (by kernel_rfl) (by kernel_rfl) (fun _ _ _ h => h) (Or.inl ⟨by rfl, ?_⟩) (by assumption) ?_
          rotate_left
          · intro w hSw; go_simp; try (with_reducible rfl)
          try simp only [List.getElem_toArray, List.getElem_cons_succ, List.getElem_cons_zero, Act.put, List.setIfInBounds_toArray, List.set_cons_zero, List.set_cons_succ]
          refine wpAnyH_take (i := 29) (v := ?_) rfl (by kernel_rfl) (by kernel_rfl) (by kernel_rfl) (fun _ _ _ h => h) (Or.inl ⟨by rfl, ?_⟩) (by assumption) ?_
          rotate_left
          · intro w hSw; go_simp; try (with_reducible rfl)
          try simp only [List.getElem_toArray, List.getElem_cons_succ, List.getElem_cons_zero, Act.put, List.setIfInBounds_toArray, List.set_cons_zero, List.set_cons_succ]
          refine wpAnyH_take (i := 30) (v := ?_) rfl (by kernel_rfl) (by kernel_rfl) (by kernel_rfl) (fun _ _ _ h => h) (Or.inl ⟨by rfl, ?_⟩) (by assumption) ?_
          rotate_left
          · intro w hSw; go_simp; try (with_reducible rfl)
          try simp only [List.getElem_toArray, List.getElem_cons_succ, List.getElem_cons_zero, Act.put, List.setIfInBounds_toArray, List.set_cons_zero, List.set_cons_succ]
          refine wpAnyH_ready (rs := [31]) (by kernel_rfl) (by simp) ?_
          refine AllReadyH.cons (o := _) rfl (fun K hK => ?_) ?_
          · simp only [List.getElem_toArray, List.getElem_cons_succ, List.getElem_cons_zero]
            go_simp
            go_at_call 17
            refine Calls.mono (splits_c _) ?_
            rintro e w9 ⟨rfl, hb9⟩
            refine hK.out _ _ ?_ (fun hHeld => ?_)
            · exact (Below.refl _ _).drew.trans hb9
            clear hK K
            try simp only [Act.put, List.setIfInBounds_toArray, List.set_cons_zero, List.set_cons_succ]
            refine wpAnyH_take (i := 32) (v := ?_) rfl (by kernel_rfl) (by kernel_rfl) (by kernel_rfl) (fun _ _ _ h => h) (Or.inl ⟨by rfl, ?_⟩) (by assumption) ?_
            rotate_left
            · intro w hSw; go_simp; try (with_reducible rfl)
            try simp only [List.getElem_toArray, List.getElem_cons_succ, List.getElem_cons_zero, Act.put, List.setIfInBounds_toArray, List.set_cons_zero, List.set_cons_succ]
            refine wpAnyH_take (i := 33) (v := ?_) rfl (by kernel_rfl) (by kernel_rfl) (by kernel_rfl) (fun _ _ _ h => h) (Or.inl ⟨by rfl, ?_⟩) (by assumption) ?_
            rotate_left
            · intro w hSw; go_simp; try (with_reducible rfl)
            try simp only [List.getElem_toArray, List.getElem_cons_succ, List.getElem_cons_zero, Act.put, List.setIfInBounds_toArray, List.set_cons_zero, List.set_cons_succ]
            refine wpAnyH_done (by kernel_rfl) ?_ _
            refine NoPanic.normal ?_
            have HB9 : Hid (Below w.heap.size w w9) := HM8.out.i.b.trans (((Below.refl _ _).drew.trans hb9).mono HM8.out.i.b.size)
            clear hHeld hb9
            go_wp2
            go_ret
            exact ⟨ret_bool (by simp), HB9.out⟩
          exact AllReadyH.nil

theorem TopTwoFit_any (v : Value) (h : IsArr 32 v) (v' : Value) (h' : IsArr 32 v') (y : Value) (hy : IsArr 64 y) (n : Int) (hn : (Lit.int .u8 n).wf = true) (a : Int) (ha : (Lit.int .u8 a).wf = true) (b : Int) (hb : (Lit.int .u8 b).wf = true) (w : World) :
    Calls Try.prog 7 #[v, v', y, .int .u8 n, .int .u8 a, .int .u8 b] w fun e w' => e = .returned (.bool true) ∧ Below w.heap.size w w' := by
  obtain ⟨s, hs, rfl⟩ := h
  obtain ⟨o, ho, rfl⟩ := h'
  obtain ⟨z, hz, rfl⟩ := hy
  obtain ⟨c, rfl⟩ := u_wf hn
  obtain ⟨p, rfl⟩ := u_wf ha
  obtain ⟨q, rfl⟩ := u_wf hb
  exact TopTwoFit_w s o z c p q w hs ho hz

end Go.Proofs.Ytffmnldhklejcaa
