/- Steps of a region that draws its order, by hand: a slice of shares, a new key, its store. -/
import Derived.Test.YtffmnldhklejcaaShAnyLaw
namespace Go.Proofs.Ytffmnldhklejcaa
open Go.RowKit
set_option linter.unusedSimpArgs false

section
variable {o : Oper} {a : Act} {w : World} {K : Act → World → Prop} {Q : Exit → Act → World → Prop}
theorem wp_run {P : Program} {w' : World} (v : Value) (hrun : (execOp a.eval o).run P w = .ok (.value v) w') (h : K (a.put o.dst v) w') : o.wp P a w K Q := by
  unfold Oper.wp
  rw [hrun, Oper.upon_value]
  exact h
theorem wp_shares3 (x y z : Operand) (ho : o.op = .buildSlice 25 3 #[(0, x), (1, y), (2, z)]) (l m n : List UInt8) (hx : a.eval x = .agg (vals l).toArray) (hy : a.eval y = .agg (vals m).toArray) (hz : a.eval z = .agg (vals n).toArray)
    (hl : l.length = 33) (hm : m.length = 33) (hn : n.length = 33)
    (h : K (a.put o.dst (.slice (some ⟨w.heap.size, 0, none⟩) 3 3)) (w.alloc (.cells (vals (l ++ (m ++ n))).toArray 34))) : o.wp Try.prog a w K Q :=
  wp_run _ (by
    unfold execOp
    simp only [ho, List.map_toArray, List.map_cons, List.map_nil, hx, hy, hz, Sem.run_bind, shares_build3 l m n hl hm hn w, Result.andThen_ok]
    rfl) h
theorem wp_key_alloc (ho : o.op = .alloc 23) (h : K (a.put o.dst (.pointer (some ⟨w.heap.size, 0, none⟩))) (w.alloc (.cells (vals (zs 32)).toArray 23))) : o.wp Try.prog a w K Q :=
  wp_run _ (by
    unfold execOp
    simp only [ho, Sem.run_bind, key_alloc w, Result.andThen_ok]
    rfl) h
end

/-- the load of a key, and a key's literal, unopened -/
noncomputable def keyLoad (x : Value) : Sem Value := Instr.loadAt 23 x
theorem keyLoad_pre (x : Value) : Instr.loadAt 23 x = keyLoad x := rfl
theorem keyLoad_at {W : World} {g : Nat} {l : List UInt8} {t : TypeId} {fr : Nat × Nat} (h : W.heap[g]? = some (.cells (vals l).toArray t fr)) (hl : l.length = 32) : (keyLoad (.pointer (some ⟨g, 0, none⟩))).run Try.prog W = .ok (.agg (vals l).toArray) W :=
  run_loadAt_mid W g 0 _ (vals l) _ (range_of_block _ h) Try.underlying23 (by rfl) (by rw [vals_length, hl]; exact key_size)
noncomputable def keyBuild (x : Array (Nat × Value)) : Sem Value := Instr.build 23 x
theorem keyBuild_pre (x : Array (Nat × Value)) : Instr.build 23 x = keyBuild x := rfl

/-- the key 1, 2, 3 -/
def k123 : List UInt8 := [1, 2, 3] ++ zs 29
theorem k123_length : k123.length = 32 := by simp [k123, zs]
theorem k123_build (w : World) : (Instr.build 23 #[(0, .int .u8 1), (1, .int .u8 2), (2, .int .u8 3)]).run Try.prog w = .ok (.agg (vals k123).toArray) w := run_build w _ _ _ (by kernel_rfl)

section
variable {ops : Array Oper} {rest : List Oper} {o : Oper} {a : Act} {Q : Exit → Act → World → Prop}
theorem wpList_k123 {w : World} (hg : o.guard = none) (ho : o.op = .build 23 #[(0, .const (.int .u8 1)), (1, .const (.int .u8 2)), (2, .const (.int .u8 3))])
    (h : wpList Try.prog ops Q rest (a.put o.dst (.agg (vals k123).toArray)) w) : wpList Try.prog ops Q (o :: rest) a w :=
  wpList_run hg _ (by
    unfold execOp
    simp only [ho, List.map_toArray, List.map_cons, List.map_nil, Act.eval, Sem.run_bind, k123_build w, Result.andThen_ok]
    rfl) h
end

attribute [local go_sem ↓] keyLoad_pre keyBuild_pre

set_option maxRecDepth 100000 in
set_option maxHeartbeats 1000000 in
theorem splits_c (w : World) : Calls Try.prog 17 #[] w fun e w' => e = .returned (.bool true) ∧ Below w.heap.size w w' := by
  have hkb : ∀ W : World, (keyBuild #[(0, .int .u8 1), (1, .int .u8 2), (2, .int .u8 3)]).run Try.prog W = .ok (.agg (vals k123).toArray) W := k123_build
  have hmk : ∀ W : World, (Instr.makeSlice 32 (.int .i64 64) (.int .i64 64)).run Try.prog W = .ok (.slice (some ⟨W.heap.size, 0, none⟩) 64 64) (W.alloc (.cells (vals (List.replicate 64 0)).toArray 5)) := bytes_make 64 (by omega)
  have hcv := str_of_bytes w.heap.size 0 64 64 (List.replicate 64 0) (w.alloc (.cells (vals (List.replicate 64 0)).toArray 5)) (by simp) (fun i h => by
    rw [cell_of_row _ w.heap.size _ _ _ _ (heap_alloc_new w _), Nat.zero_add, List.getElem?_toArray, List.getElem?_eq_getElem (by rw [vals_length]; exact h), vals_get _ i h])
  have ZN : Hid (bs (⟨(List.replicate 64 (0 : UInt8)).toArray⟩ : ByteArray) = List.replicate 64 0) := by simp [Hid, bs]
  generalize (⟨(List.replicate 64 (0 : UInt8)).toArray⟩ : ByteArray) = str at *
  generalize hno : List.replicate 64 (0 : UInt8) = no at *
  have HNO : Hid (no.length = 64) := by rw [Hid, ← hno]; simp
  clear hno
  generalize vals no = vs at *
  go_enter Try.func17, Try.ntmps17
  go_wp2_with (refine wpList_k123 (by rfl) (by rfl) ?_)
  refine (Split_g _ _ _ k123 no 5 _ (by rfl) (by rfl) ZN.out k123_length (by omega) (by omega) HNO.out).mono ?_
  rintro e w1 ⟨rfl, hf, hb⟩
  have hsh := hf.shs
  have HB := Lib.hid (((Below.refl _ w).alloc (Nat.le_refl _) (.cells vs.toArray 5)).trans (hb.mono (by simp)))
  clear hb
  have r4 := hsh.at_ 4 (by rw [rows_length]; omega)
  have r0 := hsh.at_ 0 (by rw [rows_length]; omega)
  have r2 := hsh.at_ 2 (by rw [rows_length]; omega)
  obtain ⟨_, _, e4, hr4, hl4⟩ := r4
  obtain ⟨_, _, e0, hr0, hl0⟩ := r0
  obtain ⟨_, _, e2, hr2, hl2⟩ := r2
  cases e4
  cases e0
  cases e2
  rw [rows_get k123 no 5 4 (by omega)] at hr4 hl4
  rw [rows_get k123 no 5 0 (by omega)] at hr0 hl0
  rw [rows_get k123 no 5 2 (by omega)] at hr2 hl2
  have hr4 : w1.rangeAt (w.heap.size + 1 + 1) 132 (vals (row k123 no 4)) := by simpa using hr4
  have hr0 : w1.rangeAt (w.heap.size + 1 + 1) 0 (vals (row k123 no 0)) := by simpa using hr0
  have hr2 : w1.rangeAt (w.heap.size + 1 + 1) 66 (vals (row k123 no 2)) := by simpa using hr2
  have HKE := join_rows k123 no k123_length 4 0 2 (by omega) (by omega) (by omega) ⟨by omega, by omega, by omega⟩
  clear hsh hf
  generalize row k123 no 4 = l4 at *
  generalize row k123 no 0 = l0 at *
  generalize row k123 no 2 = l2 at *
  have hu := Try.underlying34
  have hi4 : (Try.prog.info? 34).map (·.size) = some (vals l4).length := by rw [vals_length, hl4]; exact share_size
  have hi0 : (Try.prog.info? 34).map (·.size) = some (vals l0).length := by rw [vals_length, hl0]; exact share_size
  have hi2 : (Try.prog.info? 34).map (·.size) = some (vals l2).length := by rw [vals_length, hl2]; exact share_size
  go_wp2_with fail
  obtain ⟨kl, hkl⟩ : ∃ kl, kl = k123 := ⟨_, rfl⟩
  have HKL : Hid (kl.length = 32) := by rw [Hid, hkl]; exact k123_length
  have hq := fun W : World => key_eql kl k123 HKL.out k123_length W
  rw [show decide (kl = k123) = true from by simp [hkl]] at hq
  rw [← hkl] at HKE
  clear hkl
  have HC : Hid (∀ (g : Nat) (W : World), W.heap[g]? = some (.cells (vals (l4 ++ (l0 ++ l2))).toArray 34 (0, 0)) → Calls Try.prog 20 #[.slice (some ⟨g, 0, none⟩) 3 3] W fun e w' => e = .returned (.tuple #[.agg (vals kl).toArray, .int .i64 0]) ∧ Below W.heap.size W w') := fun g W h => by
    have h2 : Shs W (some ⟨g, 0, none⟩) [l4, l0, l2] := shs_of_block _ (by simp [hl4, hl0, hl2]) (by simpa using h)
    have h3 := Join_c (some ⟨g, 0, none⟩) 3 3 [l4, l0, l2] W rfl h2
    rw [HKE] at h3
    exact h3
  refine wp_region_noPanic ?_
  refine wp_region_held_drew (S := fun W => Below w1.heap.size w1 W) (by kernel_rfl) ((Below.refl _ _).drew) (fun hHeld => ?_)
  refine wpAnyH_take (i := 0) (v := ?_) rfl (by kernel_rfl) (by kernel_rfl) (by kernel_rfl) (fun _ _ _ h => h) (Or.inl ⟨by rfl, ?_⟩) (by assumption) ?_
  rotate_left
  · intro w hSw; go_simp; try (with_reducible rfl)
  try simp only [List.getElem_toArray, List.getElem_cons_succ, List.getElem_cons_zero, Act.put, List.setIfInBounds_toArray, List.set_cons_zero, List.set_cons_succ]
  refine wpAnyH_take (i := 1) (v := ?_) rfl (by kernel_rfl) (by kernel_rfl) (by kernel_rfl) (fun _ _ _ h => h) (Or.inl ⟨by rfl, ?_⟩) (by assumption) ?_
  rotate_left
  · intro w hSw; go_simp; try (with_reducible rfl)
  try simp only [List.getElem_toArray, List.getElem_cons_succ, List.getElem_cons_zero, Act.put, List.setIfInBounds_toArray, List.set_cons_zero, List.set_cons_succ]
  refine' wpAnyH_take (i := 2) (v := _) rfl (by kernel_rfl) (by kernel_rfl) (by kernel_rfl) (fun _ _ _ h => h) (yieldsIf_load_mid (by rfl) _ _ rfl _ _ rfl _ _ (fun W hW => range_below hr4 hW) hu (by rfl) hi4) (by assumption) ?_
  try simp only [List.getElem_toArray, List.getElem_cons_succ, List.getElem_cons_zero, Act.put, List.setIfInBounds_toArray, List.set_cons_zero, List.set_cons_succ]
  refine wpAnyH_take (i := 3) (v := ?_) rfl (by kernel_rfl) (by kernel_rfl) (by kernel_rfl) (fun _ _ _ h => h) (Or.inl ⟨by rfl, ?_⟩) (by assumption) ?_
  rotate_left
  · intro w hSw; go_simp; try (with_reducible rfl)
  try simp only [List.getElem_toArray, List.getElem_cons_succ, List.getElem_cons_zero, Act.put, List.setIfInBounds_toArray, List.set_cons_zero, List.set_cons_succ]
  refine wpAnyH_take (i := 4) (v := ?_) rfl (by kernel_rfl) (by kernel_rfl) (by kernel_rfl) (fun _ _ _ h => h) (Or.inl ⟨by rfl, ?_⟩) (by assumption) ?_
  rotate_left
  · intro w hSw; go_simp; try (with_reducible rfl)
  try simp only [List.getElem_toArray, List.getElem_cons_succ, List.getElem_cons_zero, Act.put, List.setIfInBounds_toArray, List.set_cons_zero, List.set_cons_succ]
  refine' wpAnyH_take (i := 5) (v := _) rfl (by kernel_rfl) (by kernel_rfl) (by kernel_rfl) (fun _ _ _ h => h) (yieldsIf_load_mid (by rfl) _ _ rfl _ _ rfl _ _ (fun W hW => range_below hr0 hW) hu (by rfl) hi0) (by assumption) ?_
  try simp only [List.getElem_toArray, List.getElem_cons_succ, List.getElem_cons_zero, Act.put, List.setIfInBounds_toArray, List.set_cons_zero, List.set_cons_succ]
  refine wpAnyH_take (i := 6) (v := ?_) rfl (by kernel_rfl) (by kernel_rfl) (by kernel_rfl) (fun _ _ _ h => h) (Or.inl ⟨by rfl, ?_⟩) (by assumption) ?_
  rotate_left
  · intro w hSw; go_simp; try (with_reducible rfl)
  try simp only [List.getElem_toArray, List.getElem_cons_succ, List.getElem_cons_zero, Act.put, List.setIfInBounds_toArray, List.set_cons_zero, List.set_cons_succ]
  refine wpAnyH_take (i := 7) (v := ?_) rfl (by kernel_rfl) (by kernel_rfl) (by kernel_rfl) (fun _ _ _ h => h) (Or.inl ⟨by rfl, ?_⟩) (by assumption) ?_
  rotate_left
  · intro w hSw; go_simp; try (with_reducible rfl)
  try simp only [List.getElem_toArray, List.getElem_cons_succ, List.getElem_cons_zero, Act.put, List.setIfInBounds_toArray, List.set_cons_zero, List.set_cons_succ]
  refine' wpAnyH_take (i := 8) (v := _) rfl (by kernel_rfl) (by kernel_rfl) (by kernel_rfl) (fun _ _ _ h => h) (yieldsIf_load_mid (by rfl) _ _ rfl _ _ rfl _ _ (fun W hW => range_below hr2 hW) hu (by rfl) hi2) (by assumption) ?_
  try simp only [List.getElem_toArray, List.getElem_cons_succ, List.getElem_cons_zero, Act.put, List.setIfInBounds_toArray, List.set_cons_zero, List.set_cons_succ]
  refine wpAnyH_ready (rs := [9, 14]) (by kernel_rfl) (by simp) ?_
  refine AllReadyH.cons (o := _) rfl (fun K hK => ?_) ?_
  · simp only [List.getElem_toArray, List.getElem_cons_succ, List.getElem_cons_zero]
    rw [if_pos (by rfl)]
    refine wp_shares3 (.tmp 22) (.tmp 25) (.tmp 28) (by rfl) l4 l0 l2 (by rfl) (by rfl) (by rfl) hl4 hl0 hl2 ?_
    refine hK.out _ _ ?_ (fun hHeld => ?_)
    · exact (Below.refl _ _).drew.alloc (Nat.le_refl _) _
    clear hK K
    try simp only [Act.put, List.setIfInBounds_toArray, List.set_cons_zero, List.set_cons_succ]
    refine wpAnyH_ready (rs := [10, 14]) (by kernel_rfl) (by simp) ?_
    refine AllReadyH.cons (o := _) rfl (fun K hK => ?_) ?_
    · simp only [List.getElem_toArray, List.getElem_cons_succ, List.getElem_cons_zero]
      go_simp
      go_at_call 20
      refine Calls.mono (HC.out _ _ ?_) ?_
      · exact (heap_at _ _ _ rfl)
      rintro e w2 ⟨rfl, hb2⟩
      refine hK.out _ _ ?_ (fun hHeld => ?_)
      · exact ((Below.refl _ _).drew.alloc (Nat.le_refl _) _).trans (hb2.mono (by first | (simp; done) | (simp; omega)))
      clear hK K
      try simp only [Act.put, List.setIfInBounds_toArray, List.set_cons_zero, List.set_cons_succ]
      refine wpAnyH_take (i := 11) (v := ?_) rfl (by kernel_rfl) (by kernel_rfl) (by kernel_rfl) (fun _ _ _ h => h) (Or.inl ⟨by rfl, ?_⟩) (by assumption) ?_
      rotate_left
      · intro w hSw; go_simp; try (with_reducible rfl)
      try simp only [List.getElem_toArray, List.getElem_cons_succ, List.getElem_cons_zero, Act.put, List.setIfInBounds_toArray, List.set_cons_zero, List.set_cons_succ]
      refine wpAnyH_take (i := 12) (v := ?_) rfl (by kernel_rfl) (by kernel_rfl) (by kernel_rfl) (fun _ _ _ h => h) (Or.inl ⟨by rfl, ?_⟩) (by assumption) ?_
      rotate_left
      · intro w hSw; go_simp; try (with_reducible rfl)
      try simp only [List.getElem_toArray, List.getElem_cons_succ, List.getElem_cons_zero, Act.put, List.setIfInBounds_toArray, List.set_cons_zero, List.set_cons_succ]
      refine wpAnyH_take (i := 13) (v := ?_) rfl (by kernel_rfl) (by kernel_rfl) (by kernel_rfl) (fun _ _ _ h => h) (Or.inl ⟨by rfl, ?_⟩) (by assumption) ?_
      rotate_left
      · intro w hSw; go_simp; try (with_reducible rfl)
      try simp only [List.getElem_toArray, List.getElem_cons_succ, List.getElem_cons_zero, Act.put, List.setIfInBounds_toArray, List.set_cons_zero, List.set_cons_succ]
      refine wpAnyH_ready (rs := [14]) (by kernel_rfl) (by simp) ?_
      refine AllReadyH.cons (o := _) rfl (fun K hK => ?_) ?_
      · simp only [List.getElem_toArray, List.getElem_cons_succ, List.getElem_cons_zero]
        rw [if_pos (by rfl)]
        refine wp_key_alloc (by rfl) ?_
        refine hK.out _ _ ?_ (fun hHeld => ?_)
        · exact (((Below.refl _ _).drew.alloc (Nat.le_refl _) _).trans (hb2.mono (by first | (simp; done) | (simp; omega)))).alloc (by first | omega | (simp; done) | (simp; omega) | (have h := hb2.size; simp at h; omega) | (have h := hb2.size; simp at h ⊢; omega)) _
        clear hK K
        try simp only [Act.put, List.setIfInBounds_toArray, List.set_cons_zero, List.set_cons_succ]
        refine wpAnyH_ready (rs := [15]) (by kernel_rfl) (by simp) ?_
        refine AllReadyH.cons (o := _) rfl (fun K hK => ?_) ?_
        · simp only [List.getElem_toArray, List.getElem_cons_succ, List.getElem_cons_zero]
          rw [if_pos (by rfl)]
          refine wp_store_row 23 (.tmp 3) (.tmp 31) (by rfl) w2.heap.size (vals kl).toArray (by rfl) (by rfl) 23 (vals (zs 32)).toArray (heap_at _ _ _ rfl) (by rw [List.size_toArray, vals_length, HKL.out]; exact key_size) (by simp [vals_length, zs_length, HKL.out]) (u8_all kl) ?_
          refine hK.out _ _ ?_ (fun hHeld => ?_)
          · exact below_setRow ((((Below.refl _ _).drew.alloc (Nat.le_refl _) _).trans (hb2.mono (by first | (simp; done) | (simp; omega)))).alloc (by first | omega | (simp; done) | (simp; omega) | (have h := hb2.size; simp at h; omega) | (have h := hb2.size; simp at h ⊢; omega)) _) (by first | omega | (simp; done) | (simp; omega) | (have h := hb2.size; simp at h; omega) | (have h := hb2.size; simp at h ⊢; omega)) _
          clear hK K
          try simp only [Act.put, List.setIfInBounds_toArray, List.set_cons_zero, List.set_cons_succ]
          refine wpAnyH_take (i := 16) (v := ?_) rfl (by kernel_rfl) (by kernel_rfl) (by kernel_rfl) (fun _ _ _ h => h) (Or.inl ⟨by rfl, ?_⟩) (by assumption) ?_
          rotate_left
          · intro w hSw; go_simp; try (with_reducible rfl)
          try simp only [List.getElem_toArray, List.getElem_cons_succ, List.getElem_cons_zero, Act.put, List.setIfInBounds_toArray, List.set_cons_zero, List.set_cons_succ]
          refine wpAnyH_done (by kernel_rfl) ?_ _
          refine NoPanic.normal ?_
          refine world_gen (fun W' => Below w1.heap.size w1 W' ∧ W'.heap[w2.heap.size]? = some (.cells (vals kl).toArray 23 (0, 0))) ⟨below_setRow ((((Below.refl _ _).drew.alloc (Nat.le_refl _) _).trans (hb2.mono (by first | (simp; done) | (simp; omega)))).alloc (by first | omega | (simp; done) | (simp; omega) | (have h := hb2.size; simp at h; omega) | (have h := hb2.size; simp at h ⊢; omega)) _) (by first | omega | (simp; done) | (simp; omega) | (have h := hb2.size; simp at h; omega) | (have h := hb2.size; simp at h ⊢; omega)) _, setRow_heap _ _ _ _ _ _ (heap_at _ _ _ rfl)⟩ (fun W3 hW3 => ?_)
          have e1 := keyLoad_at hW3.2 HKL.out
          have HB3 := Lib.hid (HB.out.trans (hW3.1.mono HB.out.size))
          clear hW3
          go_wp2
          
          go_ret
          exact ⟨ret_bool (by simp), HB3.out⟩
        exact AllReadyH.nil
      exact AllReadyH.nil
    refine AllReadyH.cons (o := _) rfl (fun K hK => ?_) ?_
    · simp only [List.getElem_toArray, List.getElem_cons_succ, List.getElem_cons_zero]
      rw [if_pos (by rfl)]
      refine wp_key_alloc (by rfl) ?_
      refine hK.out _ _ ?_ (fun hHeld => ?_)
      · exact ((Below.refl _ _).drew.alloc (Nat.le_refl _) _).alloc (by simp) _
      clear hK K
      try simp only [Act.put, List.setIfInBounds_toArray, List.set_cons_zero, List.set_cons_succ]
      refine wpAnyH_ready (rs := [10]) (by kernel_rfl) (by simp) ?_
      refine AllReadyH.cons (o := _) rfl (fun K hK => ?_) ?_
      · simp only [List.getElem_toArray, List.getElem_cons_succ, List.getElem_cons_zero]
        go_simp
        go_at_call 20
        refine Calls.mono (HC.out _ _ ?_) ?_
        · exact (heap_alloc2_old _ _ _)
        rintro e w2 ⟨rfl, hb2⟩
        refine hK.out _ _ ?_ (fun hHeld => ?_)
        · exact (((Below.refl _ _).drew.alloc (Nat.le_refl _) _).alloc (by simp) _).trans (hb2.mono (by first | (simp; done) | (simp; omega)))
        clear hK K
        try simp only [Act.put, List.setIfInBounds_toArray, List.set_cons_zero, List.set_cons_succ]
        refine wpAnyH_take (i := 11) (v := ?_) rfl (by kernel_rfl) (by kernel_rfl) (by kernel_rfl) (fun _ _ _ h => h) (Or.inl ⟨by rfl, ?_⟩) (by assumption) ?_
        rotate_left
        · intro w hSw; go_simp; try (with_reducible rfl)
        try simp only [List.getElem_toArray, List.getElem_cons_succ, List.getElem_cons_zero, Act.put, List.setIfInBounds_toArray, List.set_cons_zero, List.set_cons_succ]
        refine wpAnyH_take (i := 12) (v := ?_) rfl (by kernel_rfl) (by kernel_rfl) (by kernel_rfl) (fun _ _ _ h => h) (Or.inl ⟨by rfl, ?_⟩) (by assumption) ?_
        rotate_left
        · intro w hSw; go_simp; try (with_reducible rfl)
        try simp only [List.getElem_toArray, List.getElem_cons_succ, List.getElem_cons_zero, Act.put, List.setIfInBounds_toArray, List.set_cons_zero, List.set_cons_succ]
        refine wpAnyH_take (i := 13) (v := ?_) rfl (by kernel_rfl) (by kernel_rfl) (by kernel_rfl) (fun _ _ _ h => h) (Or.inl ⟨by rfl, ?_⟩) (by assumption) ?_
        rotate_left
        · intro w hSw; go_simp; try (with_reducible rfl)
        try simp only [List.getElem_toArray, List.getElem_cons_succ, List.getElem_cons_zero, Act.put, List.setIfInBounds_toArray, List.set_cons_zero, List.set_cons_succ]
        refine wpAnyH_ready (rs := [15]) (by kernel_rfl) (by simp) ?_
        refine AllReadyH.cons (o := _) rfl (fun K hK => ?_) ?_
        · simp only [List.getElem_toArray, List.getElem_cons_succ, List.getElem_cons_zero]
          rw [if_pos (by rfl)]
          refine wp_store_row 23 (.tmp 3) (.tmp 31) (by rfl) (w1.heap.size + 1) (vals kl).toArray (by rfl) (by rfl) 23 (vals (zs 32)).toArray ((hb2.block _ (by first | (simp; done) | (simp; omega))).trans (heap_alloc2_new _ _ _)) (by rw [List.size_toArray, vals_length, HKL.out]; exact key_size) (by simp [vals_length, zs_length, HKL.out]) (u8_all kl) ?_
          refine hK.out _ _ ?_ (fun hHeld => ?_)
          · exact below_setRow ((((Below.refl _ _).drew.alloc (Nat.le_refl _) _).alloc (by simp) _).trans (hb2.mono (by first | (simp; done) | (simp; omega)))) (by first | omega | (simp; done) | (simp; omega) | (have h := hb2.size; simp at h; omega) | (have h := hb2.size; simp at h ⊢; omega)) _
          clear hK K
          try simp only [Act.put, List.setIfInBounds_toArray, List.set_cons_zero, List.set_cons_succ]
          refine wpAnyH_take (i := 16) (v := ?_) rfl (by kernel_rfl) (by kernel_rfl) (by kernel_rfl) (fun _ _ _ h => h) (Or.inl ⟨by rfl, ?_⟩) (by assumption) ?_
          rotate_left
          · intro w hSw; go_simp; try (with_reducible rfl)
          try simp only [List.getElem_toArray, List.getElem_cons_succ, List.getElem_cons_zero, Act.put, List.setIfInBounds_toArray, List.set_cons_zero, List.set_cons_succ]
          refine wpAnyH_done (by kernel_rfl) ?_ _
          refine NoPanic.normal ?_
          refine world_gen (fun W' => Below w1.heap.size w1 W' ∧ W'.heap[(w1.heap.size + 1)]? = some (.cells (vals kl).toArray 23 (0, 0))) ⟨below_setRow ((((Below.refl _ _).drew.alloc (Nat.le_refl _) _).alloc (by simp) _).trans (hb2.mono (by first | (simp; done) | (simp; omega)))) (by first | omega | (simp; done) | (simp; omega) | (have h := hb2.size; simp at h; omega) | (have h := hb2.size; simp at h ⊢; omega)) _, setRow_heap _ _ _ _ _ _ ((hb2.block _ (by first | (simp; done) | (simp; omega))).trans (heap_alloc2_new _ _ _))⟩ (fun W3 hW3 => ?_)
          have e1 := keyLoad_at hW3.2 HKL.out
          have HB3 := Lib.hid (HB.out.trans (hW3.1.mono HB.out.size))
          clear hW3
          go_wp2
          
          go_ret
          exact ⟨ret_bool (by simp), HB3.out⟩
        exact AllReadyH.nil
      exact AllReadyH.nil
    exact AllReadyH.nil
  refine AllReadyH.cons (o := _) rfl (fun K hK => ?_) ?_
  · simp only [List.getElem_toArray, List.getElem_cons_succ, List.getElem_cons_zero]
    rw [if_pos (by rfl)]
    refine wp_key_alloc (by rfl) ?_
    refine hK.out _ _ ?_ (fun hHeld => ?_)
    · exact (Below.refl _ _).drew.alloc (Nat.le_refl _) _
    clear hK K
    try simp only [Act.put, List.setIfInBounds_toArray, List.set_cons_zero, List.set_cons_succ]
    refine wpAnyH_ready (rs := [9]) (by kernel_rfl) (by simp) ?_
    refine AllReadyH.cons (o := _) rfl (fun K hK => ?_) ?_
    · simp only [List.getElem_toArray, List.getElem_cons_succ, List.getElem_cons_zero]
      rw [if_pos (by rfl)]
      refine wp_shares3 (.tmp 22) (.tmp 25) (.tmp 28) (by rfl) l4 l0 l2 (by rfl) (by rfl) (by rfl) hl4 hl0 hl2 ?_
      refine hK.out _ _ ?_ (fun hHeld => ?_)
      · exact ((Below.refl _ _).drew.alloc (Nat.le_refl _) _).alloc (by simp) _
      clear hK K
      try simp only [Act.put, List.setIfInBounds_toArray, List.set_cons_zero, List.set_cons_succ]
      refine wpAnyH_ready (rs := [10]) (by kernel_rfl) (by simp) ?_
      refine AllReadyH.cons (o := _) rfl (fun K hK => ?_) ?_
      · simp only [List.getElem_toArray, List.getElem_cons_succ, List.getElem_cons_zero]
        go_simp
        go_at_call 20
        refine Calls.mono (HC.out _ _ ?_) ?_
        · exact (heap_alloc2_new _ _ _)
        rintro e w2 ⟨rfl, hb2⟩
        refine hK.out _ _ ?_ (fun hHeld => ?_)
        · exact (((Below.refl _ _).drew.alloc (Nat.le_refl _) _).alloc (by simp) _).trans (hb2.mono (by first | (simp; done) | (simp; omega)))
        clear hK K
        try simp only [Act.put, List.setIfInBounds_toArray, List.set_cons_zero, List.set_cons_succ]
        refine wpAnyH_take (i := 11) (v := ?_) rfl (by kernel_rfl) (by kernel_rfl) (by kernel_rfl) (fun _ _ _ h => h) (Or.inl ⟨by rfl, ?_⟩) (by assumption) ?_
        rotate_left
        · intro w hSw; go_simp; try (with_reducible rfl)
        try simp only [List.getElem_toArray, List.getElem_cons_succ, List.getElem_cons_zero, Act.put, List.setIfInBounds_toArray, List.set_cons_zero, List.set_cons_succ]
        refine wpAnyH_take (i := 12) (v := ?_) rfl (by kernel_rfl) (by kernel_rfl) (by kernel_rfl) (fun _ _ _ h => h) (Or.inl ⟨by rfl, ?_⟩) (by assumption) ?_
        rotate_left
        · intro w hSw; go_simp; try (with_reducible rfl)
        try simp only [List.getElem_toArray, List.getElem_cons_succ, List.getElem_cons_zero, Act.put, List.setIfInBounds_toArray, List.set_cons_zero, List.set_cons_succ]
        refine wpAnyH_take (i := 13) (v := ?_) rfl (by kernel_rfl) (by kernel_rfl) (by kernel_rfl) (fun _ _ _ h => h) (Or.inl ⟨by rfl, ?_⟩) (by assumption) ?_
        rotate_left
        · intro w hSw; go_simp; try (with_reducible rfl)
        try simp only [List.getElem_toArray, List.getElem_cons_succ, List.getElem_cons_zero, Act.put, List.setIfInBounds_toArray, List.set_cons_zero, List.set_cons_succ]
        refine wpAnyH_ready (rs := [15]) (by kernel_rfl) (by simp) ?_
        refine AllReadyH.cons (o := _) rfl (fun K hK => ?_) ?_
        · simp only [List.getElem_toArray, List.getElem_cons_succ, List.getElem_cons_zero]
          rw [if_pos (by rfl)]
          refine wp_store_row 23 (.tmp 3) (.tmp 31) (by rfl) w1.heap.size (vals kl).toArray (by rfl) (by rfl) 23 (vals (zs 32)).toArray ((hb2.block _ (by first | (simp; done) | (simp; omega))).trans (heap_alloc2_old _ _ _)) (by rw [List.size_toArray, vals_length, HKL.out]; exact key_size) (by simp [vals_length, zs_length, HKL.out]) (u8_all kl) ?_
          refine hK.out _ _ ?_ (fun hHeld => ?_)
          · exact below_setRow ((((Below.refl _ _).drew.alloc (Nat.le_refl _) _).alloc (by simp) _).trans (hb2.mono (by first | (simp; done) | (simp; omega)))) (by first | omega | (simp; done) | (simp; omega) | (have h := hb2.size; simp at h; omega) | (have h := hb2.size; simp at h ⊢; omega)) _
          clear hK K
          try simp only [Act.put, List.setIfInBounds_toArray, List.set_cons_zero, List.set_cons_succ]
          refine wpAnyH_take (i := 16) (v := ?_) rfl (by kernel_rfl) (by kernel_rfl) (by kernel_rfl) (fun _ _ _ h => h) (Or.inl ⟨by rfl, ?_⟩) (by assumption) ?_
          rotate_left
          · intro w hSw; go_simp; try (with_reducible rfl)
          try simp only [List.getElem_toArray, List.getElem_cons_succ, List.getElem_cons_zero, Act.put, List.setIfInBounds_toArray, List.set_cons_zero, List.set_cons_succ]
          refine wpAnyH_done (by kernel_rfl) ?_ _
          refine NoPanic.normal ?_
          refine world_gen (fun W' => Below w1.heap.size w1 W' ∧ W'.heap[w1.heap.size]? = some (.cells (vals kl).toArray 23 (0, 0))) ⟨below_setRow ((((Below.refl _ _).drew.alloc (Nat.le_refl _) _).alloc (by simp) _).trans (hb2.mono (by first | (simp; done) | (simp; omega)))) (by first | omega | (simp; done) | (simp; omega) | (have h := hb2.size; simp at h; omega) | (have h := hb2.size; simp at h ⊢; omega)) _, setRow_heap _ _ _ _ _ _ ((hb2.block _ (by first | (simp; done) | (simp; omega))).trans (heap_alloc2_old _ _ _))⟩ (fun W3 hW3 => ?_)
          have e1 := keyLoad_at hW3.2 HKL.out
          have HB3 := Lib.hid (HB.out.trans (hW3.1.mono HB.out.size))
          clear hW3
          go_wp2
          
          go_ret
          exact ⟨ret_bool (by simp), HB3.out⟩
        exact AllReadyH.nil
      exact AllReadyH.nil
    exact AllReadyH.nil
  exact AllReadyH.nil

end Go.Proofs.Ytffmnldhklejcaa
