/- The walk of ShareBlind. -/
import Derived.Test.YtffmnldhklejcaaShBlindLaw
import Derived.Test.YtffmnldhklejcaaShOpen
namespace Go.Proofs.Ytffmnldhklejcaa
open Go.RowKit
set_option linter.unusedSimpArgs false

/-- the load of a share, unopened -/
noncomputable def shareLoad (x : Value) : Sem Value := Instr.loadAt 34 x
theorem shareLoad_pre (x : Value) : Instr.loadAt 34 x = shareLoad x := rfl
theorem shareLoad_range {W : World} {g o : Nat} {l : List UInt8} (h : W.rangeAt g o (vals l)) (hl : l.length = 33) : (shareLoad (.pointer (some ⟨g, o, none⟩))).run Try.prog W = .ok (.agg (vals l).toArray) W :=
  run_loadAt_mid W g o _ (vals l) _ h Try.underlying34 (by rfl) (by rw [vals_length, hl]; exact share_size)
theorem shareLoad_at {W : World} {g : Nat} {l : List UInt8} {t : TypeId} {fr : Nat × Nat} (h : W.heap[g]? = some (.cells (vals l).toArray t fr)) (hl : l.length = 33) : (shareLoad (.pointer (some ⟨g, 0, none⟩))).run Try.prog W = .ok (.agg (vals l).toArray) W := shareLoad_range (range_of_block _ h) hl

attribute [local go_sem ↓] keyLoad_pre keyBuild_pre shareLoad_pre

section
variable {o : Oper} {a : Act} {w : World} {K : Act → World → Prop} {Q : Exit → Act → World → Prop}
theorem wp_share_alloc (ho : o.op = .alloc 34) (h : K (a.put o.dst (.pointer (some ⟨w.heap.size, 0, none⟩))) (w.alloc (.cells (vals (zs 33)).toArray 34))) : o.wp Try.prog a w K Q :=
  wp_run _ (by
    unfold execOp
    simp only [ho, Sem.run_bind, share_alloc w, Result.andThen_ok]
    rfl) h
end
/-- within a region, too, a world of which only so much is known -/
theorem held_gen {P : Program} {md : Region.Mode} {ops : Array Oper} {Q : Exit → Act → World → Prop} {S : World → Prop} {fuel : Nat} {listed : Array Bool} {a : Act} {W : World} (p : World → Prop) (hp : p W)
    (h : ∀ W', p W' → wpAnyH P md ops Q S fuel listed a W') : wpAnyH P md ops Q S fuel listed a W := h W hp

/-- one text for all leaves of a region: what follows is shown once, of a world of which so much is known -/
theorem region_leaf {P : Program} {id : Nat} {ops : Array Oper} {b : Bool} {Q : Exit → Act → World → Prop} {a : Act} {W : World} (p : Nat → Nat → World → Prop) {A : Nat → Nat → Act}
    (h1 : ∀ Q' : Exit → Act → World → Prop, (∀ g1 g2 Z, p g1 g2 Z → Q' .normal (A g1 g2) Z) → (Code.region id ops b).wp P (NoPanic Q') a W) (h2 : ∀ g1 g2 Z, p g1 g2 Z → Q .normal (A g1 g2) Z) : (Code.region id ops b).wp P Q a W := wp_region_noPanic (h1 Q h2)

/-- what the walk keeps: the arguments' boxes -/
structure BI (w W : World) (a b s t : List UInt8) : Prop where
  ba : W.heap[w.heap.size]? = some (.cells (vals a).toArray 34 (0, 0))
  bb : W.heap[w.heap.size + 1]? = some (.cells (vals b).toArray 34 (0, 0))
  bs : W.heap[w.heap.size + 1 + 1]? = some (.cells (vals s).toArray 23 (0, 0))
  bt : W.heap[w.heap.size + 1 + 1 + 1]? = some (.cells (vals t).toArray 23 (0, 0))
  b : Below w.heap.size w W
theorem BI.below {w W W' : World} {a b s t : List UInt8} (h : BI w W a b s t) (hb : Below W.heap.size W W') : BI w W' a b s t :=
  ⟨(hb.block _ (lt_of_block h.ba)).trans h.ba, (hb.block _ (lt_of_block h.bb)).trans h.bb, (hb.block _ (lt_of_block h.bs)).trans h.bs, (hb.block _ (lt_of_block h.bt)).trans h.bt, h.b.trans (hb.mono h.b.size)⟩

set_option maxRecDepth 100000 in
set_option maxHeartbeats 1000000 in
theorem ShareBlind_w (a b s t : List UInt8) (x : UInt8) (w : World) (ha : a.length = 33) (hb : b.length = 33) (hs : s.length = 32) (ht : t.length = 32) :
    Calls Try.prog 10 #[.agg (vals a).toArray, .agg (vals b).toArray, .agg (vals s).toArray, .agg (vals t).toArray, .int .u8 (u x)] w fun e w' => e = .returned (.bool true) ∧ Below w.heap.size w w' := by
  have HA := Lib.hid ha
  have HB := Lib.hid hb
  have HS := Lib.hid hs
  have HT := Lib.hid ht
  clear ha hb hs ht
  go_enter Try.func10, Try.ntmps10
  go_wp2_with fail
  refine (SAlive_c _).mono ?_
  rintro e w1 ⟨rfl, hb1⟩
  have HI : Hid (BI w w1 a b s t) := by
    have al : ∀ (W : World) (o : Obj) (k : Nat), k < W.heap.size → (W.alloc o).heap[k]? = W.heap[k]? := fun W o k hk => Below.heap_alloc W o k hk
    have h0 : BI w ((((w.alloc (.cells (vals a).toArray 34)).alloc (.cells (vals b).toArray 34)).alloc (.cells (vals s).toArray 23)).alloc (.cells (vals t).toArray 23)) a b s t := by
      refine ⟨?_, ?_, ?_, heap_at _ _ _ (by simp), ?_⟩
      · rw [al _ _ _ (by first | (simp; done) | (simp; omega)), al _ _ _ (by first | (simp; done) | (simp; omega)), al _ _ _ (by simp)]; exact heap_at _ _ _ rfl
      · rw [al _ _ _ (by first | (simp; done) | (simp; omega)), al _ _ _ (by first | (simp; done) | (simp; omega))]; exact heap_at _ _ _ (by simp)
      · rw [al _ _ _ (by first | (simp; done) | (simp; omega))]; exact heap_at _ _ _ (by simp)
      · exact ((((Below.refl _ w).alloc (Nat.le_refl _) _).alloc (by simp) _).alloc (by simp; omega) _).alloc (by simp; omega) _
    exact h0.below hb1
  clear hb1
  have c0 := cell_byteD HI.out.ba 0 (by rw [HA.out]; omega)
  have c1 := cell_byteD HI.out.bb 0 (by rw [HB.out]; omega)
  have HA0 : Hid (a.getD 0 0 = a.getD 0 0) := rfl
  generalize hga : a.getD 0 0 = a0 at *
  generalize hgb : b.getD 0 0 = b0 at *
  have HGA := Lib.hid hga
  have HGB := Lib.hid hgb
  clear hga hgb HA0
  by_cases n0 : a0 = 0
  · have f0 : (u a0 == 0) = true := by rw [n0]; rfl
    clear n0
    go_wp2_with fail
    go_ret
    exact ⟨rfl, HI.out.b⟩
  · by_cases n1 : b0 = 0
    · have f0 : (u a0 == 0) = false := beq_eq_false_iff_ne.2 (fun e => n0 (u_inj e))
      have N0 := Lib.hid n0
      clear n0
      have f1 : (u b0 == 0) = true := by rw [n1]; rfl
      clear n1
      go_wp2_with fail
      go_ret
      exact ⟨rfl, HI.out.b⟩
    · by_cases n2 : a0 = b0
      · have f0 : (u a0 == 0) = false := beq_eq_false_iff_ne.2 (fun e => n0 (u_inj e))
        have N0 := Lib.hid n0
        clear n0
        have f1 : (u b0 == 0) = false := beq_eq_false_iff_ne.2 (fun e => n1 (u_inj e))
        have N1 := Lib.hid n1
        clear n1
        have f2 : (u a0 == u b0) = true := by rw [n2]; simp
        clear n2
        go_wp2_with fail
        go_ret
        exact ⟨rfl, HI.out.b⟩
      · by_cases n3 : x = 0
        · have f0 : (u a0 == 0) = false := beq_eq_false_iff_ne.2 (fun e => n0 (u_inj e))
          have N0 := Lib.hid n0
          clear n0
          have f1 : (u b0 == 0) = false := beq_eq_false_iff_ne.2 (fun e => n1 (u_inj e))
          have N1 := Lib.hid n1
          clear n1
          have f2 : (u a0 == u b0) = false := beq_eq_false_iff_ne.2 (fun e => n2 (u_inj e))
          have N2 := Lib.hid n2
          clear n2
          have f3 : (u x == 0) = true := by rw [n3]; rfl
          clear n3
          go_wp2_with fail
          go_ret
          exact ⟨rfl, HI.out.b⟩
        · by_cases n4 : x = a0
          · have f0 : (u a0 == 0) = false := beq_eq_false_iff_ne.2 (fun e => n0 (u_inj e))
            have N0 := Lib.hid n0
            clear n0
            have f1 : (u b0 == 0) = false := beq_eq_false_iff_ne.2 (fun e => n1 (u_inj e))
            have N1 := Lib.hid n1
            clear n1
            have f2 : (u a0 == u b0) = false := beq_eq_false_iff_ne.2 (fun e => n2 (u_inj e))
            have N2 := Lib.hid n2
            clear n2
            have f3 : (u x == 0) = false := beq_eq_false_iff_ne.2 (fun e => n3 (u_inj e))
            have N3 := Lib.hid n3
            clear n3
            have f4 : (u x == u a0) = true := by rw [n4]; simp
            clear n4
            go_wp2_with fail
            go_ret
            exact ⟨rfl, HI.out.b⟩
          · by_cases n5 : x = b0
            · have f0 : (u a0 == 0) = false := beq_eq_false_iff_ne.2 (fun e => n0 (u_inj e))
              have N0 := Lib.hid n0
              clear n0
              have f1 : (u b0 == 0) = false := beq_eq_false_iff_ne.2 (fun e => n1 (u_inj e))
              have N1 := Lib.hid n1
              clear n1
              have f2 : (u a0 == u b0) = false := beq_eq_false_iff_ne.2 (fun e => n2 (u_inj e))
              have N2 := Lib.hid n2
              clear n2
              have f3 : (u x == 0) = false := beq_eq_false_iff_ne.2 (fun e => n3 (u_inj e))
              have N3 := Lib.hid n3
              clear n3
              have f4 : (u x == u a0) = false := beq_eq_false_iff_ne.2 (fun e => n4 (u_inj e))
              have N4 := Lib.hid n4
              clear n4
              have f5 : (u x == u b0) = true := by rw [n5]; simp
              clear n5
              go_wp2_with fail
              go_ret
              exact ⟨rfl, HI.out.b⟩
            · have f0 : (u a0 == 0) = false := beq_eq_false_iff_ne.2 (fun e => n0 (u_inj e))
              have N0 := Lib.hid n0
              clear n0
              have f1 : (u b0 == 0) = false := beq_eq_false_iff_ne.2 (fun e => n1 (u_inj e))
              have N1 := Lib.hid n1
              clear n1
              have f2 : (u a0 == u b0) = false := beq_eq_false_iff_ne.2 (fun e => n2 (u_inj e))
              have N2 := Lib.hid n2
              clear n2
              have f3 : (u x == 0) = false := beq_eq_false_iff_ne.2 (fun e => n3 (u_inj e))
              have N3 := Lib.hid n3
              clear n3
              have f4 : (u x == u a0) = false := beq_eq_false_iff_ne.2 (fun e => n4 (u_inj e))
              have N4 := Lib.hid n4
              clear n4
              have f5 : (u x == u b0) = false := beq_eq_false_iff_ne.2 (fun e => n5 (u_inj e))
              have N5 := Lib.hid n5
              clear n5
              go_wp2_with fail
              have hu := Try.underlying34
              have huk := Try.underlying23
              have hia : (Try.prog.info? 34).map (·.size) = some (vals a).length := by rw [vals_length, HA.out]; exact share_size
              have hib : (Try.prog.info? 34).map (·.size) = some (vals b).length := by rw [vals_length, HB.out]; exact share_size
              have his : (Try.prog.info? 23).map (·.size) = some (vals s).length := by rw [vals_length, HS.out]; exact key_size
              have hit : (Try.prog.info? 23).map (·.size) = some (vals t).length := by rw [vals_length, HT.out]; exact key_size
              have ra := range_of_block _ HI.out.ba
              have rb := range_of_block _ HI.out.bb
              have rs := range_of_block _ HI.out.bs
              have rt := range_of_block _ HI.out.bt
              obtain ⟨W0, hW0⟩ : ∃ W0, W0 = w1 := ⟨_, rfl⟩
              subst hW0
              obtain ⟨cs, hcs⟩ : ∃ cs, cs = third s a b x := ⟨_, rfl⟩
              obtain ⟨ct, hct⟩ : ∃ ct, ct = third t a b x := ⟨_, rfl⟩
              have HCS : Hid (cs.length = 33) := by rw [Hid, hcs]; exact third_length _ _ _ _
              have HCT : Hid (ct.length = 33) := by rw [Hid, hct]; exact third_length _ _ _ _
              have HC1 : Hid (∀ W : World, Calls Try.prog 15 #[.agg (vals s).toArray, .agg (vals a).toArray, .agg (vals b).toArray, .int .u8 (u x)] W fun e w' => e = .returned (.agg (vals cs).toArray) ∧ Below W.heap.size W w') := fun W => by rw [hcs]; exact Third_c s a b x W HS.out HA.out HB.out
              have HC2 : Hid (∀ W : World, Calls Try.prog 15 #[.agg (vals t).toArray, .agg (vals a).toArray, .agg (vals b).toArray, .int .u8 (u x)] W fun e w' => e = .returned (.agg (vals ct).toArray) ∧ Below W.heap.size W w') := fun W => by rw [hct]; exact Third_c t a b x W HT.out HA.out HB.out
              have ECS := Lib.hid hcs
              have ECT := Lib.hid hct
              clear hcs hct
              apply region_leaf (fun g1 g2 W' => Below W0.heap.size W0 W' ∧ W'.heap[g1]? = some (.cells (vals cs).toArray 34 (0, 0)) ∧ W'.heap[g2]? = some (.cells (vals ct).toArray 34 (0, 0)))
              · intro Q' KONT
                refine wp_region_held_drew (S := fun W => Below W0.heap.size W0 W) (by kernel_rfl) ((Below.refl _ _).drew) (fun hHeld => ?_)
                refine' wpAnyH_take (i := 0) (v := _) rfl (by kernel_rfl) (by kernel_rfl) (by kernel_rfl) (fun _ _ _ h => h) (yieldsIf_load_mid (by rfl) _ _ rfl _ _ rfl _ _ (fun W hW => range_below rs hW) huk (by rfl) his) (by assumption) ?_
                try simp only [List.getElem_toArray, List.getElem_cons_succ, List.getElem_cons_zero, Act.put, List.setIfInBounds_toArray, List.set_cons_zero, List.set_cons_succ]
                refine' wpAnyH_take (i := 1) (v := _) rfl (by kernel_rfl) (by kernel_rfl) (by kernel_rfl) (fun _ _ _ h => h) (yieldsIf_load_mid (by rfl) _ _ rfl _ _ rfl _ _ (fun W hW => range_below ra hW) hu (by rfl) hia) (by assumption) ?_
                try simp only [List.getElem_toArray, List.getElem_cons_succ, List.getElem_cons_zero, Act.put, List.setIfInBounds_toArray, List.set_cons_zero, List.set_cons_succ]
                refine' wpAnyH_take (i := 2) (v := _) rfl (by kernel_rfl) (by kernel_rfl) (by kernel_rfl) (fun _ _ _ h => h) (yieldsIf_load_mid (by rfl) _ _ rfl _ _ rfl _ _ (fun W hW => range_below rb hW) hu (by rfl) hib) (by assumption) ?_
                try simp only [List.getElem_toArray, List.getElem_cons_succ, List.getElem_cons_zero, Act.put, List.setIfInBounds_toArray, List.set_cons_zero, List.set_cons_succ]
                refine wpAnyH_take (i := 3) (v := ?_) rfl (by kernel_rfl) (by kernel_rfl) (by kernel_rfl) (fun _ _ _ h => h) (Or.inl ⟨by rfl, ?_⟩) (by assumption) ?_
                rotate_left
                · intro w hSw; go_simp; try (with_reducible rfl)
                try simp only [List.getElem_toArray, List.getElem_cons_succ, List.getElem_cons_zero, Act.put, List.setIfInBounds_toArray, List.set_cons_zero, List.set_cons_succ]
                refine' wpAnyH_take (i := 5) (v := _) rfl (by kernel_rfl) (by kernel_rfl) (by kernel_rfl) (fun _ _ _ h => h) (yieldsIf_load_mid (by rfl) _ _ rfl _ _ rfl _ _ (fun W hW => range_below rt hW) huk (by rfl) hit) (by assumption) ?_
                try simp only [List.getElem_toArray, List.getElem_cons_succ, List.getElem_cons_zero, Act.put, List.setIfInBounds_toArray, List.set_cons_zero, List.set_cons_succ]
                refine' wpAnyH_take (i := 6) (v := _) rfl (by kernel_rfl) (by kernel_rfl) (by kernel_rfl) (fun _ _ _ h => h) (yieldsIf_load_mid (by rfl) _ _ rfl _ _ rfl _ _ (fun W hW => range_below ra hW) hu (by rfl) hia) (by assumption) ?_
                try simp only [List.getElem_toArray, List.getElem_cons_succ, List.getElem_cons_zero, Act.put, List.setIfInBounds_toArray, List.set_cons_zero, List.set_cons_succ]
                refine' wpAnyH_take (i := 7) (v := _) rfl (by kernel_rfl) (by kernel_rfl) (by kernel_rfl) (fun _ _ _ h => h) (yieldsIf_load_mid (by rfl) _ _ rfl _ _ rfl _ _ (fun W hW => range_below rb hW) hu (by rfl) hib) (by assumption) ?_
                try simp only [List.getElem_toArray, List.getElem_cons_succ, List.getElem_cons_zero, Act.put, List.setIfInBounds_toArray, List.set_cons_zero, List.set_cons_succ]
                refine wpAnyH_take (i := 8) (v := ?_) rfl (by kernel_rfl) (by kernel_rfl) (by kernel_rfl) (fun _ _ _ h => h) (Or.inl ⟨by rfl, ?_⟩) (by assumption) ?_
                rotate_left
                · intro w hSw; go_simp; try (with_reducible rfl)
                try simp only [List.getElem_toArray, List.getElem_cons_succ, List.getElem_cons_zero, Act.put, List.setIfInBounds_toArray, List.set_cons_zero, List.set_cons_succ]
                refine held_gen (fun W' => Below W0.heap.size W0 W') hHeld (fun V0 hB => ?_)
                clear hHeld
                refine wpAnyH_ready (rs := [4, 10, 11]) (by kernel_rfl) (by simp) ?_
                refine AllReadyH.cons (o := _) rfl (fun K hK => ?_) ?_
                · simp only [List.getElem_toArray, List.getElem_cons_succ, List.getElem_cons_zero]
                  go_simp
                  go_at_call 15
                  refine Calls.mono (HC1.out _) ?_
                  rintro e w2 ⟨rfl, hb2⟩
                  refine hK.out _ _ ?_ (fun hHeld => ?_)
                  · exact hB.trans (hb2.mono hB.size)
                  clear hK K
                  try simp only [Act.put, List.setIfInBounds_toArray, List.set_cons_zero, List.set_cons_succ]
                  refine held_gen (fun W' => Below W0.heap.size W0 W') (hB.trans (hb2.mono hB.size)) (fun V1 hW => ?_)
                  clear hHeld hb2 hB
                  have hB := hW
                  clear hW
                  refine wpAnyH_ready (rs := [9, 10, 11]) (by kernel_rfl) (by simp) ?_
                  refine AllReadyH.cons (o := _) rfl (fun K hK => ?_) ?_
                  · simp only [List.getElem_toArray, List.getElem_cons_succ, List.getElem_cons_zero]
                    go_simp
                    go_at_call 15
                    refine Calls.mono (HC2.out _) ?_
                    rintro e w2 ⟨rfl, hb2⟩
                    refine hK.out _ _ ?_ (fun hHeld => ?_)
                    · exact hB.trans (hb2.mono hB.size)
                    clear hK K
                    try simp only [Act.put, List.setIfInBounds_toArray, List.set_cons_zero, List.set_cons_succ]
                    refine held_gen (fun W' => Below W0.heap.size W0 W') (hB.trans (hb2.mono hB.size)) (fun V2 hW => ?_)
                    clear hHeld hb2 hB
                    have hB := hW
                    clear hW
                    refine wpAnyH_ready (rs := [10, 11]) (by kernel_rfl) (by simp) ?_
                    refine AllReadyH.cons (o := _) rfl (fun K hK => ?_) ?_
                    · simp only [List.getElem_toArray, List.getElem_cons_succ, List.getElem_cons_zero]
                      rw [if_pos (by rfl)]
                      refine wp_share_alloc (by rfl) ?_
                      refine hK.out _ _ ?_ (fun hHeld => ?_)
                      · exact hB.alloc hB.size _
                      clear hK K
                      try simp only [Act.put, List.setIfInBounds_toArray, List.set_cons_zero, List.set_cons_succ]
                      refine held_gen (fun W' => Below W0.heap.size W0 W' ∧ W'.heap[V2.heap.size]? = some (.cells (vals (zs 33)).toArray 34 (0, 0))) ⟨hB.alloc hB.size _, heap_at _ _ _ rfl⟩ (fun V3 hW => ?_)
                      have hlt_g1 := hB.size
                      clear hHeld hB
                      obtain ⟨hB, f_g1⟩ := hW
                      generalize V2.heap.size = g1 at *
                      refine wpAnyH_ready (rs := [11]) (by kernel_rfl) (by simp) ?_
                      refine AllReadyH.cons (o := _) rfl (fun K hK => ?_) ?_
                      · simp only [List.getElem_toArray, List.getElem_cons_succ, List.getElem_cons_zero]
                        rw [if_pos (by rfl)]
                        refine wp_share_alloc (by rfl) ?_
                        refine hK.out _ _ ?_ (fun hHeld => ?_)
                        · exact hB.alloc hB.size _
                        clear hK K
                        try simp only [Act.put, List.setIfInBounds_toArray, List.set_cons_zero, List.set_cons_succ]
                        refine held_gen (fun W' => Below W0.heap.size W0 W' ∧ W'.heap[g1]? = some (.cells (vals (zs 33)).toArray 34 (0, 0)) ∧ W'.heap[V3.heap.size]? = some (.cells (vals (zs 33)).toArray 34 (0, 0))) ⟨hB.alloc hB.size _, (Below.heap_alloc _ _ _ (lt_of_block f_g1)).trans f_g1, heap_at _ _ _ rfl⟩ (fun V4 hW => ?_)
                        have hlt_g2 := hB.size
                        have hne : g1 ≠ V3.heap.size := Nat.ne_of_lt (lt_of_block f_g1)
                        clear hHeld hB f_g1
                        obtain ⟨hB, f_g1, f_g2⟩ := hW
                        generalize V3.heap.size = g2 at *
                        refine wpAnyH_ready (rs := [12]) (by kernel_rfl) (by simp) ?_
                        refine AllReadyH.cons (o := _) rfl (fun K hK => ?_) ?_
                        · simp only [List.getElem_toArray, List.getElem_cons_succ, List.getElem_cons_zero]
                          rw [if_pos (by rfl)]
                          refine wp_store_row 34 (.tmp 11) (.tmp 54) (by rfl) g1 (vals cs).toArray (by rfl) (by rfl) 34 (vals (zs 33)).toArray f_g1 (by rw [List.size_toArray, vals_length, HCS.out]; exact share_size) (by simp [vals_length, zs_length, HCS.out]) (u8_all _) ?_
                          refine hK.out _ _ ?_ (fun hHeld => ?_)
                          · exact below_setRow hB hlt_g1 _
                          clear hK K
                          try simp only [Act.put, List.setIfInBounds_toArray, List.set_cons_zero, List.set_cons_succ]
                          refine held_gen (fun W' => Below W0.heap.size W0 W' ∧ W'.heap[g2]? = some (.cells (vals (zs 33)).toArray 34 (0, 0)) ∧ W'.heap[g1]? = some (.cells (vals cs).toArray 34 (0, 0))) ⟨below_setRow hB hlt_g1 _, (setRow_other _ _ _ _ (Ne.symm hne)).trans f_g2, setRow_heap _ _ _ _ _ _ f_g1⟩ (fun U hW => ?_)
                          clear hHeld hB f_g1 f_g2
                          obtain ⟨hB, f_g2, f_g1⟩ := hW
                          refine wpAnyH_ready (rs := [13]) (by kernel_rfl) (by simp) ?_
                          refine AllReadyH.cons (o := _) rfl (fun K hK => ?_) ?_
                          · simp only [List.getElem_toArray, List.getElem_cons_succ, List.getElem_cons_zero]
                            rw [if_pos (by rfl)]
                            refine wp_store_row 34 (.tmp 12) (.tmp 59) (by rfl) g2 (vals ct).toArray (by rfl) (by rfl) 34 (vals (zs 33)).toArray f_g2 (by rw [List.size_toArray, vals_length, HCT.out]; exact share_size) (by simp [vals_length, zs_length, HCT.out]) (u8_all _) ?_
                            refine hK.out _ _ ?_ (fun hHeld => ?_)
                            · exact below_setRow hB hlt_g2 _
                            clear hK K
                            try simp only [Act.put, List.setIfInBounds_toArray, List.set_cons_zero, List.set_cons_succ]
                            refine wpAnyH_done (by kernel_rfl) ?_ _
                            exact NoPanic.normal (KONT g1 g2 _ ⟨below_setRow hB hlt_g2 _, (setRow_other _ _ _ _ hne).trans f_g1, setRow_heap _ _ _ _ _ _ f_g2⟩)
                          exact AllReadyH.nil
                        exact AllReadyH.nil
                      exact AllReadyH.nil
                    refine AllReadyH.cons (o := _) rfl (fun K hK => ?_) ?_
                    · simp only [List.getElem_toArray, List.getElem_cons_succ, List.getElem_cons_zero]
                      rw [if_pos (by rfl)]
                      refine wp_share_alloc (by rfl) ?_
                      refine hK.out _ _ ?_ (fun hHeld => ?_)
                      · exact hB.alloc hB.size _
                      clear hK K
                      try simp only [Act.put, List.setIfInBounds_toArray, List.set_cons_zero, List.set_cons_succ]
                      refine held_gen (fun W' => Below W0.heap.size W0 W' ∧ W'.heap[V2.heap.size]? = some (.cells (vals (zs 33)).toArray 34 (0, 0))) ⟨hB.alloc hB.size _, heap_at _ _ _ rfl⟩ (fun V3 hW => ?_)
                      have hlt_g2 := hB.size
                      clear hHeld hB
                      obtain ⟨hB, f_g2⟩ := hW
                      generalize V2.heap.size = g2 at *
                      refine wpAnyH_ready (rs := [10]) (by kernel_rfl) (by simp) ?_
                      refine AllReadyH.cons (o := _) rfl (fun K hK => ?_) ?_
                      · simp only [List.getElem_toArray, List.getElem_cons_succ, List.getElem_cons_zero]
                        rw [if_pos (by rfl)]
                        refine wp_share_alloc (by rfl) ?_
                        refine hK.out _ _ ?_ (fun hHeld => ?_)
                        · exact hB.alloc hB.size _
                        clear hK K
                        try simp only [Act.put, List.setIfInBounds_toArray, List.set_cons_zero, List.set_cons_succ]
                        refine held_gen (fun W' => Below W0.heap.size W0 W' ∧ W'.heap[g2]? = some (.cells (vals (zs 33)).toArray 34 (0, 0)) ∧ W'.heap[V3.heap.size]? = some (.cells (vals (zs 33)).toArray 34 (0, 0))) ⟨hB.alloc hB.size _, (Below.heap_alloc _ _ _ (lt_of_block f_g2)).trans f_g2, heap_at _ _ _ rfl⟩ (fun V4 hW => ?_)
                        have hlt_g1 := hB.size
                        have hne : g2 ≠ V3.heap.size := Nat.ne_of_lt (lt_of_block f_g2)
                        clear hHeld hB f_g2
                        obtain ⟨hB, f_g2, f_g1⟩ := hW
                        generalize V3.heap.size = g1 at *
                        refine wpAnyH_ready (rs := [12]) (by kernel_rfl) (by simp) ?_
                        refine AllReadyH.cons (o := _) rfl (fun K hK => ?_) ?_
                        · simp only [List.getElem_toArray, List.getElem_cons_succ, List.getElem_cons_zero]
                          rw [if_pos (by rfl)]
                          refine wp_store_row 34 (.tmp 11) (.tmp 54) (by rfl) g1 (vals cs).toArray (by rfl) (by rfl) 34 (vals (zs 33)).toArray f_g1 (by rw [List.size_toArray, vals_length, HCS.out]; exact share_size) (by simp [vals_length, zs_length, HCS.out]) (u8_all _) ?_
                          refine hK.out _ _ ?_ (fun hHeld => ?_)
                          · exact below_setRow hB hlt_g1 _
                          clear hK K
                          try simp only [Act.put, List.setIfInBounds_toArray, List.set_cons_zero, List.set_cons_succ]
                          refine held_gen (fun W' => Below W0.heap.size W0 W' ∧ W'.heap[g2]? = some (.cells (vals (zs 33)).toArray 34 (0, 0)) ∧ W'.heap[g1]? = some (.cells (vals cs).toArray 34 (0, 0))) ⟨below_setRow hB hlt_g1 _, (setRow_other _ _ _ _ hne).trans f_g2, setRow_heap _ _ _ _ _ _ f_g1⟩ (fun U hW => ?_)
                          clear hHeld hB f_g1 f_g2
                          obtain ⟨hB, f_g2, f_g1⟩ := hW
                          refine wpAnyH_ready (rs := [13]) (by kernel_rfl) (by simp) ?_
                          refine AllReadyH.cons (o := _) rfl (fun K hK => ?_) ?_
                          · simp only [List.getElem_toArray, List.getElem_cons_succ, List.getElem_cons_zero]
                            rw [if_pos (by rfl)]
                            refine wp_store_row 34 (.tmp 12) (.tmp 59) (by rfl) g2 (vals ct).toArray (by rfl) (by rfl) 34 (vals (zs 33)).toArray f_g2 (by rw [List.size_toArray, vals_length, HCT.out]; exact share_size) (by simp [vals_length, zs_length, HCT.out]) (u8_all _) ?_
                            refine hK.out _ _ ?_ (fun hHeld => ?_)
                            · exact below_setRow hB hlt_g2 _
                            clear hK K
                            try simp only [Act.put, List.setIfInBounds_toArray, List.set_cons_zero, List.set_cons_succ]
                            refine wpAnyH_done (by kernel_rfl) ?_ _
                            exact NoPanic.normal (KONT g1 g2 _ ⟨below_setRow hB hlt_g2 _, (setRow_other _ _ _ _ (Ne.symm hne)).trans f_g1, setRow_heap _ _ _ _ _ _ f_g2⟩)
                          exact AllReadyH.nil
                        exact AllReadyH.nil
                      exact AllReadyH.nil
                    exact AllReadyH.nil
                  refine AllReadyH.cons (o := _) rfl (fun K hK => ?_) ?_
                  · simp only [List.getElem_toArray, List.getElem_cons_succ, List.getElem_cons_zero]
                    rw [if_pos (by rfl)]
                    refine wp_share_alloc (by rfl) ?_
                    refine hK.out _ _ ?_ (fun hHeld => ?_)
                    · exact hB.alloc hB.size _
                    clear hK K
                    try simp only [Act.put, List.setIfInBounds_toArray, List.set_cons_zero, List.set_cons_succ]
                    refine held_gen (fun W' => Below W0.heap.size W0 W' ∧ W'.heap[V1.heap.size]? = some (.cells (vals (zs 33)).toArray 34 (0, 0))) ⟨hB.alloc hB.size _, heap_at _ _ _ rfl⟩ (fun V2 hW => ?_)
                    have hlt_g1 := hB.size
                    clear hHeld hB
                    obtain ⟨hB, f_g1⟩ := hW
                    generalize V1.heap.size = g1 at *
                    refine wpAnyH_ready (rs := [9, 11]) (by kernel_rfl) (by simp) ?_
                    refine AllReadyH.cons (o := _) rfl (fun K hK => ?_) ?_
                    · simp only [List.getElem_toArray, List.getElem_cons_succ, List.getElem_cons_zero]
                      go_simp
                      go_at_call 15
                      refine Calls.mono (HC2.out _) ?_
                      rintro e w2 ⟨rfl, hb2⟩
                      refine hK.out _ _ ?_ (fun hHeld => ?_)
                      · exact hB.trans (hb2.mono hB.size)
                      clear hK K
                      try simp only [Act.put, List.setIfInBounds_toArray, List.set_cons_zero, List.set_cons_succ]
                      refine held_gen (fun W' => Below W0.heap.size W0 W' ∧ W'.heap[g1]? = some (.cells (vals (zs 33)).toArray 34 (0, 0))) ⟨hB.trans (hb2.mono hB.size), (hb2.block _ (lt_of_block f_g1)).trans f_g1⟩ (fun V3 hW => ?_)
                      clear hHeld hb2 hB f_g1
                      obtain ⟨hB, f_g1⟩ := hW
                      refine wpAnyH_ready (rs := [11]) (by kernel_rfl) (by simp) ?_
                      refine AllReadyH.cons (o := _) rfl (fun K hK => ?_) ?_
                      · simp only [List.getElem_toArray, List.getElem_cons_succ, List.getElem_cons_zero]
                        rw [if_pos (by rfl)]
                        refine wp_share_alloc (by rfl) ?_
                        refine hK.out _ _ ?_ (fun hHeld => ?_)
                        · exact hB.alloc hB.size _
                        clear hK K
                        try simp only [Act.put, List.setIfInBounds_toArray, List.set_cons_zero, List.set_cons_succ]
                        refine held_gen (fun W' => Below W0.heap.size W0 W' ∧ W'.heap[g1]? = some (.cells (vals (zs 33)).toArray 34 (0, 0)) ∧ W'.heap[V3.heap.size]? = some (.cells (vals (zs 33)).toArray 34 (0, 0))) ⟨hB.alloc hB.size _, (Below.heap_alloc _ _ _ (lt_of_block f_g1)).trans f_g1, heap_at _ _ _ rfl⟩ (fun V4 hW => ?_)
                        have hlt_g2 := hB.size
                        have hne : g1 ≠ V3.heap.size := Nat.ne_of_lt (lt_of_block f_g1)
                        clear hHeld hB f_g1
                        obtain ⟨hB, f_g1, f_g2⟩ := hW
                        generalize V3.heap.size = g2 at *
                        refine wpAnyH_ready (rs := [12]) (by kernel_rfl) (by simp) ?_
                        refine AllReadyH.cons (o := _) rfl (fun K hK => ?_) ?_
                        · simp only [List.getElem_toArray, List.getElem_cons_succ, List.getElem_cons_zero]
                          rw [if_pos (by rfl)]
                          refine wp_store_row 34 (.tmp 11) (.tmp 54) (by rfl) g1 (vals cs).toArray (by rfl) (by rfl) 34 (vals (zs 33)).toArray f_g1 (by rw [List.size_toArray, vals_length, HCS.out]; exact share_size) (by simp [vals_length, zs_length, HCS.out]) (u8_all _) ?_
                          refine hK.out _ _ ?_ (fun hHeld => ?_)
                          · exact below_setRow hB hlt_g1 _
                          clear hK K
                          try simp only [Act.put, List.setIfInBounds_toArray, List.set_cons_zero, List.set_cons_succ]
                          refine held_gen (fun W' => Below W0.heap.size W0 W' ∧ W'.heap[g2]? = some (.cells (vals (zs 33)).toArray 34 (0, 0)) ∧ W'.heap[g1]? = some (.cells (vals cs).toArray 34 (0, 0))) ⟨below_setRow hB hlt_g1 _, (setRow_other _ _ _ _ (Ne.symm hne)).trans f_g2, setRow_heap _ _ _ _ _ _ f_g1⟩ (fun U hW => ?_)
                          clear hHeld hB f_g1 f_g2
                          obtain ⟨hB, f_g2, f_g1⟩ := hW
                          refine wpAnyH_ready (rs := [13]) (by kernel_rfl) (by simp) ?_
                          refine AllReadyH.cons (o := _) rfl (fun K hK => ?_) ?_
                          · simp only [List.getElem_toArray, List.getElem_cons_succ, List.getElem_cons_zero]
                            rw [if_pos (by rfl)]
                            refine wp_store_row 34 (.tmp 12) (.tmp 59) (by rfl) g2 (vals ct).toArray (by rfl) (by rfl) 34 (vals (zs 33)).toArray f_g2 (by rw [List.size_toArray, vals_length, HCT.out]; exact share_size) (by simp [vals_length, zs_length, HCT.out]) (u8_all _) ?_
                            refine hK.out _ _ ?_ (fun hHeld => ?_)
                            · exact below_setRow hB hlt_g2 _
                            clear hK K
                            try simp only [Act.put, List.setIfInBounds_toArray, List.set_cons_zero, List.set_cons_succ]
                            refine wpAnyH_done (by kernel_rfl) ?_ _
                            exact NoPanic.normal (KONT g1 g2 _ ⟨below_setRow hB hlt_g2 _, (setRow_other _ _ _ _ hne).trans f_g1, setRow_heap _ _ _ _ _ _ f_g2⟩)
                          exact AllReadyH.nil
                        exact AllReadyH.nil
                      exact AllReadyH.nil
                    refine AllReadyH.cons (o := _) rfl (fun K hK => ?_) ?_
                    · simp only [List.getElem_toArray, List.getElem_cons_succ, List.getElem_cons_zero]
                      rw [if_pos (by rfl)]
                      refine wp_share_alloc (by rfl) ?_
                      refine hK.out _ _ ?_ (fun hHeld => ?_)
                      · exact hB.alloc hB.size _
                      clear hK K
                      try simp only [Act.put, List.setIfInBounds_toArray, List.set_cons_zero, List.set_cons_succ]
                      refine held_gen (fun W' => Below W0.heap.size W0 W' ∧ W'.heap[g1]? = some (.cells (vals (zs 33)).toArray 34 (0, 0)) ∧ W'.heap[V2.heap.size]? = some (.cells (vals (zs 33)).toArray 34 (0, 0))) ⟨hB.alloc hB.size _, (Below.heap_alloc _ _ _ (lt_of_block f_g1)).trans f_g1, heap_at _ _ _ rfl⟩ (fun V3 hW => ?_)
                      have hlt_g2 := hB.size
                      have hne : g1 ≠ V2.heap.size := Nat.ne_of_lt (lt_of_block f_g1)
                      clear hHeld hB f_g1
                      obtain ⟨hB, f_g1, f_g2⟩ := hW
                      generalize V2.heap.size = g2 at *
                      refine wpAnyH_ready (rs := [9]) (by kernel_rfl) (by simp) ?_
                      refine AllReadyH.cons (o := _) rfl (fun K hK => ?_) ?_
                      · simp only [List.getElem_toArray, List.getElem_cons_succ, List.getElem_cons_zero]
                        go_simp
                        go_at_call 15
                        refine Calls.mono (HC2.out _) ?_
                        rintro e w2 ⟨rfl, hb2⟩
                        refine hK.out _ _ ?_ (fun hHeld => ?_)
                        · exact hB.trans (hb2.mono hB.size)
                        clear hK K
                        try simp only [Act.put, List.setIfInBounds_toArray, List.set_cons_zero, List.set_cons_succ]
                        refine held_gen (fun W' => Below W0.heap.size W0 W' ∧ W'.heap[g1]? = some (.cells (vals (zs 33)).toArray 34 (0, 0)) ∧ W'.heap[g2]? = some (.cells (vals (zs 33)).toArray 34 (0, 0))) ⟨hB.trans (hb2.mono hB.size), (hb2.block _ (lt_of_block f_g1)).trans f_g1, (hb2.block _ (lt_of_block f_g2)).trans f_g2⟩ (fun V4 hW => ?_)
                        clear hHeld hb2 hB f_g1 f_g2
                        obtain ⟨hB, f_g1, f_g2⟩ := hW
                        refine wpAnyH_ready (rs := [12]) (by kernel_rfl) (by simp) ?_
                        refine AllReadyH.cons (o := _) rfl (fun K hK => ?_) ?_
                        · simp only [List.getElem_toArray, List.getElem_cons_succ, List.getElem_cons_zero]
                          rw [if_pos (by rfl)]
                          refine wp_store_row 34 (.tmp 11) (.tmp 54) (by rfl) g1 (vals cs).toArray (by rfl) (by rfl) 34 (vals (zs 33)).toArray f_g1 (by rw [List.size_toArray, vals_length, HCS.out]; exact share_size) (by simp [vals_length, zs_length, HCS.out]) (u8_all _) ?_
                          refine hK.out _ _ ?_ (fun hHeld => ?_)
                          · exact below_setRow hB hlt_g1 _
                          clear hK K
                          try simp only [Act.put, List.setIfInBounds_toArray, List.set_cons_zero, List.set_cons_succ]
                          refine held_gen (fun W' => Below W0.heap.size W0 W' ∧ W'.heap[g2]? = some (.cells (vals (zs 33)).toArray 34 (0, 0)) ∧ W'.heap[g1]? = some (.cells (vals cs).toArray 34 (0, 0))) ⟨below_setRow hB hlt_g1 _, (setRow_other _ _ _ _ (Ne.symm hne)).trans f_g2, setRow_heap _ _ _ _ _ _ f_g1⟩ (fun U hW => ?_)
                          clear hHeld hB f_g1 f_g2
                          obtain ⟨hB, f_g2, f_g1⟩ := hW
                          refine wpAnyH_ready (rs := [13]) (by kernel_rfl) (by simp) ?_
                          refine AllReadyH.cons (o := _) rfl (fun K hK => ?_) ?_
                          · simp only [List.getElem_toArray, List.getElem_cons_succ, List.getElem_cons_zero]
                            rw [if_pos (by rfl)]
                            refine wp_store_row 34 (.tmp 12) (.tmp 59) (by rfl) g2 (vals ct).toArray (by rfl) (by rfl) 34 (vals (zs 33)).toArray f_g2 (by rw [List.size_toArray, vals_length, HCT.out]; exact share_size) (by simp [vals_length, zs_length, HCT.out]) (u8_all _) ?_
                            refine hK.out _ _ ?_ (fun hHeld => ?_)
                            · exact below_setRow hB hlt_g2 _
                            clear hK K
                            try simp only [Act.put, List.setIfInBounds_toArray, List.set_cons_zero, List.set_cons_succ]
                            refine wpAnyH_done (by kernel_rfl) ?_ _
                            exact NoPanic.normal (KONT g1 g2 _ ⟨below_setRow hB hlt_g2 _, (setRow_other _ _ _ _ hne).trans f_g1, setRow_heap _ _ _ _ _ _ f_g2⟩)
                          exact AllReadyH.nil
                        exact AllReadyH.nil
                      exact AllReadyH.nil
                    exact AllReadyH.nil
                  refine AllReadyH.cons (o := _) rfl (fun K hK => ?_) ?_
                  · simp only [List.getElem_toArray, List.getElem_cons_succ, List.getElem_cons_zero]
                    rw [if_pos (by rfl)]
                    refine wp_share_alloc (by rfl) ?_
                    refine hK.out _ _ ?_ (fun hHeld => ?_)
                    · exact hB.alloc hB.size _
                    clear hK K
                    try simp only [Act.put, List.setIfInBounds_toArray, List.set_cons_zero, List.set_cons_succ]
                    refine held_gen (fun W' => Below W0.heap.size W0 W' ∧ W'.heap[V1.heap.size]? = some (.cells (vals (zs 33)).toArray 34 (0, 0))) ⟨hB.alloc hB.size _, heap_at _ _ _ rfl⟩ (fun V2 hW => ?_)
                    have hlt_g2 := hB.size
                    clear hHeld hB
                    obtain ⟨hB, f_g2⟩ := hW
                    generalize V1.heap.size = g2 at *
                    refine wpAnyH_ready (rs := [9, 10]) (by kernel_rfl) (by simp) ?_
                    refine AllReadyH.cons (o := _) rfl (fun K hK => ?_) ?_
                    · simp only [List.getElem_toArray, List.getElem_cons_succ, List.getElem_cons_zero]
                      go_simp
                      go_at_call 15
                      refine Calls.mono (HC2.out _) ?_
                      rintro e w2 ⟨rfl, hb2⟩
                      refine hK.out _ _ ?_ (fun hHeld => ?_)
                      · exact hB.trans (hb2.mono hB.size)
                      clear hK K
                      try simp only [Act.put, List.setIfInBounds_toArray, List.set_cons_zero, List.set_cons_succ]
                      refine held_gen (fun W' => Below W0.heap.size W0 W' ∧ W'.heap[g2]? = some (.cells (vals (zs 33)).toArray 34 (0, 0))) ⟨hB.trans (hb2.mono hB.size), (hb2.block _ (lt_of_block f_g2)).trans f_g2⟩ (fun V3 hW => ?_)
                      clear hHeld hb2 hB f_g2
                      obtain ⟨hB, f_g2⟩ := hW
                      refine wpAnyH_ready (rs := [10]) (by kernel_rfl) (by simp) ?_
                      refine AllReadyH.cons (o := _) rfl (fun K hK => ?_) ?_
                      · simp only [List.getElem_toArray, List.getElem_cons_succ, List.getElem_cons_zero]
                        rw [if_pos (by rfl)]
                        refine wp_share_alloc (by rfl) ?_
                        refine hK.out _ _ ?_ (fun hHeld => ?_)
                        · exact hB.alloc hB.size _
                        clear hK K
                        try simp only [Act.put, List.setIfInBounds_toArray, List.set_cons_zero, List.set_cons_succ]
                        refine held_gen (fun W' => Below W0.heap.size W0 W' ∧ W'.heap[g2]? = some (.cells (vals (zs 33)).toArray 34 (0, 0)) ∧ W'.heap[V3.heap.size]? = some (.cells (vals (zs 33)).toArray 34 (0, 0))) ⟨hB.alloc hB.size _, (Below.heap_alloc _ _ _ (lt_of_block f_g2)).trans f_g2, heap_at _ _ _ rfl⟩ (fun V4 hW => ?_)
                        have hlt_g1 := hB.size
                        have hne : g2 ≠ V3.heap.size := Nat.ne_of_lt (lt_of_block f_g2)
                        clear hHeld hB f_g2
                        obtain ⟨hB, f_g2, f_g1⟩ := hW
                        generalize V3.heap.size = g1 at *
                        refine wpAnyH_ready (rs := [12]) (by kernel_rfl) (by simp) ?_
                        refine AllReadyH.cons (o := _) rfl (fun K hK => ?_) ?_
                        · simp only [List.getElem_toArray, List.getElem_cons_succ, List.getElem_cons_zero]
                          rw [if_pos (by rfl)]
                          refine wp_store_row 34 (.tmp 11) (.tmp 54) (by rfl) g1 (vals cs).toArray (by rfl) (by rfl) 34 (vals (zs 33)).toArray f_g1 (by rw [List.size_toArray, vals_length, HCS.out]; exact share_size) (by simp [vals_length, zs_length, HCS.out]) (u8_all _) ?_
                          refine hK.out _ _ ?_ (fun hHeld => ?_)
                          · exact below_setRow hB hlt_g1 _
                          clear hK K
                          try simp only [Act.put, List.setIfInBounds_toArray, List.set_cons_zero, List.set_cons_succ]
                          refine held_gen (fun W' => Below W0.heap.size W0 W' ∧ W'.heap[g2]? = some (.cells (vals (zs 33)).toArray 34 (0, 0)) ∧ W'.heap[g1]? = some (.cells (vals cs).toArray 34 (0, 0))) ⟨below_setRow hB hlt_g1 _, (setRow_other _ _ _ _ hne).trans f_g2, setRow_heap _ _ _ _ _ _ f_g1⟩ (fun U hW => ?_)
                          clear hHeld hB f_g1 f_g2
                          obtain ⟨hB, f_g2, f_g1⟩ := hW
                          refine wpAnyH_ready (rs := [13]) (by kernel_rfl) (by simp) ?_
                          refine AllReadyH.cons (o := _) rfl (fun K hK => ?_) ?_
                          · simp only [List.getElem_toArray, List.getElem_cons_succ, List.getElem_cons_zero]
                            rw [if_pos (by rfl)]
                            refine wp_store_row 34 (.tmp 12) (.tmp 59) (by rfl) g2 (vals ct).toArray (by rfl) (by rfl) 34 (vals (zs 33)).toArray f_g2 (by rw [List.size_toArray, vals_length, HCT.out]; exact share_size) (by simp [vals_length, zs_length, HCT.out]) (u8_all _) ?_
                            refine hK.out _ _ ?_ (fun hHeld => ?_)
                            · exact below_setRow hB hlt_g2 _
                            clear hK K
                            try simp only [Act.put, List.setIfInBounds_toArray, List.set_cons_zero, List.set_cons_succ]
                            refine wpAnyH_done (by kernel_rfl) ?_ _
                            exact NoPanic.normal (KONT g1 g2 _ ⟨below_setRow hB hlt_g2 _, (setRow_other _ _ _ _ (Ne.symm hne)).trans f_g1, setRow_heap _ _ _ _ _ _ f_g2⟩)
                          exact AllReadyH.nil
                        exact AllReadyH.nil
                      exact AllReadyH.nil
                    refine AllReadyH.cons (o := _) rfl (fun K hK => ?_) ?_
                    · simp only [List.getElem_toArray, List.getElem_cons_succ, List.getElem_cons_zero]
                      rw [if_pos (by rfl)]
                      refine wp_share_alloc (by rfl) ?_
                      refine hK.out _ _ ?_ (fun hHeld => ?_)
                      · exact hB.alloc hB.size _
                      clear hK K
                      try simp only [Act.put, List.setIfInBounds_toArray, List.set_cons_zero, List.set_cons_succ]
                      refine held_gen (fun W' => Below W0.heap.size W0 W' ∧ W'.heap[g2]? = some (.cells (vals (zs 33)).toArray 34 (0, 0)) ∧ W'.heap[V2.heap.size]? = some (.cells (vals (zs 33)).toArray 34 (0, 0))) ⟨hB.alloc hB.size _, (Below.heap_alloc _ _ _ (lt_of_block f_g2)).trans f_g2, heap_at _ _ _ rfl⟩ (fun V3 hW => ?_)
                      have hlt_g1 := hB.size
                      have hne : g2 ≠ V2.heap.size := Nat.ne_of_lt (lt_of_block f_g2)
                      clear hHeld hB f_g2
                      obtain ⟨hB, f_g2, f_g1⟩ := hW
                      generalize V2.heap.size = g1 at *
                      refine wpAnyH_ready (rs := [9]) (by kernel_rfl) (by simp) ?_
                      refine AllReadyH.cons (o := _) rfl (fun K hK => ?_) ?_
                      · simp only [List.getElem_toArray, List.getElem_cons_succ, List.getElem_cons_zero]
                        go_simp
                        go_at_call 15
                        refine Calls.mono (HC2.out _) ?_
                        rintro e w2 ⟨rfl, hb2⟩
                        refine hK.out _ _ ?_ (fun hHeld => ?_)
                        · exact hB.trans (hb2.mono hB.size)
                        clear hK K
                        try simp only [Act.put, List.setIfInBounds_toArray, List.set_cons_zero, List.set_cons_succ]
                        refine held_gen (fun W' => Below W0.heap.size W0 W' ∧ W'.heap[g2]? = some (.cells (vals (zs 33)).toArray 34 (0, 0)) ∧ W'.heap[g1]? = some (.cells (vals (zs 33)).toArray 34 (0, 0))) ⟨hB.trans (hb2.mono hB.size), (hb2.block _ (lt_of_block f_g2)).trans f_g2, (hb2.block _ (lt_of_block f_g1)).trans f_g1⟩ (fun V4 hW => ?_)
                        clear hHeld hb2 hB f_g2 f_g1
                        obtain ⟨hB, f_g2, f_g1⟩ := hW
                        refine wpAnyH_ready (rs := [12]) (by kernel_rfl) (by simp) ?_
                        refine AllReadyH.cons (o := _) rfl (fun K hK => ?_) ?_
                        · simp only [List.getElem_toArray, List.getElem_cons_succ, List.getElem_cons_zero]
                          rw [if_pos (by rfl)]
                          refine wp_store_row 34 (.tmp 11) (.tmp 54) (by rfl) g1 (vals cs).toArray (by rfl) (by rfl) 34 (vals (zs 33)).toArray f_g1 (by rw [List.size_toArray, vals_length, HCS.out]; exact share_size) (by simp [vals_length, zs_length, HCS.out]) (u8_all _) ?_
                          refine hK.out _ _ ?_ (fun hHeld => ?_)
                          · exact below_setRow hB hlt_g1 _
                          clear hK K
                          try simp only [Act.put, List.setIfInBounds_toArray, List.set_cons_zero, List.set_cons_succ]
                          refine held_gen (fun W' => Below W0.heap.size W0 W' ∧ W'.heap[g2]? = some (.cells (vals (zs 33)).toArray 34 (0, 0)) ∧ W'.heap[g1]? = some (.cells (vals cs).toArray 34 (0, 0))) ⟨below_setRow hB hlt_g1 _, (setRow_other _ _ _ _ hne).trans f_g2, setRow_heap _ _ _ _ _ _ f_g1⟩ (fun U hW => ?_)
                          clear hHeld hB f_g1 f_g2
                          obtain ⟨hB, f_g2, f_g1⟩ := hW
                          refine wpAnyH_ready (rs := [13]) (by kernel_rfl) (by simp) ?_
                          refine AllReadyH.cons (o := _) rfl (fun K hK => ?_) ?_
                          · simp only [List.getElem_toArray, List.getElem_cons_succ, List.getElem_cons_zero]
                            rw [if_pos (by rfl)]
                            refine wp_store_row 34 (.tmp 12) (.tmp 59) (by rfl) g2 (vals ct).toArray (by rfl) (by rfl) 34 (vals (zs 33)).toArray f_g2 (by rw [List.size_toArray, vals_length, HCT.out]; exact share_size) (by simp [vals_length, zs_length, HCT.out]) (u8_all _) ?_
                            refine hK.out _ _ ?_ (fun hHeld => ?_)
                            · exact below_setRow hB hlt_g2 _
                            clear hK K
                            try simp only [Act.put, List.setIfInBounds_toArray, List.set_cons_zero, List.set_cons_succ]
                            refine wpAnyH_done (by kernel_rfl) ?_ _
                            exact NoPanic.normal (KONT g1 g2 _ ⟨below_setRow hB hlt_g2 _, (setRow_other _ _ _ _ (Ne.symm hne)).trans f_g1, setRow_heap _ _ _ _ _ _ f_g2⟩)
                          exact AllReadyH.nil
                        exact AllReadyH.nil
                      exact AllReadyH.nil
                    exact AllReadyH.nil
                  exact AllReadyH.nil
                refine AllReadyH.cons (o := _) rfl (fun K hK => ?_) ?_
                · simp only [List.getElem_toArray, List.getElem_cons_succ, List.getElem_cons_zero]
                  rw [if_pos (by rfl)]
                  refine wp_share_alloc (by rfl) ?_
                  refine hK.out _ _ ?_ (fun hHeld => ?_)
                  · exact hB.alloc hB.size _
                  clear hK K
                  try simp only [Act.put, List.setIfInBounds_toArray, List.set_cons_zero, List.set_cons_succ]
                  refine held_gen (fun W' => Below W0.heap.size W0 W' ∧ W'.heap[V0.heap.size]? = some (.cells (vals (zs 33)).toArray 34 (0, 0))) ⟨hB.alloc hB.size _, heap_at _ _ _ rfl⟩ (fun V1 hW => ?_)
                  have hlt_g1 := hB.size
                  clear hHeld hB
                  obtain ⟨hB, f_g1⟩ := hW
                  generalize V0.heap.size = g1 at *
                  refine wpAnyH_ready (rs := [4, 11]) (by kernel_rfl) (by simp) ?_
                  refine AllReadyH.cons (o := _) rfl (fun K hK => ?_) ?_
                  · simp only [List.getElem_toArray, List.getElem_cons_succ, List.getElem_cons_zero]
                    go_simp
                    go_at_call 15
                    refine Calls.mono (HC1.out _) ?_
                    rintro e w2 ⟨rfl, hb2⟩
                    refine hK.out _ _ ?_ (fun hHeld => ?_)
                    · exact hB.trans (hb2.mono hB.size)
                    clear hK K
                    try simp only [Act.put, List.setIfInBounds_toArray, List.set_cons_zero, List.set_cons_succ]
                    refine held_gen (fun W' => Below W0.heap.size W0 W' ∧ W'.heap[g1]? = some (.cells (vals (zs 33)).toArray 34 (0, 0))) ⟨hB.trans (hb2.mono hB.size), (hb2.block _ (lt_of_block f_g1)).trans f_g1⟩ (fun V2 hW => ?_)
                    clear hHeld hb2 hB f_g1
                    obtain ⟨hB, f_g1⟩ := hW
                    refine wpAnyH_ready (rs := [9, 11]) (by kernel_rfl) (by simp) ?_
                    refine AllReadyH.cons (o := _) rfl (fun K hK => ?_) ?_
                    · simp only [List.getElem_toArray, List.getElem_cons_succ, List.getElem_cons_zero]
                      go_simp
                      go_at_call 15
                      refine Calls.mono (HC2.out _) ?_
                      rintro e w2 ⟨rfl, hb2⟩
                      refine hK.out _ _ ?_ (fun hHeld => ?_)
                      · exact hB.trans (hb2.mono hB.size)
                      clear hK K
                      try simp only [Act.put, List.setIfInBounds_toArray, List.set_cons_zero, List.set_cons_succ]
                      refine held_gen (fun W' => Below W0.heap.size W0 W' ∧ W'.heap[g1]? = some (.cells (vals (zs 33)).toArray 34 (0, 0))) ⟨hB.trans (hb2.mono hB.size), (hb2.block _ (lt_of_block f_g1)).trans f_g1⟩ (fun V3 hW => ?_)
                      clear hHeld hb2 hB f_g1
                      obtain ⟨hB, f_g1⟩ := hW
                      refine wpAnyH_ready (rs := [11]) (by kernel_rfl) (by simp) ?_
                      refine AllReadyH.cons (o := _) rfl (fun K hK => ?_) ?_
                      · simp only [List.getElem_toArray, List.getElem_cons_succ, List.getElem_cons_zero]
                        rw [if_pos (by rfl)]
                        refine wp_share_alloc (by rfl) ?_
                        refine hK.out _ _ ?_ (fun hHeld => ?_)
                        · exact hB.alloc hB.size _
                        clear hK K
                        try simp only [Act.put, List.setIfInBounds_toArray, List.set_cons_zero, List.set_cons_succ]
                        refine held_gen (fun W' => Below W0.heap.size W0 W' ∧ W'.heap[g1]? = some (.cells (vals (zs 33)).toArray 34 (0, 0)) ∧ W'.heap[V3.heap.size]? = some (.cells (vals (zs 33)).toArray 34 (0, 0))) ⟨hB.alloc hB.size _, (Below.heap_alloc _ _ _ (lt_of_block f_g1)).trans f_g1, heap_at _ _ _ rfl⟩ (fun V4 hW => ?_)
                        have hlt_g2 := hB.size
                        have hne : g1 ≠ V3.heap.size := Nat.ne_of_lt (lt_of_block f_g1)
                        clear hHeld hB f_g1
                        obtain ⟨hB, f_g1, f_g2⟩ := hW
                        generalize V3.heap.size = g2 at *
                        refine wpAnyH_ready (rs := [12]) (by kernel_rfl) (by simp) ?_
                        refine AllReadyH.cons (o := _) rfl (fun K hK => ?_) ?_
                        · simp only [List.getElem_toArray, List.getElem_cons_succ, List.getElem_cons_zero]
                          rw [if_pos (by rfl)]
                          refine wp_store_row 34 (.tmp 11) (.tmp 54) (by rfl) g1 (vals cs).toArray (by rfl) (by rfl) 34 (vals (zs 33)).toArray f_g1 (by rw [List.size_toArray, vals_length, HCS.out]; exact share_size) (by simp [vals_length, zs_length, HCS.out]) (u8_all _) ?_
                          refine hK.out _ _ ?_ (fun hHeld => ?_)
                          · exact below_setRow hB hlt_g1 _
                          clear hK K
                          try simp only [Act.put, List.setIfInBounds_toArray, List.set_cons_zero, List.set_cons_succ]
                          refine held_gen (fun W' => Below W0.heap.size W0 W' ∧ W'.heap[g2]? = some (.cells (vals (zs 33)).toArray 34 (0, 0)) ∧ W'.heap[g1]? = some (.cells (vals cs).toArray 34 (0, 0))) ⟨below_setRow hB hlt_g1 _, (setRow_other _ _ _ _ (Ne.symm hne)).trans f_g2, setRow_heap _ _ _ _ _ _ f_g1⟩ (fun U hW => ?_)
                          clear hHeld hB f_g1 f_g2
                          obtain ⟨hB, f_g2, f_g1⟩ := hW
                          refine wpAnyH_ready (rs := [13]) (by kernel_rfl) (by simp) ?_
                          refine AllReadyH.cons (o := _) rfl (fun K hK => ?_) ?_
                          · simp only [List.getElem_toArray, List.getElem_cons_succ, List.getElem_cons_zero]
                            rw [if_pos (by rfl)]
                            refine wp_store_row 34 (.tmp 12) (.tmp 59) (by rfl) g2 (vals ct).toArray (by rfl) (by rfl) 34 (vals (zs 33)).toArray f_g2 (by rw [List.size_toArray, vals_length, HCT.out]; exact share_size) (by simp [vals_length, zs_length, HCT.out]) (u8_all _) ?_
                            refine hK.out _ _ ?_ (fun hHeld => ?_)
                            · exact below_setRow hB hlt_g2 _
                            clear hK K
                            try simp only [Act.put, List.setIfInBounds_toArray, List.set_cons_zero, List.set_cons_succ]
                            refine wpAnyH_done (by kernel_rfl) ?_ _
                            exact NoPanic.normal (KONT g1 g2 _ ⟨below_setRow hB hlt_g2 _, (setRow_other _ _ _ _ hne).trans f_g1, setRow_heap _ _ _ _ _ _ f_g2⟩)
                          exact AllReadyH.nil
                        exact AllReadyH.nil
                      exact AllReadyH.nil
                    refine AllReadyH.cons (o := _) rfl (fun K hK => ?_) ?_
                    · simp only [List.getElem_toArray, List.getElem_cons_succ, List.getElem_cons_zero]
                      rw [if_pos (by rfl)]
                      refine wp_share_alloc (by rfl) ?_
                      refine hK.out _ _ ?_ (fun hHeld => ?_)
                      · exact hB.alloc hB.size _
                      clear hK K
                      try simp only [Act.put, List.setIfInBounds_toArray, List.set_cons_zero, List.set_cons_succ]
                      refine held_gen (fun W' => Below W0.heap.size W0 W' ∧ W'.heap[g1]? = some (.cells (vals (zs 33)).toArray 34 (0, 0)) ∧ W'.heap[V2.heap.size]? = some (.cells (vals (zs 33)).toArray 34 (0, 0))) ⟨hB.alloc hB.size _, (Below.heap_alloc _ _ _ (lt_of_block f_g1)).trans f_g1, heap_at _ _ _ rfl⟩ (fun V3 hW => ?_)
                      have hlt_g2 := hB.size
                      have hne : g1 ≠ V2.heap.size := Nat.ne_of_lt (lt_of_block f_g1)
                      clear hHeld hB f_g1
                      obtain ⟨hB, f_g1, f_g2⟩ := hW
                      generalize V2.heap.size = g2 at *
                      refine wpAnyH_ready (rs := [9]) (by kernel_rfl) (by simp) ?_
                      refine AllReadyH.cons (o := _) rfl (fun K hK => ?_) ?_
                      · simp only [List.getElem_toArray, List.getElem_cons_succ, List.getElem_cons_zero]
                        go_simp
                        go_at_call 15
                        refine Calls.mono (HC2.out _) ?_
                        rintro e w2 ⟨rfl, hb2⟩
                        refine hK.out _ _ ?_ (fun hHeld => ?_)
                        · exact hB.trans (hb2.mono hB.size)
                        clear hK K
                        try simp only [Act.put, List.setIfInBounds_toArray, List.set_cons_zero, List.set_cons_succ]
                        refine held_gen (fun W' => Below W0.heap.size W0 W' ∧ W'.heap[g1]? = some (.cells (vals (zs 33)).toArray 34 (0, 0)) ∧ W'.heap[g2]? = some (.cells (vals (zs 33)).toArray 34 (0, 0))) ⟨hB.trans (hb2.mono hB.size), (hb2.block _ (lt_of_block f_g1)).trans f_g1, (hb2.block _ (lt_of_block f_g2)).trans f_g2⟩ (fun V4 hW => ?_)
                        clear hHeld hb2 hB f_g1 f_g2
                        obtain ⟨hB, f_g1, f_g2⟩ := hW
                        refine wpAnyH_ready (rs := [12]) (by kernel_rfl) (by simp) ?_
                        refine AllReadyH.cons (o := _) rfl (fun K hK => ?_) ?_
                        · simp only [List.getElem_toArray, List.getElem_cons_succ, List.getElem_cons_zero]
                          rw [if_pos (by rfl)]
                          refine wp_store_row 34 (.tmp 11) (.tmp 54) (by rfl) g1 (vals cs).toArray (by rfl) (by rfl) 34 (vals (zs 33)).toArray f_g1 (by rw [List.size_toArray, vals_length, HCS.out]; exact share_size) (by simp [vals_length, zs_length, HCS.out]) (u8_all _) ?_
                          refine hK.out _ _ ?_ (fun hHeld => ?_)
                          · exact below_setRow hB hlt_g1 _
                          clear hK K
                          try simp only [Act.put, List.setIfInBounds_toArray, List.set_cons_zero, List.set_cons_succ]
                          refine held_gen (fun W' => Below W0.heap.size W0 W' ∧ W'.heap[g2]? = some (.cells (vals (zs 33)).toArray 34 (0, 0)) ∧ W'.heap[g1]? = some (.cells (vals cs).toArray 34 (0, 0))) ⟨below_setRow hB hlt_g1 _, (setRow_other _ _ _ _ (Ne.symm hne)).trans f_g2, setRow_heap _ _ _ _ _ _ f_g1⟩ (fun U hW => ?_)
                          clear hHeld hB f_g1 f_g2
                          obtain ⟨hB, f_g2, f_g1⟩ := hW
                          refine wpAnyH_ready (rs := [13]) (by kernel_rfl) (by simp) ?_
                          refine AllReadyH.cons (o := _) rfl (fun K hK => ?_) ?_
                          · simp only [List.getElem_toArray, List.getElem_cons_succ, List.getElem_cons_zero]
                            rw [if_pos (by rfl)]
                            refine wp_store_row 34 (.tmp 12) (.tmp 59) (by rfl) g2 (vals ct).toArray (by rfl) (by rfl) 34 (vals (zs 33)).toArray f_g2 (by rw [List.size_toArray, vals_length, HCT.out]; exact share_size) (by simp [vals_length, zs_length, HCT.out]) (u8_all _) ?_
                            refine hK.out _ _ ?_ (fun hHeld => ?_)
                            · exact below_setRow hB hlt_g2 _
                            clear hK K
                            try simp only [Act.put, List.setIfInBounds_toArray, List.set_cons_zero, List.set_cons_succ]
                            refine wpAnyH_done (by kernel_rfl) ?_ _
                            exact NoPanic.normal (KONT g1 g2 _ ⟨below_setRow hB hlt_g2 _, (setRow_other _ _ _ _ hne).trans f_g1, setRow_heap _ _ _ _ _ _ f_g2⟩)
                          exact AllReadyH.nil
                        exact AllReadyH.nil
                      exact AllReadyH.nil
                    exact AllReadyH.nil
                  refine AllReadyH.cons (o := _) rfl (fun K hK => ?_) ?_
                  · simp only [List.getElem_toArray, List.getElem_cons_succ, List.getElem_cons_zero]
                    rw [if_pos (by rfl)]
                    refine wp_share_alloc (by rfl) ?_
                    refine hK.out _ _ ?_ (fun hHeld => ?_)
                    · exact hB.alloc hB.size _
                    clear hK K
                    try simp only [Act.put, List.setIfInBounds_toArray, List.set_cons_zero, List.set_cons_succ]
                    refine held_gen (fun W' => Below W0.heap.size W0 W' ∧ W'.heap[g1]? = some (.cells (vals (zs 33)).toArray 34 (0, 0)) ∧ W'.heap[V1.heap.size]? = some (.cells (vals (zs 33)).toArray 34 (0, 0))) ⟨hB.alloc hB.size _, (Below.heap_alloc _ _ _ (lt_of_block f_g1)).trans f_g1, heap_at _ _ _ rfl⟩ (fun V2 hW => ?_)
                    have hlt_g2 := hB.size
                    have hne : g1 ≠ V1.heap.size := Nat.ne_of_lt (lt_of_block f_g1)
                    clear hHeld hB f_g1
                    obtain ⟨hB, f_g1, f_g2⟩ := hW
                    generalize V1.heap.size = g2 at *
                    refine wpAnyH_ready (rs := [4]) (by kernel_rfl) (by simp) ?_
                    refine AllReadyH.cons (o := _) rfl (fun K hK => ?_) ?_
                    · simp only [List.getElem_toArray, List.getElem_cons_succ, List.getElem_cons_zero]
                      go_simp
                      go_at_call 15
                      refine Calls.mono (HC1.out _) ?_
                      rintro e w2 ⟨rfl, hb2⟩
                      refine hK.out _ _ ?_ (fun hHeld => ?_)
                      · exact hB.trans (hb2.mono hB.size)
                      clear hK K
                      try simp only [Act.put, List.setIfInBounds_toArray, List.set_cons_zero, List.set_cons_succ]
                      refine held_gen (fun W' => Below W0.heap.size W0 W' ∧ W'.heap[g1]? = some (.cells (vals (zs 33)).toArray 34 (0, 0)) ∧ W'.heap[g2]? = some (.cells (vals (zs 33)).toArray 34 (0, 0))) ⟨hB.trans (hb2.mono hB.size), (hb2.block _ (lt_of_block f_g1)).trans f_g1, (hb2.block _ (lt_of_block f_g2)).trans f_g2⟩ (fun V3 hW => ?_)
                      clear hHeld hb2 hB f_g1 f_g2
                      obtain ⟨hB, f_g1, f_g2⟩ := hW
                      refine wpAnyH_ready (rs := [9]) (by kernel_rfl) (by simp) ?_
                      refine AllReadyH.cons (o := _) rfl (fun K hK => ?_) ?_
                      · simp only [List.getElem_toArray, List.getElem_cons_succ, List.getElem_cons_zero]
                        go_simp
                        go_at_call 15
                        refine Calls.mono (HC2.out _) ?_
                        rintro e w2 ⟨rfl, hb2⟩
                        refine hK.out _ _ ?_ (fun hHeld => ?_)
                        · exact hB.trans (hb2.mono hB.size)
                        clear hK K
                        try simp only [Act.put, List.setIfInBounds_toArray, List.set_cons_zero, List.set_cons_succ]
                        refine held_gen (fun W' => Below W0.heap.size W0 W' ∧ W'.heap[g1]? = some (.cells (vals (zs 33)).toArray 34 (0, 0)) ∧ W'.heap[g2]? = some (.cells (vals (zs 33)).toArray 34 (0, 0))) ⟨hB.trans (hb2.mono hB.size), (hb2.block _ (lt_of_block f_g1)).trans f_g1, (hb2.block _ (lt_of_block f_g2)).trans f_g2⟩ (fun V4 hW => ?_)
                        clear hHeld hb2 hB f_g1 f_g2
                        obtain ⟨hB, f_g1, f_g2⟩ := hW
                        refine wpAnyH_ready (rs := [12]) (by kernel_rfl) (by simp) ?_
                        refine AllReadyH.cons (o := _) rfl (fun K hK => ?_) ?_
                        · simp only [List.getElem_toArray, List.getElem_cons_succ, List.getElem_cons_zero]
                          rw [if_pos (by rfl)]
                          refine wp_store_row 34 (.tmp 11) (.tmp 54) (by rfl) g1 (vals cs).toArray (by rfl) (by rfl) 34 (vals (zs 33)).toArray f_g1 (by rw [List.size_toArray, vals_length, HCS.out]; exact share_size) (by simp [vals_length, zs_length, HCS.out]) (u8_all _) ?_
                          refine hK.out _ _ ?_ (fun hHeld => ?_)
                          · exact below_setRow hB hlt_g1 _
                          clear hK K
                          try simp only [Act.put, List.setIfInBounds_toArray, List.set_cons_zero, List.set_cons_succ]
                          refine held_gen (fun W' => Below W0.heap.size W0 W' ∧ W'.heap[g2]? = some (.cells (vals (zs 33)).toArray 34 (0, 0)) ∧ W'.heap[g1]? = some (.cells (vals cs).toArray 34 (0, 0))) ⟨below_setRow hB hlt_g1 _, (setRow_other _ _ _ _ (Ne.symm hne)).trans f_g2, setRow_heap _ _ _ _ _ _ f_g1⟩ (fun U hW => ?_)
                          clear hHeld hB f_g1 f_g2
                          obtain ⟨hB, f_g2, f_g1⟩ := hW
                          refine wpAnyH_ready (rs := [13]) (by kernel_rfl) (by simp) ?_
                          refine AllReadyH.cons (o := _) rfl (fun K hK => ?_) ?_
                          · simp only [List.getElem_toArray, List.getElem_cons_succ, List.getElem_cons_zero]
                            rw [if_pos (by rfl)]
                            refine wp_store_row 34 (.tmp 12) (.tmp 59) (by rfl) g2 (vals ct).toArray (by rfl) (by rfl) 34 (vals (zs 33)).toArray f_g2 (by rw [List.size_toArray, vals_length, HCT.out]; exact share_size) (by simp [vals_length, zs_length, HCT.out]) (u8_all _) ?_
                            refine hK.out _ _ ?_ (fun hHeld => ?_)
                            · exact below_setRow hB hlt_g2 _
                            clear hK K
                            try simp only [Act.put, List.setIfInBounds_toArray, List.set_cons_zero, List.set_cons_succ]
                            refine wpAnyH_done (by kernel_rfl) ?_ _
                            exact NoPanic.normal (KONT g1 g2 _ ⟨below_setRow hB hlt_g2 _, (setRow_other _ _ _ _ hne).trans f_g1, setRow_heap _ _ _ _ _ _ f_g2⟩)
                          exact AllReadyH.nil
                        exact AllReadyH.nil
                      exact AllReadyH.nil
                    exact AllReadyH.nil
                  exact AllReadyH.nil
                refine AllReadyH.cons (o := _) rfl (fun K hK => ?_) ?_
                · simp only [List.getElem_toArray, List.getElem_cons_succ, List.getElem_cons_zero]
                  rw [if_pos (by rfl)]
                  refine wp_share_alloc (by rfl) ?_
                  refine hK.out _ _ ?_ (fun hHeld => ?_)
                  · exact hB.alloc hB.size _
                  clear hK K
                  try simp only [Act.put, List.setIfInBounds_toArray, List.set_cons_zero, List.set_cons_succ]
                  refine held_gen (fun W' => Below W0.heap.size W0 W' ∧ W'.heap[V0.heap.size]? = some (.cells (vals (zs 33)).toArray 34 (0, 0))) ⟨hB.alloc hB.size _, heap_at _ _ _ rfl⟩ (fun V1 hW => ?_)
                  have hlt_g2 := hB.size
                  clear hHeld hB
                  obtain ⟨hB, f_g2⟩ := hW
                  generalize V0.heap.size = g2 at *
                  refine wpAnyH_ready (rs := [4, 10]) (by kernel_rfl) (by simp) ?_
                  refine AllReadyH.cons (o := _) rfl (fun K hK => ?_) ?_
                  · simp only [List.getElem_toArray, List.getElem_cons_succ, List.getElem_cons_zero]
                    go_simp
                    go_at_call 15
                    refine Calls.mono (HC1.out _) ?_
                    rintro e w2 ⟨rfl, hb2⟩
                    refine hK.out _ _ ?_ (fun hHeld => ?_)
                    · exact hB.trans (hb2.mono hB.size)
                    clear hK K
                    try simp only [Act.put, List.setIfInBounds_toArray, List.set_cons_zero, List.set_cons_succ]
                    refine held_gen (fun W' => Below W0.heap.size W0 W' ∧ W'.heap[g2]? = some (.cells (vals (zs 33)).toArray 34 (0, 0))) ⟨hB.trans (hb2.mono hB.size), (hb2.block _ (lt_of_block f_g2)).trans f_g2⟩ (fun V2 hW => ?_)
                    clear hHeld hb2 hB f_g2
                    obtain ⟨hB, f_g2⟩ := hW
                    refine wpAnyH_ready (rs := [9, 10]) (by kernel_rfl) (by simp) ?_
                    refine AllReadyH.cons (o := _) rfl (fun K hK => ?_) ?_
                    · simp only [List.getElem_toArray, List.getElem_cons_succ, List.getElem_cons_zero]
                      go_simp
                      go_at_call 15
                      refine Calls.mono (HC2.out _) ?_
                      rintro e w2 ⟨rfl, hb2⟩
                      refine hK.out _ _ ?_ (fun hHeld => ?_)
                      · exact hB.trans (hb2.mono hB.size)
                      clear hK K
                      try simp only [Act.put, List.setIfInBounds_toArray, List.set_cons_zero, List.set_cons_succ]
                      refine held_gen (fun W' => Below W0.heap.size W0 W' ∧ W'.heap[g2]? = some (.cells (vals (zs 33)).toArray 34 (0, 0))) ⟨hB.trans (hb2.mono hB.size), (hb2.block _ (lt_of_block f_g2)).trans f_g2⟩ (fun V3 hW => ?_)
                      clear hHeld hb2 hB f_g2
                      obtain ⟨hB, f_g2⟩ := hW
                      refine wpAnyH_ready (rs := [10]) (by kernel_rfl) (by simp) ?_
                      refine AllReadyH.cons (o := _) rfl (fun K hK => ?_) ?_
                      · simp only [List.getElem_toArray, List.getElem_cons_succ, List.getElem_cons_zero]
                        rw [if_pos (by rfl)]
                        refine wp_share_alloc (by rfl) ?_
                        refine hK.out _ _ ?_ (fun hHeld => ?_)
                        · exact hB.alloc hB.size _
                        clear hK K
                        try simp only [Act.put, List.setIfInBounds_toArray, List.set_cons_zero, List.set_cons_succ]
                        refine held_gen (fun W' => Below W0.heap.size W0 W' ∧ W'.heap[g2]? = some (.cells (vals (zs 33)).toArray 34 (0, 0)) ∧ W'.heap[V3.heap.size]? = some (.cells (vals (zs 33)).toArray 34 (0, 0))) ⟨hB.alloc hB.size _, (Below.heap_alloc _ _ _ (lt_of_block f_g2)).trans f_g2, heap_at _ _ _ rfl⟩ (fun V4 hW => ?_)
                        have hlt_g1 := hB.size
                        have hne : g2 ≠ V3.heap.size := Nat.ne_of_lt (lt_of_block f_g2)
                        clear hHeld hB f_g2
                        obtain ⟨hB, f_g2, f_g1⟩ := hW
                        generalize V3.heap.size = g1 at *
                        refine wpAnyH_ready (rs := [12]) (by kernel_rfl) (by simp) ?_
                        refine AllReadyH.cons (o := _) rfl (fun K hK => ?_) ?_
                        · simp only [List.getElem_toArray, List.getElem_cons_succ, List.getElem_cons_zero]
                          rw [if_pos (by rfl)]
                          refine wp_store_row 34 (.tmp 11) (.tmp 54) (by rfl) g1 (vals cs).toArray (by rfl) (by rfl) 34 (vals (zs 33)).toArray f_g1 (by rw [List.size_toArray, vals_length, HCS.out]; exact share_size) (by simp [vals_length, zs_length, HCS.out]) (u8_all _) ?_
                          refine hK.out _ _ ?_ (fun hHeld => ?_)
                          · exact below_setRow hB hlt_g1 _
                          clear hK K
                          try simp only [Act.put, List.setIfInBounds_toArray, List.set_cons_zero, List.set_cons_succ]
                          refine held_gen (fun W' => Below W0.heap.size W0 W' ∧ W'.heap[g2]? = some (.cells (vals (zs 33)).toArray 34 (0, 0)) ∧ W'.heap[g1]? = some (.cells (vals cs).toArray 34 (0, 0))) ⟨below_setRow hB hlt_g1 _, (setRow_other _ _ _ _ hne).trans f_g2, setRow_heap _ _ _ _ _ _ f_g1⟩ (fun U hW => ?_)
                          clear hHeld hB f_g1 f_g2
                          obtain ⟨hB, f_g2, f_g1⟩ := hW
                          refine wpAnyH_ready (rs := [13]) (by kernel_rfl) (by simp) ?_
                          refine AllReadyH.cons (o := _) rfl (fun K hK => ?_) ?_
                          · simp only [List.getElem_toArray, List.getElem_cons_succ, List.getElem_cons_zero]
                            rw [if_pos (by rfl)]
                            refine wp_store_row 34 (.tmp 12) (.tmp 59) (by rfl) g2 (vals ct).toArray (by rfl) (by rfl) 34 (vals (zs 33)).toArray f_g2 (by rw [List.size_toArray, vals_length, HCT.out]; exact share_size) (by simp [vals_length, zs_length, HCT.out]) (u8_all _) ?_
                            refine hK.out _ _ ?_ (fun hHeld => ?_)
                            · exact below_setRow hB hlt_g2 _
                            clear hK K
                            try simp only [Act.put, List.setIfInBounds_toArray, List.set_cons_zero, List.set_cons_succ]
                            refine wpAnyH_done (by kernel_rfl) ?_ _
                            exact NoPanic.normal (KONT g1 g2 _ ⟨below_setRow hB hlt_g2 _, (setRow_other _ _ _ _ (Ne.symm hne)).trans f_g1, setRow_heap _ _ _ _ _ _ f_g2⟩)
                          exact AllReadyH.nil
                        exact AllReadyH.nil
                      exact AllReadyH.nil
                    refine AllReadyH.cons (o := _) rfl (fun K hK => ?_) ?_
                    · simp only [List.getElem_toArray, List.getElem_cons_succ, List.getElem_cons_zero]
                      rw [if_pos (by rfl)]
                      refine wp_share_alloc (by rfl) ?_
                      refine hK.out _ _ ?_ (fun hHeld => ?_)
                      · exact hB.alloc hB.size _
                      clear hK K
                      try simp only [Act.put, List.setIfInBounds_toArray, List.set_cons_zero, List.set_cons_succ]
                      refine held_gen (fun W' => Below W0.heap.size W0 W' ∧ W'.heap[g2]? = some (.cells (vals (zs 33)).toArray 34 (0, 0)) ∧ W'.heap[V2.heap.size]? = some (.cells (vals (zs 33)).toArray 34 (0, 0))) ⟨hB.alloc hB.size _, (Below.heap_alloc _ _ _ (lt_of_block f_g2)).trans f_g2, heap_at _ _ _ rfl⟩ (fun V3 hW => ?_)
                      have hlt_g1 := hB.size
                      have hne : g2 ≠ V2.heap.size := Nat.ne_of_lt (lt_of_block f_g2)
                      clear hHeld hB f_g2
                      obtain ⟨hB, f_g2, f_g1⟩ := hW
                      generalize V2.heap.size = g1 at *
                      refine wpAnyH_ready (rs := [9]) (by kernel_rfl) (by simp) ?_
                      refine AllReadyH.cons (o := _) rfl (fun K hK => ?_) ?_
                      · simp only [List.getElem_toArray, List.getElem_cons_succ, List.getElem_cons_zero]
                        go_simp
                        go_at_call 15
                        refine Calls.mono (HC2.out _) ?_
                        rintro e w2 ⟨rfl, hb2⟩
                        refine hK.out _ _ ?_ (fun hHeld => ?_)
                        · exact hB.trans (hb2.mono hB.size)
                        clear hK K
                        try simp only [Act.put, List.setIfInBounds_toArray, List.set_cons_zero, List.set_cons_succ]
                        refine held_gen (fun W' => Below W0.heap.size W0 W' ∧ W'.heap[g2]? = some (.cells (vals (zs 33)).toArray 34 (0, 0)) ∧ W'.heap[g1]? = some (.cells (vals (zs 33)).toArray 34 (0, 0))) ⟨hB.trans (hb2.mono hB.size), (hb2.block _ (lt_of_block f_g2)).trans f_g2, (hb2.block _ (lt_of_block f_g1)).trans f_g1⟩ (fun V4 hW => ?_)
                        clear hHeld hb2 hB f_g2 f_g1
                        obtain ⟨hB, f_g2, f_g1⟩ := hW
                        refine wpAnyH_ready (rs := [12]) (by kernel_rfl) (by simp) ?_
                        refine AllReadyH.cons (o := _) rfl (fun K hK => ?_) ?_
                        · simp only [List.getElem_toArray, List.getElem_cons_succ, List.getElem_cons_zero]
                          rw [if_pos (by rfl)]
                          refine wp_store_row 34 (.tmp 11) (.tmp 54) (by rfl) g1 (vals cs).toArray (by rfl) (by rfl) 34 (vals (zs 33)).toArray f_g1 (by rw [List.size_toArray, vals_length, HCS.out]; exact share_size) (by simp [vals_length, zs_length, HCS.out]) (u8_all _) ?_
                          refine hK.out _ _ ?_ (fun hHeld => ?_)
                          · exact below_setRow hB hlt_g1 _
                          clear hK K
                          try simp only [Act.put, List.setIfInBounds_toArray, List.set_cons_zero, List.set_cons_succ]
                          refine held_gen (fun W' => Below W0.heap.size W0 W' ∧ W'.heap[g2]? = some (.cells (vals (zs 33)).toArray 34 (0, 0)) ∧ W'.heap[g1]? = some (.cells (vals cs).toArray 34 (0, 0))) ⟨below_setRow hB hlt_g1 _, (setRow_other _ _ _ _ hne).trans f_g2, setRow_heap _ _ _ _ _ _ f_g1⟩ (fun U hW => ?_)
                          clear hHeld hB f_g1 f_g2
                          obtain ⟨hB, f_g2, f_g1⟩ := hW
                          refine wpAnyH_ready (rs := [13]) (by kernel_rfl) (by simp) ?_
                          refine AllReadyH.cons (o := _) rfl (fun K hK => ?_) ?_
                          · simp only [List.getElem_toArray, List.getElem_cons_succ, List.getElem_cons_zero]
                            rw [if_pos (by rfl)]
                            refine wp_store_row 34 (.tmp 12) (.tmp 59) (by rfl) g2 (vals ct).toArray (by rfl) (by rfl) 34 (vals (zs 33)).toArray f_g2 (by rw [List.size_toArray, vals_length, HCT.out]; exact share_size) (by simp [vals_length, zs_length, HCT.out]) (u8_all _) ?_
                            refine hK.out _ _ ?_ (fun hHeld => ?_)
                            · exact below_setRow hB hlt_g2 _
                            clear hK K
                            try simp only [Act.put, List.setIfInBounds_toArray, List.set_cons_zero, List.set_cons_succ]
                            refine wpAnyH_done (by kernel_rfl) ?_ _
                            exact NoPanic.normal (KONT g1 g2 _ ⟨below_setRow hB hlt_g2 _, (setRow_other _ _ _ _ (Ne.symm hne)).trans f_g1, setRow_heap _ _ _ _ _ _ f_g2⟩)
                          exact AllReadyH.nil
                        exact AllReadyH.nil
                      exact AllReadyH.nil
                    exact AllReadyH.nil
                  refine AllReadyH.cons (o := _) rfl (fun K hK => ?_) ?_
                  · simp only [List.getElem_toArray, List.getElem_cons_succ, List.getElem_cons_zero]
                    rw [if_pos (by rfl)]
                    refine wp_share_alloc (by rfl) ?_
                    refine hK.out _ _ ?_ (fun hHeld => ?_)
                    · exact hB.alloc hB.size _
                    clear hK K
                    try simp only [Act.put, List.setIfInBounds_toArray, List.set_cons_zero, List.set_cons_succ]
                    refine held_gen (fun W' => Below W0.heap.size W0 W' ∧ W'.heap[g2]? = some (.cells (vals (zs 33)).toArray 34 (0, 0)) ∧ W'.heap[V1.heap.size]? = some (.cells (vals (zs 33)).toArray 34 (0, 0))) ⟨hB.alloc hB.size _, (Below.heap_alloc _ _ _ (lt_of_block f_g2)).trans f_g2, heap_at _ _ _ rfl⟩ (fun V2 hW => ?_)
                    have hlt_g1 := hB.size
                    have hne : g2 ≠ V1.heap.size := Nat.ne_of_lt (lt_of_block f_g2)
                    clear hHeld hB f_g2
                    obtain ⟨hB, f_g2, f_g1⟩ := hW
                    generalize V1.heap.size = g1 at *
                    refine wpAnyH_ready (rs := [4]) (by kernel_rfl) (by simp) ?_
                    refine AllReadyH.cons (o := _) rfl (fun K hK => ?_) ?_
                    · simp only [List.getElem_toArray, List.getElem_cons_succ, List.getElem_cons_zero]
                      go_simp
                      go_at_call 15
                      refine Calls.mono (HC1.out _) ?_
                      rintro e w2 ⟨rfl, hb2⟩
                      refine hK.out _ _ ?_ (fun hHeld => ?_)
                      · exact hB.trans (hb2.mono hB.size)
                      clear hK K
                      try simp only [Act.put, List.setIfInBounds_toArray, List.set_cons_zero, List.set_cons_succ]
                      refine held_gen (fun W' => Below W0.heap.size W0 W' ∧ W'.heap[g2]? = some (.cells (vals (zs 33)).toArray 34 (0, 0)) ∧ W'.heap[g1]? = some (.cells (vals (zs 33)).toArray 34 (0, 0))) ⟨hB.trans (hb2.mono hB.size), (hb2.block _ (lt_of_block f_g2)).trans f_g2, (hb2.block _ (lt_of_block f_g1)).trans f_g1⟩ (fun V3 hW => ?_)
                      clear hHeld hb2 hB f_g2 f_g1
                      obtain ⟨hB, f_g2, f_g1⟩ := hW
                      refine wpAnyH_ready (rs := [9]) (by kernel_rfl) (by simp) ?_
                      refine AllReadyH.cons (o := _) rfl (fun K hK => ?_) ?_
                      · simp only [List.getElem_toArray, List.getElem_cons_succ, List.getElem_cons_zero]
                        go_simp
                        go_at_call 15
                        refine Calls.mono (HC2.out _) ?_
                        rintro e w2 ⟨rfl, hb2⟩
                        refine hK.out _ _ ?_ (fun hHeld => ?_)
                        · exact hB.trans (hb2.mono hB.size)
                        clear hK K
                        try simp only [Act.put, List.setIfInBounds_toArray, List.set_cons_zero, List.set_cons_succ]
                        refine held_gen (fun W' => Below W0.heap.size W0 W' ∧ W'.heap[g2]? = some (.cells (vals (zs 33)).toArray 34 (0, 0)) ∧ W'.heap[g1]? = some (.cells (vals (zs 33)).toArray 34 (0, 0))) ⟨hB.trans (hb2.mono hB.size), (hb2.block _ (lt_of_block f_g2)).trans f_g2, (hb2.block _ (lt_of_block f_g1)).trans f_g1⟩ (fun V4 hW => ?_)
                        clear hHeld hb2 hB f_g2 f_g1
                        obtain ⟨hB, f_g2, f_g1⟩ := hW
                        refine wpAnyH_ready (rs := [12]) (by kernel_rfl) (by simp) ?_
                        refine AllReadyH.cons (o := _) rfl (fun K hK => ?_) ?_
                        · simp only [List.getElem_toArray, List.getElem_cons_succ, List.getElem_cons_zero]
                          rw [if_pos (by rfl)]
                          refine wp_store_row 34 (.tmp 11) (.tmp 54) (by rfl) g1 (vals cs).toArray (by rfl) (by rfl) 34 (vals (zs 33)).toArray f_g1 (by rw [List.size_toArray, vals_length, HCS.out]; exact share_size) (by simp [vals_length, zs_length, HCS.out]) (u8_all _) ?_
                          refine hK.out _ _ ?_ (fun hHeld => ?_)
                          · exact below_setRow hB hlt_g1 _
                          clear hK K
                          try simp only [Act.put, List.setIfInBounds_toArray, List.set_cons_zero, List.set_cons_succ]
                          refine held_gen (fun W' => Below W0.heap.size W0 W' ∧ W'.heap[g2]? = some (.cells (vals (zs 33)).toArray 34 (0, 0)) ∧ W'.heap[g1]? = some (.cells (vals cs).toArray 34 (0, 0))) ⟨below_setRow hB hlt_g1 _, (setRow_other _ _ _ _ hne).trans f_g2, setRow_heap _ _ _ _ _ _ f_g1⟩ (fun U hW => ?_)
                          clear hHeld hB f_g1 f_g2
                          obtain ⟨hB, f_g2, f_g1⟩ := hW
                          refine wpAnyH_ready (rs := [13]) (by kernel_rfl) (by simp) ?_
                          refine AllReadyH.cons (o := _) rfl (fun K hK => ?_) ?_
                          · simp only [List.getElem_toArray, List.getElem_cons_succ, List.getElem_cons_zero]
                            rw [if_pos (by rfl)]
                            refine wp_store_row 34 (.tmp 12) (.tmp 59) (by rfl) g2 (vals ct).toArray (by rfl) (by rfl) 34 (vals (zs 33)).toArray f_g2 (by rw [List.size_toArray, vals_length, HCT.out]; exact share_size) (by simp [vals_length, zs_length, HCT.out]) (u8_all _) ?_
                            refine hK.out _ _ ?_ (fun hHeld => ?_)
                            · exact below_setRow hB hlt_g2 _
                            clear hK K
                            try simp only [Act.put, List.setIfInBounds_toArray, List.set_cons_zero, List.set_cons_succ]
                            refine wpAnyH_done (by kernel_rfl) ?_ _
                            exact NoPanic.normal (KONT g1 g2 _ ⟨below_setRow hB hlt_g2 _, (setRow_other _ _ _ _ (Ne.symm hne)).trans f_g1, setRow_heap _ _ _ _ _ _ f_g2⟩)
                          exact AllReadyH.nil
                        exact AllReadyH.nil
                      exact AllReadyH.nil
                    exact AllReadyH.nil
                  exact AllReadyH.nil
                exact AllReadyH.nil
              · intro g1 g2 Z hZ
                have HIZ : Hid (BI w Z a b s t) := HI.out.below hZ.1
                have HG1 := Lib.hid hZ.2.1
                have HG2 := Lib.hid hZ.2.2
                clear hZ HI HC1 HC2 ra rb rs rt
                have HJ1 : Hid (∀ (g : Nat) (W : World), W.heap[g]? = some (.cells (vals (a ++ (b ++ cs))).toArray 34 (0, 0)) → Calls Try.prog 20 #[.slice (some ⟨g, 0, none⟩) 3 3] W fun e w' => e = .returned (.tuple #[.agg (vals s).toArray, .int .i64 0]) ∧ Below W.heap.size W w') := fun g W h => by
                  have h2 : Shs W (some ⟨g, 0, none⟩) [a, b, cs] := shs_of_block _ (by simp [HA.out, HB.out, HCS.out]) (by simpa using h)
                  have h3 := Join_c (some ⟨g, 0, none⟩) 3 3 [a, b, cs] W rfl h2
                  have h4 : joinS [a, b, cs] = (s, 0) := by rw [ECS.out]; exact third_join s a b x HS.out (by rw [HGA.out]; exact N0.out) (by rw [HGB.out]; exact N1.out) (by rw [HGA.out, HGB.out]; exact N2.out) N3.out (by rw [HGA.out]; exact N4.out) (by rw [HGB.out]; exact N5.out)
                  rw [h4] at h3
                  exact h3
                have HJ2 : Hid (∀ (g : Nat) (W : World), W.heap[g]? = some (.cells (vals (a ++ (b ++ ct))).toArray 34 (0, 0)) → Calls Try.prog 20 #[.slice (some ⟨g, 0, none⟩) 3 3] W fun e w' => e = .returned (.tuple #[.agg (vals t).toArray, .int .i64 0]) ∧ Below W.heap.size W w') := fun g W h => by
                  have h2 : Shs W (some ⟨g, 0, none⟩) [a, b, ct] := shs_of_block _ (by simp [HA.out, HB.out, HCT.out]) (by simpa using h)
                  have h3 := Join_c (some ⟨g, 0, none⟩) 3 3 [a, b, ct] W rfl h2
                  have h4 : joinS [a, b, ct] = (t, 0) := by rw [ECT.out]; exact third_join t a b x HT.out (by rw [HGA.out]; exact N0.out) (by rw [HGB.out]; exact N1.out) (by rw [HGA.out, HGB.out]; exact N2.out) N3.out (by rw [HGA.out]; exact N4.out) (by rw [HGB.out]; exact N5.out)
                  rw [h4] at h3
                  exact h3
                have HIF : Hid (cs = ct ↔ s = t) := by
                  rw [Hid, ECS.out, ECT.out]
                  exact third_inj s t a b x HS.out HT.out (by rw [HGA.out]; exact N0.out) (by rw [HGB.out]; exact N1.out) (by rw [HGA.out, HGB.out]; exact N2.out) N3.out (by rw [HGA.out]; exact N4.out) (by rw [HGB.out]; exact N5.out)
                clear N0 N1 N2 N3 N4 N5 HGA HGB ECS ECT f0 f1 f2 f3 f4 f5 c0 c1
                generalize hd0 : decide (s = t) = d0
                have hd1 : decide (cs = ct) = d0 := by rw [← hd0]; exact decide_eq_decide.2 HIF.out
                have HD0 := Lib.hid hd0
                have HD1 := Lib.hid hd1
                clear hd0 hd1 HIF
                go_wp2_with (first
                  | refine wpList_load_row (by rfl) 34 (.tmp 5) (by rfl) w.heap.size (by rfl) 34 (vals a).toArray (0, 0) _ HIZ.out.ba Try.underlying34 (by rfl) (by rw [List.size_toArray, vals_length, HA.out]; exact share_size) ?_
                  | refine wpList_load_row (by rfl) 34 (.tmp 6) (by rfl) (w.heap.size + 1) (by rfl) 34 (vals b).toArray (0, 0) _ HIZ.out.bb Try.underlying34 (by rfl) (by rw [List.size_toArray, vals_length, HB.out]; exact share_size) ?_
                  | refine wpList_load_row (by rfl) 34 (.tmp 11) (by rfl) g1 (by rfl) 34 (vals cs).toArray (0, 0) _ HG1.out Try.underlying34 (by rfl) (by rw [List.size_toArray, vals_length, HCS.out]; exact share_size) ?_
                  | refine wpList_shares3 (by rfl) (.tmp 61) (.tmp 62) (.tmp 63) (by rfl) a b cs (by rfl) (by rfl) (by rfl) HA.out HB.out HCS.out ?_)
                refine (HJ1.out _ _ (heap_at _ _ _ rfl)).mono ?_
                rintro e w2 ⟨rfl, hb2⟩
                have hZ2 : Below Z.heap.size Z w2 := ((Below.refl _ Z).alloc (Nat.le_refl _) _).trans (hb2.mono (by simp))
                have HI2 : Hid (BI w w2 a b s t) := HIZ.out.below hZ2
                have HG12 : Hid (w2.heap[g1]? = some (.cells (vals cs).toArray 34 (0, 0))) := (hZ2.block _ (lt_of_block HG1.out)).trans HG1.out
                have HG22 : Hid (w2.heap[g2]? = some (.cells (vals ct).toArray 34 (0, 0))) := (hZ2.block _ (lt_of_block HG2.out)).trans HG2.out
                clear hZ2 hb2 HIZ HG1 HG2 HJ1
                go_wp2_with (first
                  | refine wpList_alloc_run (by rfl) 23 (by rfl) _ (key_alloc _) ?_
                  | (refine wpList_store_row (by rfl) 23 (.tmp 13) (.tmp 66) (by rfl) w2.heap.size (vals s).toArray (by rfl) (by rfl) 23 (vals (zs 32)).toArray (heap_at _ _ _ rfl) (by rw [List.size_toArray, vals_length, HS.out]; exact key_size) (by simp [vals_length, zs_length, HS.out]) (u8_all s) ?_
                     refine wpList_gen (fun W' => Below w2.heap.size w2 W' ∧ W'.heap[w2.heap.size]? = some (.cells (vals s).toArray 23 (0, 0))) ⟨below_setRow ((Below.refl _ _).alloc (Nat.le_refl _) _) (Nat.le_refl _) _, setRow_heap _ _ _ _ _ _ (heap_at _ _ _ rfl)⟩ (fun W3 hW3 => ?_)
                     obtain ⟨hb3, hk3⟩ := hW3
                     have HI3 : Hid (BI w W3 a b s t) := HI2.out.below hb3
                     have HG13 : Hid (W3.heap[g1]? = some (.cells (vals cs).toArray 34 (0, 0))) := (hb3.block _ (lt_of_block HG12.out)).trans HG12.out
                     have HG23 : Hid (W3.heap[g2]? = some (.cells (vals ct).toArray 34 (0, 0))) := (hb3.block _ (lt_of_block HG22.out)).trans HG22.out
                     have HK3 := Lib.hid hk3
                     clear hb3 hk3 HG12 HG22 HI2
                     generalize w2.heap.size = g3 at *)
                  | refine wpList_load_row (by rfl) 34 (.tmp 5) (by rfl) w.heap.size (by rfl) 34 (vals a).toArray (0, 0) _ HI3.out.ba Try.underlying34 (by rfl) (by rw [List.size_toArray, vals_length, HA.out]; exact share_size) ?_
                  | refine wpList_load_row (by rfl) 34 (.tmp 6) (by rfl) (w.heap.size + 1) (by rfl) 34 (vals b).toArray (0, 0) _ HI3.out.bb Try.underlying34 (by rfl) (by rw [List.size_toArray, vals_length, HB.out]; exact share_size) ?_
                  | refine wpList_load_row (by rfl) 34 (.tmp 12) (by rfl) g2 (by rfl) 34 (vals ct).toArray (0, 0) _ HG23.out Try.underlying34 (by rfl) (by rw [List.size_toArray, vals_length, HCT.out]; exact share_size) ?_
                  | refine wpList_shares3 (by rfl) (.tmp 69) (.tmp 70) (.tmp 71) (by rfl) a b ct (by rfl) (by rfl) (by rfl) HA.out HB.out HCT.out ?_)
                refine (HJ2.out _ _ (heap_at _ _ _ rfl)).mono ?_
                rintro e w4 ⟨rfl, hb4⟩
                have hZ4 : Below W3.heap.size W3 w4 := ((Below.refl _ W3).alloc (Nat.le_refl _) _).trans (hb4.mono (by simp))
                have HI4 : Hid (BI w w4 a b s t) := HI3.out.below hZ4
                have HG14 : Hid (w4.heap[g1]? = some (.cells (vals cs).toArray 34 (0, 0))) := (hZ4.block _ (lt_of_block HG13.out)).trans HG13.out
                have HG24 : Hid (w4.heap[g2]? = some (.cells (vals ct).toArray 34 (0, 0))) := (hZ4.block _ (lt_of_block HG23.out)).trans HG23.out
                have HK4 : Hid (w4.heap[g3]? = some (.cells (vals s).toArray 23 (0, 0))) := (hZ4.block _ (lt_of_block HK3.out)).trans HK3.out
                clear hZ4 hb4 HI3 HG13 HG23 HK3 HJ2
                have q1 := fun W : World => key_eql s s HS.out HS.out W
                have q2 := fun W : World => key_eql t t HT.out HT.out W
                have q3 := fun W : World => key_eql s t HS.out HT.out W
                have q4 := fun W : World => share_eql cs ct HCS.out HCT.out W
                rw [show decide (s = s) = true from by simp] at q1
                rw [show decide (t = t) = true from by simp] at q2
                rw [HD0.out] at q3
                rw [HD1.out] at q4
                clear HD0 HD1 hu huk hia hib his hit
                go_wp2_with (first
                  | refine wpList_alloc_run (by rfl) 23 (by rfl) _ (key_alloc _) ?_
                  | (refine wpList_store_row (by rfl) 23 (.tmp 15) (.tmp 74) (by rfl) w4.heap.size (vals t).toArray (by rfl) (by rfl) 23 (vals (zs 32)).toArray (heap_at _ _ _ rfl) (by rw [List.size_toArray, vals_length, HT.out]; exact key_size) (by simp [vals_length, zs_length, HT.out]) (u8_all t) ?_
                     refine wpList_gen (fun W' => Below w4.heap.size w4 W' ∧ W'.heap[w4.heap.size]? = some (.cells (vals t).toArray 23 (0, 0))) ⟨below_setRow ((Below.refl _ _).alloc (Nat.le_refl _) _) (Nat.le_refl _) _, setRow_heap _ _ _ _ _ _ (heap_at _ _ _ rfl)⟩ (fun W5 hW5 => ?_)
                     obtain ⟨hb5, hk5⟩ := hW5
                     have HI5 : Hid (BI w W5 a b s t) := HI4.out.below hb5
                     have e1 := fun n : Nat => keyLoad_at (W := W5.drewN n) hk5 HT.out
                     have e2 := fun n : Nat => keyLoad_at (W := W5.drewN n) ((hb5.block _ (lt_of_block HK4.out)).trans HK4.out) HS.out
                     have e3 := fun n : Nat => keyLoad_at (W := W5.drewN n) HI5.out.bs HS.out
                     have e4 := fun n : Nat => keyLoad_at (W := W5.drewN n) HI5.out.bt HT.out
                     have e5 := fun n : Nat => shareLoad_at (W := W5.drewN n) ((hb5.block _ (lt_of_block HG14.out)).trans HG14.out) HCS.out
                     have e6 := fun n : Nat => shareLoad_at (W := W5.drewN n) ((hb5.block _ (lt_of_block HG24.out)).trans HG24.out) HCT.out
                     clear hb5 hk5 HI4 HG14 HG24 HK4
                     cases d0))
                all_goals (go_quiet (fail); go_wp2; go_ret; exact ⟨ret_bool (by simp), below_drewN HI5.out.b _⟩)

theorem ShareBlind_any (v : Value) (h : IsArr 33 v) (v' : Value) (h' : IsArr 33 v') (y : Value) (hy : IsArr 32 y) (z : Value) (hz : IsArr 32 z) (n : Int) (hn : (Lit.int .u8 n).wf = true) (w : World) :
    Calls Try.prog 10 #[v, v', y, z, .int .u8 n] w fun e w' => e = .returned (.bool true) ∧ Below w.heap.size w w' := by
  obtain ⟨a, ha, rfl⟩ := h
  obtain ⟨b, hb, rfl⟩ := h'
  obtain ⟨s, hs, rfl⟩ := hy
  obtain ⟨t, ht, rfl⟩ := hz
  obtain ⟨x, rfl⟩ := u_wf hn
  exact ShareBlind_w a b s t x w ha hb hs ht

end Go.Proofs.Ytffmnldhklejcaa
