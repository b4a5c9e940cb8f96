/- The walk of share.Join. -/
import Derived.Test.YtffmnldhklejcaaShRAt
namespace Go.Proofs.Ytffmnldhklejcaa
open Go.RowKit

/-- may these be joined? -/
def Good (L : List (List UInt8)) : Prop := L.length = 3 ∧ (∀ j, j < 3 → (xsOf L).getD j 0 ≠ 0) ∧ (xsOf L).Nodup
open Classical in
/-- what shares are joined to, or the error -/
noncomputable def joinS (L : List (List UInt8)) : List UInt8 × Int := if Good L then (keyAt L 0, 0) else (zs 32, 1)
theorem joinS_yes {L : List (List UInt8)} (h : Good L) : joinS L = (keyAt L 0, 0) := if_pos h
theorem joinS_no {L : List (List UInt8)} (h : ¬ Good L) : joinS L = (zs 32, 1) := if_neg h
theorem joinS_length (L : List (List UInt8)) : (joinS L).1.length = 32 := by
  unfold joinS; split
  · exact keyAt_length _ _
  · exact zs_length _

section
variable {ops : Array Oper} {rest : List Oper} {o : Oper} {a : Act} {Q : Exit → Act → World → Prop}
theorem wpList_gen {P : Program} {W : World} (p : World → Prop) (hp : p W) (h : ∀ W', p W' → wpList P ops Q rest a W') : wpList P ops Q rest a W := h W hp
theorem key_build0 (w : World) : (Instr.build 23 #[]).run Try.prog w = .ok (.agg (vals (zs 32)).toArray) w := run_build w _ _ _ (by kernel_rfl)
theorem wpList_key_build0 {w : World} (hg : o.guard = none) (ho : o.op = .build 23 #[]) (h : wpList Try.prog ops Q rest (a.put o.dst (.agg (vals (zs 32)).toArray)) w) : wpList Try.prog ops Q (o :: rest) a w :=
  wpList_run hg _ (by
    unfold execOp
    simp only [ho, List.map_toArray, List.map_nil, Sem.run_bind, key_build0 w, Result.andThen_ok]
    rfl) h
end
theorem arr3_info : (Try.prog.info? 47).map (fun i => (i.zero, i.size, i.bytes)) = some (some (.agg (vals (zs 3)).toArray), 3, 3) := by kernel_rfl
theorem arr3_alloc (w : World) : (Instr.alloc 47 true (.tuple #[])).run Try.prog w = .ok (.pointer (some ⟨w.heap.size, 0, none⟩)) (w.alloc (.cells (vals (zs 3)).toArray 47)) := by
  obtain ⟨i0, hi, hz0, _, _⟩ := info_parts arr3_info
  exact alloc_new hi hz0 w

/-- what the first loop keeps -/
structure JI (w W : World) (L : List (List UInt8)) (i : Nat) (X : List UInt8) : Prop where
  r0 : W.heap[w.heap.size]? = some (.cells (vals (zs 32)).toArray 23 (0, 0))
  xs : W.heap[w.heap.size + 1]? = some (.cells (vals X).toArray 47 (0, 0))
  xl : X.length = 3
  xv : ∀ j, j < i → X.getD j 0 = (xsOf L).getD j 0 ∧ (xsOf L).getD j 0 ≠ 0
  b : Below w.heap.size w W
theorem JI.below {w W W' : World} {L : List (List UInt8)} {i : Nat} {X : List UInt8} (h : JI w W L i X) (hb : Below W.heap.size W W') : JI w W' L i X :=
  ⟨(hb.block _ (lt_of_block h.r0)).trans h.r0, (hb.block _ (lt_of_block h.xs)).trans h.xs, h.xl, h.xv, h.b.trans (hb.mono h.b.size)⟩
theorem JI.set {w W : World} {L : List (List UInt8)} {i : Nat} {X : List UInt8} (h : JI w W L i X) (hi : i < 3) (p : UInt8) (hp : p = (xsOf L).getD i 0) (h0 : p ≠ 0) : JI w (W.setCell ⟨w.heap.size + 1, i, none⟩ (.int .u8 (u p))) L (i + 1) (X.set i p) :=
  ⟨(Below.heap_setCell _ _ _ _ (by simp)).trans h.r0, block_set h.xs p, by rw [List.length_set]; exact h.xl, fun j hj => by
    rw [getD_set _ _ _ _ (by rw [h.xl]; exact hi)]
    split
    · rename_i e; subst e; exact ⟨hp, hp ▸ h0⟩
    · exact h.xv j (by omega), h.b.setCell (p := ⟨w.heap.size + 1, i, none⟩) (by simp) _⟩

set_option maxRecDepth 100000 in
set_option maxHeartbeats 1000000 in
theorem Join_short (A : Option Addr) (n c : Nat) (L : List (List UInt8)) (w : World) (hn : n = L.length) (h3 : L.length ≠ 3) :
    Calls Try.prog 20 #[.slice A n c] w fun e w' => e = .returned (.tuple #[.agg (vals (joinS L).1).toArray, .int .i64 (joinS L).2]) ∧ Below w.heap.size w w' := by
  have g1 : ((n : Int) != 3) = true := by rw [bne_iff_ne]; omega
  have hj := joinS_no (fun h : Good L => h3 h.1)
  have HJ := Lib.hid hj
  have HB := Lib.hid ((Below.refl w.heap.size w).alloc (Nat.le_refl _) (.cells (vals (zs 32)).toArray 23))
  clear hn h3 hj
  go_enter Try.func20, Try.ntmps20
  go_wp2_with (first
    | refine wpList_alloc_run (by rfl) 23 (by rfl) _ (key_alloc _) ?_
    | refine wpList_key_build0 (by rfl) (by rfl) ?_
    | refine wpList_store_row (by rfl) 23 (.tmp 2) (.tmp 15) (by rfl) w.heap.size (vals (zs 32)).toArray (by rfl) (by rfl) 23 (vals (zs 32)).toArray (heap_at _ _ _ rfl) (by rw [List.size_toArray, vals_length, zs_length]; exact key_size) rfl (u8_all _) ?_)
  refine bodyPost_ret (results_cell_tmp (by rfl) _ _ w.heap.size 23 (vals (zs 32)).toArray (0, 0) _ (by rfl) (setRow_heap _ _ _ _ _ _ (heap_at _ _ _ rfl)) Try.underlying23 (by rfl) (by rw [List.size_toArray, vals_length, zs_length]; exact key_size)) rfl ⟨by rw [HJ.out]; rfl, below_setRow HB.out (Nat.le_refl _) _⟩

set_option maxRecDepth 100000 in
set_option maxHeartbeats 1000000 in
theorem Join_three (A : Option Addr) (n c : Nat) (L : List (List UInt8)) (w : World) (hn : n = L.length) (h3 : L.length = 3) (hL : Shs w A L) :
    Calls Try.prog 20 #[.slice A n c] w fun e w' => e = .returned (.tuple #[.agg (vals (joinS L).1).toArray, .int .i64 (joinS L).2]) ∧ Below w.heap.size w w' := by
  obtain rfl : n = 3 := hn.trans h3
  have H3 := Lib.hid h3
  have HL := Lib.hid hL
  clear hn h3 hL
  go_enter Try.func20, Try.ntmps20
  go_wp2_with (first
    | refine wpList_alloc_run (by rfl) 23 (by rfl) _ (key_alloc _) ?_
    | refine wpList_alloc_run (by rfl) 47 (by rfl) _ (arr3_alloc _) ?_)
  have H0 : Hid (JI w ((w.alloc (.cells (vals (zs 32)).toArray 23)).alloc (.cells (vals (zs 3)).toArray 47)) L 0 (zs 3)) :=
    ⟨heap_alloc2_old _ _ _, heap_alloc2_new _ _ _, zs_length _, fun j h => absurd h (by omega), ((Below.refl _ w).alloc (Nat.le_refl _) _).alloc (by simp) _⟩
  go_loopw [18] (fun vi W => ∃ (i : Nat) (X : List UInt8), i ≤ 3 ∧ vi = .int .i64 i ∧ JI w W L i X) (fun vi _ => 3 - (intOf vi).toNat)
  case atStart => exact ⟨0, _, Nat.zero_le _, rfl, H0.out⟩
  case round =>
    clear H0
    obtain ⟨i, X, hi, rfl, hI⟩ := hrel
    by_cases hlt : i < 3
    · have i0 : (0 : Int) ≤ (i : Int) := by omega
      have i1 : (i : Int) < 3 := by omega
      obtain ⟨b, o, rfl, hr, hl⟩ := HL.out.at_ i (by rw [H3.out]; exact hlt)
      have hp : (L[i]'(by rw [H3.out]; exact hlt)).getD 0 0 = (xsOf L).getD i 0 := by
        rw [Gf.getD_eq (xs := xsOf L) (by simp [xsOf, H3.out]; exact hlt)]; simp [xsOf]
      have hr2 : Hid (wr.rangeAt b (o + i * 33) (vals (L[i]'(by rw [H3.out]; exact hlt)))) := range_below hr hI.b
      have HLL := Lib.hid hl
      have HP := Lib.hid hp
      have HI := Lib.hid hI
      have hgt := lt_of_block hI.xs
      clear hr hl hp hI
      generalize (L[i]'(by rw [H3.out]; exact hlt)) = l at *
      have hne : Hid (∀ v, ∀ W : World, W.cell? ⟨wr.heap.size, 0, none⟩ = some (.int .u8 (u (l.getD 0 0))) → (W.setCell ⟨w.heap.size + 1, i, none⟩ v).cell? ⟨wr.heap.size, 0, none⟩ = some (.int .u8 (u (l.getD 0 0)))) := fun v W h =>
        (World.cell?_setCell_other _ _ _ _ (fun e => by injection e with e; omega)).trans h
      have hcell : Hid ((wr.alloc (.cells (vals l).toArray 34)).cell? ⟨wr.heap.size, 0, none⟩ = some (.int .u8 (u (l.getD 0 0)))) := cell_byteD (heap_at _ _ _ rfl) 0 (by rw [HLL.out]; omega)
      have hcx : Hid (∀ W, JI w W L i X → W.cell? ⟨w.heap.size + 1, i, none⟩ = some (.int .u8 (u (X.getD i 0))) ∧ W.frozen? ⟨w.heap.size + 1, i, none⟩ = false) := fun W h => ⟨cell_byteD h.xs i (by rw [h.xl]; exact hlt), frozen_of_row _ _ _ _ _ h.xs⟩
      have hJa : Hid (JI w (wr.alloc (.cells (vals l).toArray 34)) L i X) := HI.out.below ((Below.refl _ _).alloc (Nat.le_refl _) _)
      generalize hpp : l.getD 0 0 = p at *
      clear hpp
      by_cases hz : p = 0
      · have t1 : (u p == 0) = true := by rw [hz]; rfl
        have hj : joinS L = (zs 32, 1) := joinS_no (fun h => h.2.1 i hlt (by rw [← HP.out, hz]))
        have HJ := Lib.hid hj
        clear hj hz
        go_wp2_with (first
          | refine wpList_load_mid (by rfl) 34 (.tmp 21) (by rfl) b (o + i * 33) (by rfl) (vals l) _ hr2.out Try.underlying34 (by rfl) (by rw [vals_length, HLL.out]; exact share_size) ?_
          | refine wpList_alloc_run (by rfl) 34 (by rfl) _ (share_alloc _) ?_
          | (refine wpList_share_store (by rfl) (.tmp 6) (.tmp 22) (by rfl) l (zs 33) (by rfl) (by rfl) HLL.out (zs_length _) ?_
             refine wpList_gen (fun W' => JI w W' L i X ∧ W'.cell? ⟨wr.heap.size, 0, none⟩ = some (.int .u8 (u p))) ⟨hJa.out, hcell.out⟩ (fun W2 hW2 => ?_)
             obtain ⟨hJ2, e1⟩ := hW2
             obtain ⟨e2, e3⟩ := hcx.out _ hJ2
             have e4 := hne.out (.int .u8 (u p)) W2 e1
             have HJ2 := Lib.hid hJ2
             clear hJ2 hne hcell hcx hJa
             generalize wr.heap.size = g at *)
          | refine wpList_key_build0 (by rfl) (by rfl) ?_
          | refine wpList_store_row (by rfl) 23 (.tmp 2) (.tmp 30) (by rfl) w.heap.size (vals (zs 32)).toArray (by rfl) (by rfl) 23 (vals (zs 32)).toArray ((Below.heap_setCell _ _ _ _ (by simp)).trans HJ2.out.r0) (by rw [List.size_toArray, vals_length, zs_length]; exact key_size) rfl (u8_all _) ?_)
        refine bodyPost_ret (results_cell_tmp (by rfl) _ _ w.heap.size 23 (vals (zs 32)).toArray (0, 0) _ (by rfl) (setRow_heap _ _ _ _ _ _ ((Below.heap_setCell _ _ _ _ (by simp)).trans HJ2.out.r0)) Try.underlying23 (by rfl) (by rw [List.size_toArray, vals_length, zs_length]; exact key_size)) rfl ⟨by rw [HJ.out]; rfl, below_setRow (HJ2.out.b.setCell (p := ⟨w.heap.size + 1, i, none⟩) (by simp) _) (Nat.le_refl _) _⟩
      · have t1 : (u p == 0) = false := beq_eq_false_iff_ne.2 (fun e => hz (u_inj e))
        have hset : Hid (∀ W, JI w W L i X → JI w (W.setCell ⟨w.heap.size + 1, i, none⟩ (.int .u8 (u p))) L (i + 1) (X.set i p)) := fun W h => h.set hlt p HP.out hz
        clear hz
        go_wp2_with (first
          | refine wpList_load_mid (by rfl) 34 (.tmp 21) (by rfl) b (o + i * 33) (by rfl) (vals l) _ hr2.out Try.underlying34 (by rfl) (by rw [vals_length, HLL.out]; exact share_size) ?_
          | refine wpList_alloc_run (by rfl) 34 (by rfl) _ (share_alloc _) ?_
          | (refine wpList_share_store (by rfl) (.tmp 6) (.tmp 22) (by rfl) l (zs 33) (by rfl) (by rfl) HLL.out (zs_length _) ?_
             refine wpList_gen (fun W' => JI w W' L i X ∧ W'.cell? ⟨wr.heap.size, 0, none⟩ = some (.int .u8 (u p))) ⟨hJa.out, hcell.out⟩ (fun W2 hW2 => ?_)
             obtain ⟨hJ2, e1⟩ := hW2
             obtain ⟨e2, e3⟩ := hcx.out _ hJ2
             have e4 := hne.out (.int .u8 (u p)) W2 e1
             have HJ2 := Lib.hid hJ2
             clear hJ2 hne hcell hcx hJa
             generalize wr.heap.size = g at *))
        go_roundw
        case rel => exact ⟨i + 1, _, by omega, by go_num, hset.out _ HJ2.out⟩
        case measure => simp [intOf]; omega
    · have hi3 : i = 3 := by omega
      subst hi3
      have hX : X = xsOf L := by
        refine List.ext_getElem (by rw [hI.xl]; simp [xsOf, H3.out]) fun j h1 h2 => ?_
        have := (hI.xv j (by rw [← hI.xl]; exact h1)).1
        rw [Gf.getD_eq h1, Gf.getD_eq h2] at this
        exact this
      have HX := Lib.hid hX
      have HNZ : Hid (∀ j, j < 3 → (xsOf L).getD j 0 ≠ 0) := fun j hj => (hI.xv j hj).2
      have HXL := Lib.hid hI.xl
      have HI := Lib.hid hI
      have hgt := lt_of_block hI.xs
      clear hI hX
      go_wp2_with (refine wpList_alloc_run (by rfl) 23 (by rfl) _ (key_alloc _) ?_)
      have H1 : Hid (JI w (wr.alloc (.cells (vals (zs 32)).toArray 23)) L 3 X ∧ (wr.alloc (.cells (vals (zs 32)).toArray 23)).heap[wr.heap.size]? = some (.cells (vals (zs 32)).toArray 23 (0, 0))) := ⟨HI.out.below ((Below.refl _ _).alloc (Nat.le_refl _) _), heap_at _ _ _ rfl⟩
      have HGT := Lib.hid hgt
      clear HI hgt
      generalize wr.heap.size = g at *
      go_loopw [32] (fun vi W => ∃ (i : Nat) (K : List UInt8), i ≤ 32 ∧ vi = .int .i64 i ∧ Hid (K.length = 32) ∧ Hid (∀ j, j < i → K.getD j 0 = (Gf.atS (xsOf L) (ysOf L j) 0).1) ∧ Hid (0 < i → (xsOf L).Nodup) ∧ JI w W L 3 X ∧ W.heap[g]? = some (.cells (vals K).toArray 23 (0, 0))) (fun vi _ => 32 - (intOf vi).toNat)
      case atStart => exact ⟨0, _, Nat.zero_le _, rfl, zs_length _, fun j h => absurd h (by omega), fun h => absurd h (by omega), H1.out.1, H1.out.2⟩
      case round =>
        clear H1
        obtain ⟨i, K, hi, rfl, HK, HV, HND, hI, hK⟩ := hrel
        by_cases hlt : i < 32
        · have i0 : (0 : Int) ≤ (i : Int) := by omega
          have i1 : (i : Int) < 32 := by omega
          obtain ⟨b, o, l0, l1, l2, rfl, rfl, h0, h1, h2, c0, c1, c2⟩ := HL.out.three H3.out
          have e0 := c0 (i + 1) (by omega)
          have e1 := c1 (i + 1) (by omega)
          have e2 := c2 (i + 1) (by omega)
          have HI := Lib.hid hI
          have HKB := Lib.hid hK
          have hgw := lt_of_block hK
          clear c0 c1 c2 hI hK h0 h1 h2
          have keep : ∀ W', Below wr.heap.size wr W' → W'.cell? ⟨b, o + 1 + i, none⟩ = some (.int .u8 (u (l0.getD (i + 1) 0))) ∧ W'.cell? ⟨b, o + 33 + 1 + i, none⟩ = some (.int .u8 (u (l1.getD (i + 1) 0))) ∧ W'.cell? ⟨b, o + 66 + 1 + i, none⟩ = some (.int .u8 (u (l2.getD (i + 1) 0))) := fun W' hb => by
            have hb2 : Below w.heap.size w W' := HI.out.b.trans (hb.mono HI.out.b.size)
            have k : ∀ j v, w.cell? ⟨b, j, none⟩ = some v → W'.cell? ⟨b, j, none⟩ = some v := fun j v hv => (hb2.cell (lt_of_cell (by rw [hv]; rfl))).trans hv
            exact ⟨by rw [show o + 1 + i = o + (i + 1) from by omega]; exact k _ _ e0, by rw [show o + 33 + 1 + i = o + 33 + (i + 1) from by omega]; exact k _ _ e1, by rw [show o + 66 + 1 + i = o + 66 + (i + 1) from by omega]; exact k _ _ e2⟩
          have HKP := Lib.hid keep
          obtain ⟨s3, s4, s5⟩ := keep wr (Below.refl _ _)
          have HAT : Hid (ysOf [l0, l1, l2] i = [l0.getD (i + 1) 0, l1.getD (i + 1) 0, l2.getD (i + 1) 0]) := rfl
          have bs3 := lt_of_cell (w := wr) (p := ⟨b, o + 1 + i, none⟩) (by rw [s3]; rfl)
          clear e0 e1 e2 keep
          generalize l0.getD (i + 1) 0 = q0 at *
          generalize l1.getD (i + 1) 0 = q1 at *
          generalize l2.getD (i + 1) 0 = q2 at *
          go_wp2_with fail
          go_region_held3 (fun W => W.cell? ⟨b, o + 1 + i, none⟩ = some (.int .u8 (u q0)) ∧ W.cell? ⟨b, o + 33 + 1 + i, none⟩ = some (.int .u8 (u q1)) ∧ W.cell? ⟨b, o + 66 + 1 + i, none⟩ = some (.int .u8 (u q2)))
            (first
              | exact HKP.out _ (Below.refl _ _).drew
              | exact HKP.out _ ((Below.refl _ _).drew.alloc (Nat.le_refl _) _)
              | exact HKP.out _ ((Below.refl _ _).alloc (Nat.le_refl _) _)
              | exact HKP.out _ (below_setRow ((Below.refl _ _).alloc (Nat.le_refl _) _) (Nat.le_refl _) _))
            (fail)
          all_goals
            refine world_gen (fun W' => JI w W' [l0, l1, l2] 3 X ∧ W'.heap[g]? = some (.cells (vals K).toArray 23 (0, 0)) ∧ Bytes W' (some ⟨wr.heap.size, 0, none⟩) [q0, q1, q2])
              ⟨HI.out.below ((Below.refl _ _).alloc (Nat.le_refl _) _).drew, (Below.heap_alloc wr _ _ hgw).trans HKB.out, Bytes.drew (bytes_of_block (t := 47) (fr := (0, 0)) [q0, q1, q2] (heap_at _ _ _ rfl))⟩ (fun W2 hW2 => ?_)
            obtain ⟨hI2, hK2, hB2⟩ := hW2
            clear s3 s4 s5 HKP HI HKB
            have HI2 := Lib.hid hI2
            have HK2 := Lib.hid hK2
            have HB2 := Lib.hid hB2
            clear hI2 hK2 hB2
            have hres : ∀ r : UInt8 × Bool, Gf.atS X [q0, q1, q2] 0 = r → Calls Try.prog 29 #[.slice (some ⟨w.heap.size + 1, 0, none⟩) 3 3, .slice (some ⟨wr.heap.size, 0, none⟩) 3 3, .int .u8 0] W2.drew fun e w' => e = .returned (.tuple #[.int .u8 (u r.1), .bool r.2]) ∧ W2.drew = w' := fun r hr =>
              (At_c _ _ _ _ _ _ _ X [q0, q1, q2] 0 _ (by rw [HXL.out]) (by rfl) (by rw [HXL.out]; omega) (by rfl) (Bytes.drew (bytes_of_block X HI2.out.xs)) (Bytes.drew HB2.out)).mono (by
                rintro e w' ⟨rfl, h⟩
                exact ⟨by rw [hr], h⟩)
            by_cases hnd : (xsOf [l0, l1, l2]).Nodup
            · have hr : Gf.atS X [q0, q1, q2] 0 = ((Gf.atS (xsOf [l0, l1, l2]) (ysOf [l0, l1, l2] i) 0).1, true) := by
                have hy := Gf.atS_yes (xs := xsOf [l0, l1, l2]) (ys := ysOf [l0, l1, l2] i) 0 (by simp [xsOf, ysOf]) hnd
                rw [HX.out, ← HAT.out, hy]
              have HC := Lib.hid (hres _ hr)
              have HV2 : Hid (∀ r, r = (Gf.atS (xsOf [l0, l1, l2]) (ysOf [l0, l1, l2] i) 0).1 → ∀ j, j < i + 1 → (K.set i r).getD j 0 = (Gf.atS (xsOf [l0, l1, l2]) (ysOf [l0, l1, l2] j) 0).1) := fun r hr j hj => by
                rw [getD_set _ _ _ _ (by rw [HK.out]; exact hlt)]
                split
                · rename_i e; rw [← e, hr]
                · exact HV.out j (by omega)
              have HND2 := Lib.hid hnd
              clear hnd hr hres HND
              generalize hrr : (Gf.atS (xsOf [l0, l1, l2]) (ysOf [l0, l1, l2] i) 0).1 = r at *
              have HV3 := Lib.hid (HV2.out r rfl)
              clear HV2 hrr
              have c3 := cell_byteD HK2.out i (by rw [HK.out]; exact hlt)
              have f3 := frozen_of_row W2 g i _ _ HK2.out
              have HGG : Hid (JI w ((W2.drew).setCell ⟨g, i, none⟩ (.int .u8 (u r))) [l0, l1, l2] 3 X ∧ ((W2.drew).setCell ⟨g, i, none⟩ (.int .u8 (u r))).heap[g]? = some (.cells (vals (K.set i r)).toArray 23 (0, 0))) :=
                ⟨⟨(Below.heap_setCell _ _ _ _ (by have := HGT.out; simp; omega)).trans HI2.out.r0, (Below.heap_setCell _ _ _ _ (by have := HGT.out; simp; omega)).trans HI2.out.xs, HI2.out.xl, HI2.out.xv, HI2.out.b.drew.setCell (p := ⟨g, i, none⟩) (by have := HGT.out; simp; omega) _⟩, block_set (W := W2.drew) HK2.out r⟩
              go_wp2_with fail
              go_region_held3 (fun _ => True) (exact trivial) (first | (go_at_call 29; refine HC.out.mono ?_; rintro e w' ⟨rfl, rfl⟩))
              all_goals
                go_wp2
                go_roundw
                case rel => exact ⟨i + 1, _, by omega, by go_num, by rw [Hid, List.length_set]; exact HK.out, HV3, fun _ => HND2.out, HGG.out.1, HGG.out.2⟩
                case measure => simp [intOf]; omega
            · have hr : Gf.atS X [q0, q1, q2] 0 = (0, false) := by
                rw [HX.out, ← HAT.out]; exact Gf.atS_no 0 hnd
              have hj : joinS [l0, l1, l2] = (zs 32, 1) := joinS_no (fun h => hnd h.2.2)
              have HJ := Lib.hid hj
              have HC := Lib.hid (hres _ hr)
              clear hj hr hres hnd HV HND
              go_wp2_with fail
              go_region_held3 (fun _ => True) (exact trivial) (first | (go_at_call 29; refine HC.out.mono ?_; rintro e w' ⟨rfl, rfl⟩))
              all_goals
                go_wp2_with (first
                  | refine wpList_key_build0 (by rfl) (by rfl) ?_
                  | refine wpList_store_row (by rfl) 23 (.tmp 2) (.tmp 62) (by rfl) w.heap.size (vals (zs 32)).toArray (by rfl) (by rfl) 23 (vals (zs 32)).toArray HI2.out.r0 (by rw [List.size_toArray, vals_length, zs_length]; exact key_size) rfl (u8_all _) ?_)
                refine bodyPost_ret (results_cell_tmp (by rfl) _ _ w.heap.size 23 (vals (zs 32)).toArray (0, 0) _ (by rfl) (setRow_heap _ _ _ _ _ _ HI2.out.r0) Try.underlying23 (by rfl) (by rw [List.size_toArray, vals_length, zs_length]; exact key_size)) rfl ⟨by rw [HJ.out]; rfl, below_setRow (below_drewN HI2.out.b _) (Nat.le_refl _) _⟩
        · have hi32 : i = 32 := by omega
          subst hi32
          have hK2 : K = keyAt L 0 := by
            refine List.ext_getElem (by rw [HK.out, keyAt_length]) fun j h1 h2 => ?_
            have := HV.out j (by rw [← HK.out]; exact h1)
            rw [Gf.getD_eq h1] at this
            rw [this]
            simp [keyAt]
          have hj : joinS L = (keyAt L 0, 0) := joinS_yes ⟨H3.out, HNZ.out, HND.out (by omega)⟩
          rw [← hK2] at hj
          have HJ := Lib.hid hj
          have HI := Lib.hid hI
          have HKB := Lib.hid hK
          clear hI hK hK2 hj
          go_wp2_with (first
            | refine wpList_load_row (by rfl) 23 (.tmp 7) (by rfl) g (by rfl) 23 (vals K).toArray (0, 0) _ HKB.out Try.underlying23 (by rfl) (by rw [List.size_toArray, vals_length, HK.out]; exact key_size) ?_
            | refine wpList_store_row (by rfl) 23 (.tmp 2) (.tmp 67) (by rfl) w.heap.size (vals K).toArray (by rfl) (by rfl) 23 (vals (zs 32)).toArray HI.out.r0 (by rw [List.size_toArray, vals_length, HK.out]; exact key_size) (by simp [vals_length, zs_length, HK.out]) (u8_all K) ?_)
          refine bodyPost_ret (results_cell_tmp (by rfl) _ _ w.heap.size 23 (vals K).toArray (0, 0) _ (by rfl) (setRow_heap _ _ _ _ _ _ HI.out.r0) Try.underlying23 (by rfl) (by rw [List.size_toArray, vals_length, HK.out]; exact key_size)) rfl ⟨by rw [HJ.out]; rfl, below_setRow HI.out.b (Nat.le_refl _) _⟩

theorem Join_c (A : Option Addr) (n c : Nat) (L : List (List UInt8)) (w : World) (hn : n = L.length) (hL : Shs w A L) :
    Calls Try.prog 20 #[.slice A n c] w fun e w' => e = .returned (.tuple #[.agg (vals (joinS L).1).toArray, .int .i64 (joinS L).2]) ∧ Below w.heap.size w w' := by
  by_cases h : L.length = 3
  · exact Join_three A n c L w hn h hL
  · exact Join_short A n c L w hn h

end Go.Proofs.Ytffmnldhklejcaa
