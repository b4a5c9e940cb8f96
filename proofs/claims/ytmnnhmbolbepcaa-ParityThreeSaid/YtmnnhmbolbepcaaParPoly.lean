/- The walk of ParityPoly. -/
import Derived.Test.YtmnnhmbolbepcaaParOr
namespace Go.Proofs.Ytmnnhmbolbepcaa
open Go.RowKit
set_option linter.unusedSimpArgs false

theorem arr5_info : (Try.prog.info? 32).map (fun i => (i.zero, i.size, i.bytes)) = some (some (.agg (vals (zs 5)).toArray), 5, 5) := by kernel_rfl
theorem alloc_new {P : Program} {t : TypeId} {i : TypeInfo} {z : Value} (hi : P.info? t = some i) (hz : i.zero = some z) (w : World) :
    (Instr.alloc t true (.tuple #[])).run P w = .ok (.pointer (some ⟨w.heap.size, 0, none⟩)) (w.alloc (.cells z.cells t)) := by
  simp [Instr.alloc, zeroValue, typeInfo, hi, hz, newVar, newRow]
section
variable {ops : Array Oper} {rest : List Oper} {o : Oper} {a : Act} {Q : Exit → Act → World → Prop}
theorem wpList_run {P : Program} {w w' : World} (hg : o.guard = none) (v : Value) (hrun : (execOp a.eval o).run P w = .ok (.value v) w') (h : wpList P ops Q rest (a.put o.dst v) w') : wpList P ops Q (o :: rest) a w :=
  wpList_plain hg fun _ hK => by
    unfold Oper.wp
    rw [hrun, Oper.upon_value]
    exact hK _ _ h
theorem wpList_alloc_run {P : Program} {w w' : World} (hg : o.guard = none) (t : TypeId) (ho : o.op = .alloc t) (v : Value) (hrun : (Instr.alloc t true (.tuple #[])).run P w = .ok v w')
    (h : wpList P ops Q rest (a.put o.dst v) w') : wpList P ops Q (o :: rest) a w :=
  wpList_run hg v (by
    unfold execOp
    simp only [ho, Sem.run_bind, hrun, Result.andThen_ok]
    rfl) h
end
theorem arr5_alloc (w : World) : (Instr.alloc 32 true (.tuple #[])).run Try.prog w = .ok (.pointer (some ⟨w.heap.size, 0, none⟩)) (w.alloc (.cells (vals (zs 5)).toArray 32)) := by
  obtain ⟨i0, hi, hz0, _, _⟩ := info_parts arr5_info
  exact alloc_new hi hz0 w

theorem lag123 (a b c : UInt8) : Gf.lag [1, 2, 3] [a, b, c] 1 = a ∧ Gf.lag [1, 2, 3] [a, b, c] 2 = b ∧ Gf.lag [1, 2, 3] [a, b, c] 3 = c :=
  ⟨Gf.lag_at (xs := [1, 2, 3]) (ys := [a, b, c]) nodup123 rfl 0 (by simp) (by simp), Gf.lag_at (xs := [1, 2, 3]) (ys := [a, b, c]) nodup123 rfl 1 (by simp) (by simp), Gf.lag_at (xs := [1, 2, 3]) (ys := [a, b, c]) nodup123 rfl 2 (by simp) (by simp)⟩
theorem poly_at (s : List UInt8) (i : Nat) (hi : i < rowsN s.length) (Y : List UInt8) (hY : ∀ t, t < 5 → Y.getD t 0 = (partL s (UInt8.ofNat (t + 1))).getD i 0) (x : UInt8) :
    Gf.atS [1, 2, 3] [Y.getD 0 0, Y.getD 1 0, Y.getD 2 0] x = ((partL s x).getD i 0, true) := by
  have e := Gf.atS_yes (xs := [1, 2, 3]) (ys := [Y.getD 0 0, Y.getD 1 0, Y.getD 2 0]) x rfl nodup123
  rw [e, part_get s x i hi, hY 0 (by omega), hY 1 (by omega), hY 2 (by omega), part_get s _ i hi, part_get s _ i hi, part_get s _ i hi]
  have l3 := lag123 (s.getD i 0) (s.getD (rowsN s.length + i) 0) (s.getD (2 * rowsN s.length + i) 0)
  have u1 : UInt8.ofNat (0 + 1) = 1 := rfl
  have u2 : UInt8.ofNat (1 + 1) = 2 := rfl
  have u3 : UInt8.ofNat (2 + 1) = 3 := rfl
  rw [u1, u2, u3, l3.1, l3.2.1, l3.2.2]

/-- what the walk keeps in a round: the parts, the five bytes -/
structure PY (w W : World) (b o y : Nat) (s : List UInt8) (Y : List UInt8) : Prop where
  parts : ∀ p, p < 5 → W.cell? ⟨b, o + p * 2, none⟩ = some (.int .i64 ((p : Int) + 1)) ∧ W.cell? ⟨b, o + p * 2 + 1, none⟩ = some (.string (strP s p))
  yb : W.heap[y]? = some (.cells (vals Y).toArray 32 (0, 0))
  lt : b < y
  b : Below w.heap.size w W
  ge : w.heap.size ≤ y
theorem PY.below {w W W' : World} {b o y : Nat} {s Y : List UInt8} (h : PY w W b o y s Y) (hb : Below W.heap.size W W') : PY w W' b o y s Y :=
  ⟨fun p hp => ⟨(hb.cell (lt_of_cell (by rw [(h.parts p hp).1]; rfl))).trans (h.parts p hp).1, (hb.cell (lt_of_cell (by rw [(h.parts p hp).2]; rfl))).trans (h.parts p hp).2⟩, (hb.block _ (lt_of_block h.yb)).trans h.yb, h.lt, h.b.trans (hb.mono h.b.size), h.ge⟩
theorem PY.set {w W : World} {b o y : Nat} {s Y : List UInt8} (h : PY w W b o y s Y) (j : Nat) (v : UInt8) : PY w (W.setCell ⟨y, j, none⟩ (.int .u8 (u v))) b o y s (Y.set j v) :=
  ⟨fun p hp => ⟨(World.cell?_setCell_other _ _ _ _ (fun e => by injection e with e e'; have := h.lt; omega)).trans (h.parts p hp).1, (World.cell?_setCell_other _ _ _ _ (fun e => by injection e with e e'; have := h.lt; omega)).trans (h.parts p hp).2⟩, block_set h.yb v, h.lt, h.b.setCell (p := ⟨y, j, none⟩) h.ge _, h.ge⟩

theorem bytes3 {W : World} {y : Nat} {Y : List UInt8} {t : TypeId} {fr : Nat × Nat} (h : W.heap[y]? = some (.cells (vals Y).toArray t fr)) (hl : Y.length = 5) : Bytes W (some ⟨y, 0, none⟩) [Y.getD 0 0, Y.getD 1 0, Y.getD 2 0] := fun j hj => by
  refine ⟨_, rfl, ?_⟩
  rw [add_zero_block]
  match j, hj with
  | 0, _ => exact cell_byteD h 0 (by omega)
  | 1, _ => exact cell_byteD h 1 (by omega)
  | 2, _ => exact cell_byteD h 2 (by omega)

set_option maxRecDepth 100000 in
set_option maxHeartbeats 4000000 in
theorem ParityPoly_go (S : ByteArray) (w : World) (hS : S.size ≤ 600) :
    Calls Try.prog 5 #[.string S] w fun e w' => e = .returned (.bool true) ∧ Below w.heap.size w w' := by
  have g1 : decide ((600 : Int) < (S.size : Int)) = false := by simp; omega
  obtain ⟨N, hN⟩ : ∃ N, N = rowsN (bs S).length := ⟨_, rfl⟩
  have hN2 : N ≤ 300 := by rw [hN, bs_length]; unfold rowsN; omega
  have HR : Hid (rowsZ (S.size : Int) = (N : Int)) := by rw [Hid, hN, bs_length]; exact rowsZ_nat _
  have HRW : Hid (∀ W : World, Calls Try.prog 13 #[.int .i64 (S.size : Int)] W fun e w' => e = .returned (.int .i64 (N : Int)) ∧ W = w') := fun W => by
    have h := Rows_c (S.size : Int) (by omega) W
    rw [HR.out] at h
    exact h
  have HNB := Lib.hid hN
  have HN := Lib.hid hN2
  have HS := Lib.hid hS
  clear hN hN2 hS
  go_enter Try.func5, Try.ntmps5
  go_wp2_with fail
  refine (PCut_c S _ (by have := HS.out; omega)).mono ?_
  rintro e w1 ⟨⟨A, c, rfl, -, -, hp⟩, hb1⟩
  obtain ⟨b, o, rfl, hA⟩ := pts_cut hp
  have HA := Lib.hid hA
  have HB := Lib.hid hb1
  clear hp hb1 hA
  go_wp2_with (go_at_call 13; refine (HRW.out _).mono ?_; rintro e w9 ⟨rfl, rfl⟩)
  go_loopw [22] (fun vi W => ∃ i : Nat, i ≤ N ∧ vi = .int .i64 i ∧ Hid (Below w1.heap.size w1 W)) (fun vi _ => N - (intOf vi).toNat)
  case atStart => exact ⟨0, Nat.zero_le _, rfl, Below.refl _ _⟩
  case round =>
    obtain ⟨i, hi, rfl, HW⟩ := hrel
    by_cases hlt : i < N
    · have i0 : (0 : Int) ≤ (i : Int) := by omega
      have i1 : (i : Int) < (N : Int) := by omega
      have i2 : (i : Int) < 300 := by have := HN.out; omega
      go_wp2_with (refine wpList_alloc_run (by rfl) 32 (by rfl) _ (arr5_alloc _) ?_)
      have HPY : Hid (PY w (wr.alloc (.cells (vals (zs 5)).toArray 32)) b o wr.heap.size (bs S) (zs 5)) := by
        have hz : Below w1.heap.size w1 (wr.alloc (.cells (vals (zs 5)).toArray 32)) := HW.out.alloc HW.out.size _
        have hb0 := lt_of_cell (w := w1) (p := ⟨b, o + 0 * 2, none⟩) (by rw [(HA.out 0 (by omega)).1]; rfl)
        exact ⟨fun p hp => ⟨(hz.cell (lt_of_cell (by rw [(HA.out p hp).1]; rfl))).trans (HA.out p hp).1, (hz.cell (lt_of_cell (by rw [(HA.out p hp).2]; rfl))).trans (HA.out p hp).2⟩, heap_at _ _ _ rfl, Nat.lt_of_lt_of_le hb0 HW.out.size, HB.out.trans (hz.mono HB.out.size), Nat.le_trans HB.out.size HW.out.size⟩
      have HWB : Hid (w1.heap.size ≤ wr.heap.size) := HW.out.size
      have HW3 : Hid (Below w1.heap.size w1 (wr.alloc (.cells (vals (zs 5)).toArray 32))) := HW.out.alloc HW.out.size _
      clear HW
      generalize wr.alloc (.cells (vals (zs 5)).toArray 32) = W3 at *
      generalize wr.heap.size = y at *
      go_loopw [27] (fun vp W => ∃ (p : Nat) (I : Int) (Y : List UInt8), p ≤ 5 ∧ vp = .int .i64 I ∧ Hid (I = (p : Int)) ∧ Hid (Y.length = 5) ∧ Hid (∀ t, t < p → Y.getD t 0 = (partL (bs S) (UInt8.ofNat (t + 1))).getD i 0) ∧ Hid (PY w W b o y (bs S) Y) ∧ Hid (Below w1.heap.size w1 W)) (fun vp _ => 5 - (intOf vp).toNat)
      case atStart => exact ⟨0, 0, zs 5, Nat.zero_le _, rfl, rfl, zs_length _, fun t h => absurd h (by omega), HPY, HW3⟩
      case round =>
        clear HPY HW3
        obtain ⟨p, I, Y, hp, rfl, HI, HYL, HYV, HPY, HW3⟩ := hrel
        by_cases hlt5 : p < 5
        · obtain rfl : I = (p : Int) := HI.out
          clear HI
          have p0 : (0 : Int) ≤ (p : Int) := by omega
          have p1 : (p : Int) < 5 := by omega
          obtain ⟨a1, a2⟩ := HPY.out.parts p hlt5
          have sa : (strP (bs S) p).size = N := by rw [strP_size, HNB.out]
          have t1 : ((N : Int) != (N : Int)) = false := by simp
          have q1 : ∀ W : World, (Instr.index 9 (.string (strP (bs S) p)) (.int .i64 (i : Int))).run Try.prog W = .ok (.int .u8 (u ((bs (strP (bs S) p)).getD i 0))) W := fun W => str_index _ _ i rfl (by rw [sa]; exact hlt) W
          have HBV : Hid ((bs (strP (bs S) p)).getD i 0 = (partL (bs S) (UInt8.ofNat (p + 1))).getD i 0) := by rw [Hid, strP_bs]
          generalize hSA : strP (bs S) p = SA at *
          have HSA := Lib.hid hSA
          clear hSA
          generalize (bs SA).getD i 0 = v at *
          go_wp2_with fail
          go_quiet ((go_at_call 13; first | with_reducible exact quiet_eq_add (HRW.out _) | with_reducible exact quiet_eq (HRW.out _)))
          have HPY2 := Lib.hid (HPY.out.below (below_drewN (Below.refl wr.heap.size wr) nq))
          have HW4 : Hid (Below w1.heap.size w1 (wr.drewN nq)) := below_drewN HW3.out nq
          clear a1 a2 HPY HW3
          generalize wr.drewN nq = W5 at *
          obtain ⟨a1, a2⟩ := HPY2.out.parts p hlt5
          rw [HSA.out] at a2
          have c3 := cell_byteD HPY2.out.yb p (by rw [HYL.out]; exact hlt5)
          have f3 := frozen_of_row W5 y p _ _ HPY2.out.yb
          have HV2 : Hid (∀ t, t < p + 1 → (Y.set p v).getD t 0 = (partL (bs S) (UInt8.ofNat (t + 1))).getD i 0) := fun t ht => by
            rw [getD_set _ _ _ _ (by rw [HYL.out]; exact hlt5)]
            by_cases e : p = t
            · rw [if_pos e, HBV.out, e]
            · rw [if_neg e]; exact HYV.out t (by omega)
          go_wp2_with fail
          go_roundw
          case rel => exact ⟨p + 1, _, Y.set p v, by omega, rfl, by go_num, by rw [Hid, List.length_set]; exact HYL.out, HV2, HPY2.out.set p v, HW4.out.setCell (p := ⟨y, p, none⟩) HWB.out _⟩
          case measure => simp [intOf]; omega
        · obtain rfl : p = 5 := by omega
          obtain rfl : I = 5 := HI.out
          clear HI
          go_wp2_with fail
          have HPT : Hid (∀ x : UInt8, Gf.atS [1, 2, 3] [Y.getD 0 0, Y.getD 1 0, Y.getD 2 0] x = ((partL (bs S) x).getD i 0, true)) := fun x => poly_at (bs S) i (by rw [← HNB.out]; exact hlt) Y HYV.out x
          have HY3 : Hid ((partL (bs S) 4).getD i 0 = Y.getD 3 0 ∧ (partL (bs S) 5).getD i 0 = Y.getD 4 0) := ⟨(HYV.out 3 (by omega)).symm, (HYV.out 4 (by omega)).symm⟩
          go_loopw [7] (fun vx W => ∃ (k : Nat) (X : Int), k ≤ 2 ∧ vx = .int .u8 X ∧ Hid (X = (k : Int) + 4) ∧ Hid (PY w W b o y (bs S) Y) ∧ Hid (Below w1.heap.size w1 W)) (fun vx _ => 6 - (intOf vx).toNat)
          case atStart => exact ⟨0, 4, by omega, rfl, rfl, HPY, HW3⟩
          case round =>
            clear HPY HW3
            obtain ⟨k, X, hk, rfl, HX, HPY, HW3⟩ := hrel
            have hcs : k = 0 ∨ k = 1 ∨ k = 2 := by omega
            have hX := HX.out
            clear HX
            rcases hcs with rfl | rfl | rfl
            · obtain rfl : X = 4 := hX
              have HAL : ∀ o : Obj, Below wr.heap.size wr (wr.alloc o) := fun o => (Below.refl _ _).alloc (Nat.le_refl _) _
              have c4 : ∀ ob : Obj, (wr.alloc ob).cell? ⟨y, 3, none⟩ = some (.int .u8 (u (Y.getD 3 0))) := fun ob => cell_byteD (HPY.out.below (HAL ob)).yb 3 (by rw [HYL.out]; omega)
              have HBY : Hid (∀ ob : Obj, Bytes (wr.alloc ob) (some ⟨y, 0, none⟩) [Y.getD 0 0, Y.getD 1 0, Y.getD 2 0]) := fun ob => bytes3 (HPY.out.below (HAL ob)).yb HYL.out
              have hpt := HPT.out 4
              rw [HY3.out.1] at hpt
              have HPX := Lib.hid hpt
              have HP9 : Hid (∀ ob : Obj, PY w (wr.alloc ob) b o y (bs S) Y ∧ Below w1.heap.size w1 (wr.alloc ob)) := fun ob => ⟨HPY.out.below (HAL ob), HW3.out.trans ((HAL ob).mono HW3.out.size)⟩
              clear hpt HAL HPY HW3
              generalize Y.getD 3 0 = v at *
              have x2 : (u v != u v) = false := by simp
              go_wp2_with (go_at_call 15; refine (At_c _ _ _ _ _ _ _ [1, 2, 3] [Y.getD 0 0, Y.getD 1 0, Y.getD 2 0] 4 _ rfl rfl (by simp) (by rfl) (bytes_of_block (t := 5) (fr := (0, 0)) [1, 2, 3] (heap_at _ _ _ rfl)) (HBY.out _)).mono ?_; rintro e w9 ⟨rfl, rfl⟩; rw [HPX.out])
              go_roundw
              case rel => exact ⟨1, 5, by omega, by go_num, by go_num, (HP9.out _).1, (HP9.out _).2⟩
              case measure => simp [intOf]
            · obtain rfl : X = 5 := hX
              have HAL : ∀ o : Obj, Below wr.heap.size wr (wr.alloc o) := fun o => (Below.refl _ _).alloc (Nat.le_refl _) _
              have c4 : ∀ ob : Obj, (wr.alloc ob).cell? ⟨y, 4, none⟩ = some (.int .u8 (u (Y.getD 4 0))) := fun ob => cell_byteD (HPY.out.below (HAL ob)).yb 4 (by rw [HYL.out]; omega)
              have HBY : Hid (∀ ob : Obj, Bytes (wr.alloc ob) (some ⟨y, 0, none⟩) [Y.getD 0 0, Y.getD 1 0, Y.getD 2 0]) := fun ob => bytes3 (HPY.out.below (HAL ob)).yb HYL.out
              have hpt := HPT.out 5
              rw [HY3.out.2] at hpt
              have HPX := Lib.hid hpt
              have HP9 : Hid (∀ ob : Obj, PY w (wr.alloc ob) b o y (bs S) Y ∧ Below w1.heap.size w1 (wr.alloc ob)) := fun ob => ⟨HPY.out.below (HAL ob), HW3.out.trans ((HAL ob).mono HW3.out.size)⟩
              clear hpt HAL HPY HW3
              generalize Y.getD 4 0 = v at *
              have x2 : (u v != u v) = false := by simp
              go_wp2_with (go_at_call 15; refine (At_c _ _ _ _ _ _ _ [1, 2, 3] [Y.getD 0 0, Y.getD 1 0, Y.getD 2 0] 5 _ rfl rfl (by simp) (by rfl) (bytes_of_block (t := 5) (fr := (0, 0)) [1, 2, 3] (heap_at _ _ _ rfl)) (HBY.out _)).mono ?_; rintro e w9 ⟨rfl, rfl⟩; rw [HPX.out])
              go_roundw
              case rel => exact ⟨2, 6, by omega, by go_num, by go_num, (HP9.out _).1, (HP9.out _).2⟩
              case measure => simp [intOf]
            · obtain rfl : X = 6 := hX
              go_wp2_with fail
              go_roundw
              case rel => exact ⟨i + 1, by omega, by go_num, HW3⟩
              case measure => simp [intOf]; omega
    · obtain rfl : i = N := by omega
      go_wp2_with fail
      refine (Fixed_c _).mono ?_
      rintro e w9 ⟨rfl, hb9⟩
      have HB8 : Hid (Below w.heap.size w wr) := HB.out.trans (HW.out.mono HB.out.size)
      have HB9 := Lib.hid (HB8.out.trans (hb9.mono HB8.out.size))
      clear hb9
      go_wp2
      go_ret
      exact ⟨rfl, HB9.out⟩

theorem ParityPoly_any (v : Value) (h : ∃ s : ByteArray, v = .string s) (w : World) :
    Calls Try.prog 5 #[v] w fun e w' => e = .returned (.bool true) ∧ Below w.heap.size w w' := by
  obtain ⟨S, rfl⟩ := h
  by_cases h1 : S.size ≤ 600
  · exact ParityPoly_go S w h1
  · have g1 : decide ((600 : Int) < (S.size : Int)) = true := by simp; omega
    clear h1
    go_enter Try.func5, Try.ntmps5
    go_wp2_with fail
    refine (Fixed_c _).mono ?_
    rintro e w1 ⟨rfl, hb1⟩
    go_wp2
    go_ret
    exact ⟨rfl, hb1⟩

end Go.Proofs.Ytmnnhmbolbepcaa
