/- The walk of the reference's Join. -/
import Derived.Test.YtmnnhmbolbepcaaParThr
namespace Go.Proofs.Ytmnnhmbolbepcaa
open Go.RowKit
set_option linter.unusedSimpArgs false

set_option maxRecDepth 100000 in
set_option maxHeartbeats 1000000 in
theorem RJoinP_range (A : Option Addr) (n c : Nat) (z : Int) (w : World) (hz : z < 0 ∨ 65536 < z) :
    Calls Try.prog 17 #[.slice A n c, .int .i64 z] w fun e w' => e = .returned (.tuple #[.string ByteArray.empty, .int .i64 2]) ∧ Below w.heap.size w w' := by
  by_cases h : z < 0
  · have f1 : decide (z < 0) = true := by simpa using h
    clear h hz
    go_enter Try.func17, Try.ntmps17
    go_wp2
    go_ret2
    exact ⟨rfl, Below.refl _ _⟩
  · have f1 : decide (z < 0) = false := by simpa using h
    have f2 : decide (65536 < z) = true := by simp; omega
    clear h hz
    go_enter Try.func17, Try.ntmps17
    go_wp2
    go_ret2
    exact ⟨rfl, Below.refl _ _⟩

set_option maxRecDepth 100000 in
set_option maxHeartbeats 4000000 in
theorem RJoinP_in (A : Option Addr) (c : Nat) (L : List Pt) (z : Int) (w : World) (hl : L.length ≤ 1000000000) (hL : Pts w A L) (hz : ¬ (z < 0 ∨ 65536 < z)) :
    Calls Try.prog 17 #[.slice A L.length c, .int .i64 z] w fun e w' => e = .returned (.tuple #[.string (joinV L z).1, .int .i64 (joinV L z).2]) ∧ Below w.heap.size w w' := by
  obtain ⟨m, hm⟩ : ∃ m : Nat, z = (m : Int) := ⟨z.toNat, by omega⟩
  subst hm
  have f1 : decide ((m : Int) < 0) = false := by simp
  have f2 : decide (65536 < (m : Int)) = false := by simp; omega
  obtain ⟨n, hn⟩ : ∃ n, n = rowsN m := ⟨_, rfl⟩
  have hn2 : m ≤ 3 * n ∧ n ≤ 30000 := by rw [hn]; unfold rowsN; omega
  have HRW : Hid (∀ W : World, Calls Try.prog 14 #[.int .i64 (m : Int)] W fun e w' => e = .returned (.int .i64 (n : Int)) ∧ W = w') := fun W => by
    have h := RRows_c (m : Int) (by omega) W
    rw [rowsZ_nat, ← hn] at h
    exact h
  have HJE : Hid (∀ acc e, pickL n [] L = (acc, e) → e ≠ 0 → joinV L (m : Int) = (ByteArray.empty, e)) := fun acc e h he => joinV_err hz (by rw [Int.toNat_natCast, ← hn]; exact h) he
  have HJO : Hid (∀ acc, pickL n [] L = (acc, 0) → joinV L (m : Int) = (⟨((atL (acc.map num) (fun t => bs (acc.getD t (0, ByteArray.empty)).2) 1 n ++ atL (acc.map num) (fun t => bs (acc.getD t (0, ByteArray.empty)).2) 2 n ++ atL (acc.map num) (fun t => bs (acc.getD t (0, ByteArray.empty)).2) 3 n).take m).toArray⟩, 0)) := fun acc h => by
    have := joinV_ok hz (by rw [Int.toNat_natCast, ← hn]; exact h)
    rw [Int.toNat_natCast, ← hn] at this
    exact this
  generalize joinV L (m : Int) = J at *
  have HN := Lib.hid hn2
  have HTH : Hid (∀ W : World, W = w → Calls Try.prog 23 #[.slice A L.length c, .int .i64 (n : Int)] W fun e w' => (∃ acc er D d, pickL n [] L = (acc, er) ∧ e = .returned (.tuple #[.slice D acc.length d, .int .i64 er]) ∧ Pts w' D acc ∧ acc.length ≤ 3 ∧ (er = 0 → acc.length = 3) ∧ ∀ q ∈ acc, (1 ≤ q.1 ∧ q.1 ≤ 5) ∧ q.2.size = n) ∧ Below W.heap.size W w') := fun W h => by subst h; exact Three_c A c L n _ hl hL
  clear hn hn2 hL hl hz
  have n0 : (0 : Int) ≤ (n : Int) := by omega
  have n1 : (n : Int) ≤ 30000 := by have := HN.out; omega
  go_enter Try.func17, Try.ntmps17
  go_wp2_with (go_at_call 14; refine (HRW.out _).mono ?_; rintro e w9 ⟨rfl, rfl⟩)
  refine (HTH.out _ rfl).mono ?_
  rintro e w1 ⟨⟨acc, er, D, d, hp, rfl, hpt, ha3, he0, hq⟩, hb1⟩
  have HB := Lib.hid hb1
  clear hb1
  by_cases c1 : er = 0
  · subst c1
    have ha := he0 rfl
    have HE := Lib.hid (HJO.out acc hp)
    match acc, ha, hp, hpt, hq, HE with
    | [p0, p1, p2], _, _, hpt, hq, HE =>
      obtain ⟨b, o, rfl, hc⟩ := hpt (by simp)
      have hc0 := hc 0 (by simp)
      have hc1 := hc 1 (by simp)
      have hc2 := hc 2 (by simp)
      have hq0 := hq p0 (by simp)
      have hq1 := hq p1 (by simp)
      have hq2 := hq p2 (by simp)
      obtain ⟨i0, S0⟩ := p0
      obtain ⟨i1, S1⟩ := p1
      obtain ⟨i2, S2⟩ := p2
      simp only [List.getElem_cons_zero, List.getElem_cons_succ, Nat.zero_mul, Nat.add_zero, Nat.one_mul, Nat.reduceMul, Nat.add_assoc, Nat.reduceAdd] at hc0 hc1 hc2
      have HKC : Hid (∀ W, Below w1.heap.size w1 W → (W.cell? ⟨b, o, none⟩ = some (.int .i64 i0) ∧ W.cell? ⟨b, o + 2, none⟩ = some (.int .i64 i1) ∧ W.cell? ⟨b, o + 4, none⟩ = some (.int .i64 i2)) ∧
          (W.cell? ⟨b, o + 1, none⟩ = some (.string S0) ∧ W.cell? ⟨b, o + 3, none⟩ = some (.string S1) ∧ W.cell? ⟨b, o + 5, none⟩ = some (.string S2))) := fun W hb =>
        ⟨⟨(hb.cell (lt_of_cell (by rw [hc0.1]; rfl))).trans hc0.1, (hb.cell (lt_of_cell (by rw [hc1.1]; rfl))).trans hc1.1, (hb.cell (lt_of_cell (by rw [hc2.1]; rfl))).trans hc2.1⟩,
          (hb.cell (lt_of_cell (by rw [hc0.2]; rfl))).trans hc0.2, (hb.cell (lt_of_cell (by rw [hc1.2]; rfl))).trans hc1.2, (hb.cell (lt_of_cell (by rw [hc2.2]; rfl))).trans hc2.2⟩
      have x0 : IntKind.u8.wrap i0 = u (num (i0, S0)) := by have h : 1 ≤ i0 ∧ i0 ≤ 5 := hq0.1; rw [IntKind.wrap_u8]; show _ = ((UInt8.ofNat i0.toNat).toNat : Int); rw [UInt8.toNat_ofNat']; omega
      have x1 : IntKind.u8.wrap i1 = u (num (i1, S1)) := by have h : 1 ≤ i1 ∧ i1 ≤ 5 := hq1.1; rw [IntKind.wrap_u8]; show _ = ((UInt8.ofNat i1.toNat).toNat : Int); rw [UInt8.toNat_ofNat']; omega
      have x2 : IntKind.u8.wrap i2 = u (num (i2, S2)) := by have h : 1 ≤ i2 ∧ i2 ≤ 5 := hq2.1; rw [IntKind.wrap_u8]; show _ = ((UInt8.ofNat i2.toNat).toNat : Int); rw [UInt8.toNat_ofNat']; omega
      have HI0 : Hid (∀ (i : Nat) (W : World), i < n → (Instr.index 9 (.string S0) (.int .i64 (i : Int))).run Try.prog W = .ok (.int .u8 (u ((bs S0).getD i 0))) W) := fun i W h => str_index S0 _ i rfl (by have h2 : S0.size = n := hq0.2; omega) W
      have HI1 : Hid (∀ (i : Nat) (W : World), i < n → (Instr.index 9 (.string S1) (.int .i64 (i : Int))).run Try.prog W = .ok (.int .u8 (u ((bs S1).getD i 0))) W) := fun i W h => str_index S1 _ i rfl (by have h2 : S1.size = n := hq1.2; omega) W
      have HI2 : Hid (∀ (i : Nat) (W : World), i < n → (Instr.index 9 (.string S2) (.int .i64 (i : Int))).run Try.prog W = .ok (.int .u8 (u ((bs S2).getD i 0))) W) := fun i W h => str_index S2 _ i rfl (by have h2 : S2.size = n := hq2.2; omega) W
      have HEX : Hid (J = (⟨((joinL [num (i0, S0), num (i1, S1), num (i2, S2)] (fun t => bs ([(i0, S0), (i1, S1), (i2, S2)].getD t (0, ByteArray.empty)).2) n 3).take m).toArray⟩, 0)) := by rw [Hid, HE.out]; simp [joinL, List.range_succ]
      have HLT : Hid ((fun t => bs (([(i0, S0), (i1, S1), (i2, S2)] : List Pt).getD t (0, ByteArray.empty)).2) 0 = bs S0 ∧ (fun t => bs (([(i0, S0), (i1, S1), (i2, S2)] : List Pt).getD t (0, ByteArray.empty)).2) 1 = bs S1 ∧ (fun t => bs (([(i0, S0), (i1, S1), (i2, S2)] : List Pt).getD t (0, ByteArray.empty)).2) 2 = bs S2) := ⟨rfl, rfl, rfl⟩
      generalize (fun t => bs (([(i0, S0), (i1, S1), (i2, S2)] : List Pt).getD t (0, ByteArray.empty)).2) = LL at *
      generalize num (i0, S0) = y0 at *
      generalize num (i1, S1) = y1 at *
      generalize num (i2, S2) = y2 at *
      clear hc hc0 hc1 hc2 hq0 hq1 hq2 hq hpt hp HE HJE HJO he0 ha3 ha HTH HRW
      have k1 := (HKC.out w1 (Below.refl _ _)).1
      obtain ⟨k1a, k1b, k1c⟩ := k1
      go_wp2_with fail
      go_region_held3 (fun W => W.cell? ⟨b, o, none⟩ = some (.int .i64 i0) ∧ W.cell? ⟨b, o + 2, none⟩ = some (.int .i64 i1) ∧ W.cell? ⟨b, o + 4, none⟩ = some (.int .i64 i2))
        (first
          | exact (HKC.out _ (Below.refl _ _).drew).1
          | exact (HKC.out _ ((Below.refl _ _).drew.alloc (Nat.le_refl _) _)).1)
        (fail)
      refine world_gen (fun W => Below w1.heap.size w1 W ∧ W.heap[w1.heap.size]? = some (.cells (vals [y0, y1, y2]).toArray 5 (0, 0))) ⟨(Below.refl _ _).drew.alloc (Nat.le_refl _) _, heap_at _ _ _ rfl⟩ (fun W8 h8 => ?_)
      have HK8 : Hid (∀ W, Below W8.heap.size W8 W → (W.cell? ⟨b, o + 1, none⟩ = some (.string S0) ∧ W.cell? ⟨b, o + 3, none⟩ = some (.string S1) ∧ W.cell? ⟨b, o + 5, none⟩ = some (.string S2)) ∧ Bytes W (some ⟨w1.heap.size, 0, none⟩) [y0, y1, y2] ∧ Below w.heap.size w W) := fun W hb =>
        ⟨(HKC.out W (h8.1.trans (hb.mono h8.1.size))).2, bytes_of_block (t := 5) (fr := (0, 0)) _ ((hb.block _ (lt_of_block h8.2)).trans h8.2), (HB.out.trans (h8.1.mono HB.out.size)).trans (hb.mono (Nat.le_trans HB.out.size h8.1.size))⟩
      clear HKC h8 k1a k1b k1c x0 x1 x2 HB
      generalize w1.heap.size = gx at *
      go_wp2_with fail
      have H9 : Hid (OwnB (W8.alloc (.cells (vals []).toArray 5)) W8.heap.size (.slice (some ⟨W8.heap.size, 0, none⟩) 0 0) [] ∧ Below W8.heap.size W8 (W8.alloc (.cells (vals []).toArray 5))) := ⟨OwnB.lit W8 _ [] (Nat.le_refl _) (by simp), (Below.refl _ _).alloc (Nat.le_refl _) _⟩
      go_loopw [10, 11] (fun vo vx W => ∃ (k : Nat) (I : Int), k ≤ 3 ∧ vx = .int .i64 I ∧ Hid (I = (k : Int) + 1) ∧ Hid (OwnB W W8.heap.size vo (joinL [y0, y1, y2] LL n k)) ∧ Hid (Below W8.heap.size W8 W)) (fun _ vx _ => 4 - (intOf vx).toNat)
      case atStart => exact ⟨0, 1, by omega, rfl, rfl, H9.out.1, H9.out.2⟩
      case round =>
        clear H9
        obtain ⟨k, I, hk, rfl, HI, HO, HW⟩ := hrel
        by_cases h3 : k < 3
        · have hx1 : decide (I ≤ 3) = true := by have := HI.out; simp; omega
          have e1 : wrap64 (I + 1) = ((k + 1 : Nat) : Int) + 1 := by rw [HI.out]; unfold wrap64; omega
          have ex : IntKind.u8.wrap I = u (UInt8.ofNat (k + 1)) := by rw [HI.out, IntKind.wrap_u8]; unfold u; rw [UInt8.toNat_ofNat']; omega
          have HJL : Hid (joinL [y0, y1, y2] LL n (k + 1) = joinL [y0, y1, y2] LL n k ++ atL [y0, y1, y2] LL (UInt8.ofNat (k + 1)) n) := joinL_succ _ _ _ _
          have HLN : Hid ((joinL [y0, y1, y2] LL n k).length = k * n) := joinL_length _ _ _ _
          generalize UInt8.ofNat (k + 1) = xk at *
          go_wp2_with fail
          go_loopw [10, 12] (fun vo vi W => ∃ i : Nat, i ≤ n ∧ vi = .int .i64 i ∧ Hid (OwnB W W8.heap.size vo (joinL [y0, y1, y2] LL n k ++ atL [y0, y1, y2] LL xk i)) ∧ Hid (Below W8.heap.size W8 W)) (fun _ vi _ => n - (intOf vi).toNat)
          case atStart => exact ⟨0, Nat.zero_le _, rfl, by rw [Hid, atL]; simpa using HO.out, HW⟩
          case round =>
            clear HO HW
            obtain ⟨i, hi, rfl, HO, HW⟩ := hrel
            by_cases hlt : i < n
            · have j0 : (0 : Int) ≤ (i : Int) := by omega
              have j1 : (i : Int) < (n : Int) := by omega
              have q0 := fun W : World => HI0.out i W hlt
              have q1 := fun W : World => HI1.out i W hlt
              have q2 := fun W : World => HI2.out i W hlt
              have HKP : Hid (∀ W, Below wr.heap.size wr W → (W.cell? ⟨b, o + 1, none⟩ = some (.string S0) ∧ W.cell? ⟨b, o + 3, none⟩ = some (.string S1) ∧ W.cell? ⟨b, o + 5, none⟩ = some (.string S2)) ∧ Bytes W (some ⟨gx, 0, none⟩) [y0, y1, y2]) := fun W hb =>
                let h := HK8.out W (HW.out.trans (hb.mono HW.out.size)); ⟨h.1, h.2.1⟩
              obtain ⟨⟨k1a, k1b, k1c⟩, -⟩ := HKP.out wr (Below.refl _ _)
              have HAV : Hid (atV [y0, y1, y2] LL xk i = (Gf.atS [y0, y1, y2] [(bs S0).getD i 0, (bs S1).getD i 0, (bs S2).getD i 0] xk).1) := by
                rw [Hid, atV, HLT.out.1, HLT.out.2.1, HLT.out.2.2]
              have HZ : Hid (W8.heap.size ≤ wr.heap.size) := HW.out.size
              generalize (bs S0).getD i 0 = g0 at *
              generalize (bs S1).getD i 0 = g1 at *
              generalize (bs S2).getD i 0 = g2 at *
              go_wp2_with fail
              go_region_held3 (fun W => W.cell? ⟨b, o + 1, none⟩ = some (.string S0) ∧ W.cell? ⟨b, o + 3, none⟩ = some (.string S1) ∧ W.cell? ⟨b, o + 5, none⟩ = some (.string S2))
                (first
                  | exact (HKP.out _ (Below.refl _ _).drew).1
                  | exact (HKP.out _ ((Below.refl _ _).drew.alloc (Nat.le_refl _) _)).1
                  | exact (HKP.out _ (below_drewN ((Below.refl _ _).alloc (Nat.le_refl _) _) _)).1)
                (first | (go_at_call 19; refine (RAt_c _ _ _ _ _ _ _ [y0, y1, y2] [g0, g1, g2] xk _ (by rfl) (by rfl) (by simp) (by rfl) (HKP.out _ ((Below.refl _ _).drew.alloc (Nat.le_refl _) _)).2 (bytes_of_block (t := 5) (fr := (0, 0)) [g0, g1, g2] (heap_at _ _ _ rfl))).mono ?_; rintro e w' ⟨rfl, ⟨nd, rfl⟩⟩))
              all_goals
                refine world_gen (fun W => Below wr.heap.size wr W) (by first | exact below_drewN ((Below.refl _ _).drew.alloc (Nat.le_refl _) _) _ | exact below_drewN ((Below.refl _ _).alloc (Nat.le_refl _) _) _ | exact (Below.refl _ _).drew.alloc (Nat.le_refl _) _) (fun W9 h9 => ?_)
                have HO9 := Lib.hid (HO.out.below h9)
                have HB9 := Lib.hid (HW.out.trans (h9.mono HW.out.size))
                have HZ9 : Hid (W8.heap.size ≤ W9.heap.size) := Nat.le_trans HZ.out h9.size
                rw [← HAV.out]
                have HVA : Hid (joinL [y0, y1, y2] LL n k ++ atL [y0, y1, y2] LL xk (i + 1) = (joinL [y0, y1, y2] LL n k ++ atL [y0, y1, y2] LL xk i) ++ [atV [y0, y1, y2] LL xk i]) := by rw [Hid, atL_succ, List.append_assoc]
                generalize atV [y0, y1, y2] LL xk i = vb at *
                clear h9 k1a k1b k1c q0 q1 q2
                go_wp2_with (refine wpList_append_bytes _ (by rfl) (.tmp 84) (.tmp 86) (by rfl) W8.heap.size _ _ (by rfl) (HO9.out.alloc _) _ 1 1 [vb] (by rfl) (bytes_of_block (t := 5) (fr := (0, 0)) [vb] (heap_at _ _ _ rfl)) (by rfl) (by rw [List.length_append, HLN.out, atL_length]; have := HN.out; have h := Nat.mul_le_mul (Nat.le_of_lt h3) this.2; omega) (by rw [World.size_alloc]; exact Nat.le_succ_of_le HZ9.out) ?_; intro v' w' hown' hg' hat')
                have hbl : Below W8.heap.size W8 w' := HB9.out.trans (((Below.refl _ _).alloc HZ9.out _).trans (below_grown (HO9.out.alloc _) hg' (by rw [World.size_alloc]; exact Nat.le_succ_of_le HZ9.out)))
                exact ⟨⟨i + 1, by omega, by go_num, by rw [Hid, HVA.out]; exact hown', hbl⟩, by simp [intOf]; omega⟩
            · obtain rfl : i = n := by omega
              have HO2 : Hid (OwnB wr W8.heap.size u10 (joinL [y0, y1, y2] LL i (k + 1))) := by rw [Hid, HJL.out]; exact HO.out
              go_wp2_with fail
              rw [e1]
              exact ⟨⟨k + 1, _, by omega, rfl, rfl, HO2, HW⟩, by rw [HI.out]; simp [intOf]; omega⟩
        · obtain rfl : k = 3 := by omega
          obtain rfl : I = 4 := HI.out
          clear HI
          have HB9 := Lib.hid ((HK8.out wr HW.out).2.2)
          have hlen : (joinL [y0, y1, y2] LL n 3).length = 3 * n := by rw [joinL_length]
          rcases HO.out.2 with ⟨rfl, hx0⟩ | ⟨g, cap, cur, rfl, hb, hh, hle, hcap, _⟩
          · have hn0 : 3 * n = 0 := by rw [← hlen]; exact hx0
            obtain rfl : n = 0 := by omega
            obtain rfl : m = 0 := by have := HN.out; omega
            have hcv := str_nil wr
            have HE4 : Hid (J = (⟨([] : List UInt8).toArray⟩, 0)) := by rw [Hid, HEX.out, List.take_zero]
            clear hx0 hn0 hlen
            go_wp2_with fail
            go_ret2
            exact ⟨by rw [HE4.out]; rfl, HB9.out⟩
          · have hcv := str_of_bytes g 0 m cap ((joinL [y0, y1, y2] LL n 3).take m) wr (by rw [List.length_take, hlen]; have := HN.out; omega) (fun i h => by
              rw [List.length_take] at h
              have hi : i < (joinL [y0, y1, y2] LL n 3).length := by omega
              have := World.ownsRow.cells HO.out rfl i _ (by rw [List.getElem?_eq_getElem (by rw [vals_length]; exact hi), vals_get _ i hi])
              rw [add_zero_block] at this
              rw [Nat.zero_add, this, List.getElem_take])
            have m0 : (0 : Int) ≤ (m : Int) := by omega
            have m1 : (m : Int) ≤ 3 * (n : Int) := by have := HN.out; omega
            have m2 : (m : Int) ≤ (cap : Int) := by rw [hlen] at hle; omega
            have m3 : m ≤ cap := by omega
            rw [hlen]
            generalize (⟨((joinL [y0, y1, y2] LL n 3).take m).toArray⟩ : ByteArray) = Z at *
            clear hlen hh hb
            go_wp2_with fail
            go_ret2
            exact ⟨by rw [HEX.out]; rfl, HB9.out⟩
  · have t1 : (er != 0) = true := by simpa using c1
    have HE := Lib.hid (HJE.out acc er hp c1)
    clear c1 hp hpt ha3 he0 hq HJO HJE
    go_wp2
    go_ret2
    exact ⟨by rw [HE.out]; rfl, HB.out⟩

theorem RJoinP_c (A : Option Addr) (n c : Nat) (L : List Pt) (z : Int) (w : World) (hn : n = L.length) (hl : L.length ≤ 1000000000) (hL : Pts w A L) :
    Calls Try.prog 17 #[.slice A n c, .int .i64 z] w fun e w' => e = .returned (.tuple #[.string (joinV L z).1, .int .i64 (joinV L z).2]) ∧ Below w.heap.size w w' := by
  subst hn
  by_cases h : z < 0 ∨ 65536 < z
  · have e : joinV L z = (ByteArray.empty, 2) := if_pos h
    rw [e]
    exact RJoinP_range A _ c z w h
  · exact RJoinP_in A c L z w hl hL h

end Go.Proofs.Ytmnnhmbolbepcaa
