/- The walk of parity.Join. -/
import Derived.Test.YtmnnhmbolbepcaaParPick
namespace Go.Proofs.Ytmnnhmbolbepcaa
open Go.RowKit
set_option linter.unusedSimpArgs false

attribute [local go_sem ↓] partLoad_pre

/-- the rows of a joined text, as many as have come -/
noncomputable def joinL (xs : List UInt8) (LL : Nat → List UInt8) (n k : Nat) : List UInt8 := ((List.range k).map fun x => atL xs LL (UInt8.ofNat (x + 1)) n).flatten
theorem joinL_succ (xs : List UInt8) (LL : Nat → List UInt8) (n k : Nat) : joinL xs LL n (k + 1) = joinL xs LL n k ++ atL xs LL (UInt8.ofNat (k + 1)) n := by simp [joinL, List.range_succ]
theorem joinL_length (xs : List UInt8) (LL : Nat → List UInt8) (n k : Nat) : (joinL xs LL n k).length = k * n := by
  induction k with
  | zero => simp [joinL]
  | succ k ih => rw [joinL_succ, List.length_append, ih, atL_length, Nat.add_mul, Nat.one_mul]

set_option maxRecDepth 100000 in
set_option maxHeartbeats 1000000 in
theorem PJoin_range (A : Option Addr) (n c : Nat) (z : Int) (w : World) (hz : z < 0 ∨ 65536 < z) :
    Calls Try.prog 16 #[.slice A n c, .int .i64 z] w fun e w' => e = .returned (.tuple #[.string ByteArray.empty, .int .i64 2]) ∧ Below w.heap.size w w' := by
  by_cases h : z < 0
  · have f1 : decide (z < 0) = true := by simpa using h
    clear h hz
    go_enter Try.func16, Try.ntmps16
    go_wp2
    go_ret2
    exact ⟨rfl, Below.refl _ _⟩
  · have f1 : decide (z < 0) = false := by simpa using h
    have f2 : decide (65536 < z) = true := by simp; omega
    clear h hz
    go_enter Try.func16, Try.ntmps16
    go_wp2
    go_ret2
    exact ⟨rfl, Below.refl _ _⟩

set_option maxRecDepth 100000 in
set_option maxHeartbeats 4000000 in
theorem PJoin_in (A : Option Addr) (c : Nat) (L : List Pt) (z : Int) (w : World) (hl : L.length ≤ 1000000000) (hL : Pts w A L) (hz : ¬ (z < 0 ∨ 65536 < z)) :
    Calls Try.prog 16 #[.slice A L.length c, .int .i64 z] w fun e w' => e = .returned (.tuple #[.string (joinV L z).1, .int .i64 (joinV L z).2]) ∧ Below w.heap.size w w' := by
  obtain ⟨m, hm⟩ : ∃ m : Nat, z = (m : Int) := ⟨z.toNat, by omega⟩
  subst hm
  have f1 : decide ((m : Int) < 0) = false := by simp
  have f2 : decide (65536 < (m : Int)) = false := by simp; omega
  obtain ⟨n, hn⟩ : ∃ n, n = rowsN m := ⟨_, rfl⟩
  have hn2 : m ≤ 3 * n ∧ n ≤ 30000 := by rw [hn]; unfold rowsN; omega
  have HRW : Hid (∀ W : World, Calls Try.prog 13 #[.int .i64 (m : Int)] W fun e w' => e = .returned (.int .i64 (n : Int)) ∧ W = w') := fun W => by
    have h := Rows_c (m : Int) (by omega) W
    rw [rowsZ_nat, ← hn] at h
    exact h
  have HJE : Hid (∀ acc e, pickL n [] L = (acc, e) → e ≠ 0 → joinV L (m : Int) = (ByteArray.empty, e)) := fun acc e h he => joinV_err hz (by rw [Int.toNat_natCast, ← hn]; exact h) he
  have HJO : Hid (∀ acc, pickL n [] L = (acc, 0) → joinV L (m : Int) = (⟨((atL (acc.map num) (fun t => bs (acc.getD t (0, ByteArray.empty)).2) 1 n ++ atL (acc.map num) (fun t => bs (acc.getD t (0, ByteArray.empty)).2) 2 n ++ atL (acc.map num) (fun t => bs (acc.getD t (0, ByteArray.empty)).2) 3 n).take m).toArray⟩, 0)) := fun acc h => by
    have := joinV_ok hz (by rw [Int.toNat_natCast, ← hn]; exact h)
    rw [Int.toNat_natCast, ← hn] at this
    exact this
  generalize joinV L (m : Int) = J at *
  have HN := Lib.hid hn2
  have HL := Lib.hid hL
  have HLL := Lib.hid hl
  clear hn hn2 hL hl hz
  go_enter Try.func16, Try.ntmps16
  go_wp2_with (first
    | (go_at_call 13; refine (HRW.out _).mono ?_; rintro e w9 ⟨rfl, rfl⟩)
    | refine wpList_alloc_run (by rfl) 50 (by rfl) _ (met_alloc _) ?_)
  have H0 : Hid (JI w (w.alloc (.cells (metL []).toArray 50)) w.heap.size (metL []) (.slice none 0 0) [] (.slice none 0 0) [] []) :=
    ⟨heap_at _ _ _ rfl, OwnB.nil _ _, World.ownsRow_nil _ _ _ _, fun g e => (by cases e), fun t h => absurd h (by simp), (Below.refl _ _).alloc (Nat.le_refl _) _⟩
  have n0 : (0 : Int) ≤ (n : Int) := by omega
  have n1 : (n : Int) ≤ 30000 := by have := HN.out; omega
  go_loopw [8, 9, 24] (fun xv rv vi W => ∃ (i : Nat) (vs : List Value) (acc : List Pt), i ≤ L.length ∧ acc.length ≤ 3 ∧ vi = .int .i64 i ∧ Hid (pickL n [] L = pickL n acc (L.drop i)) ∧ Hid (∀ q ∈ acc, q.2.size = n) ∧ Hid (JI w W w.heap.size (metL acc) xv (acc.map num) rv vs acc)) (fun _ _ vi _ => L.length - (intOf vi).toNat)
  case atStart => exact ⟨0, [], [], Nat.zero_le _, by simp, rfl, rfl, fun q h => absurd h (by simp), H0⟩
  case round =>
    clear H0
    obtain ⟨i, vs, acc, hi, ha3, rfl, HP, HQ, HJ⟩ := hrel
    obtain ⟨Ax, cx, e1, -, -, -⟩ := HJ.out.xs.form
    rw [List.length_map] at e1
    subst e1
    by_cases hlt : i < L.length
    · have i0 : (0 : Int) ≤ (i : Int) := by omega
      have i1 : (i : Int) < (L.length : Int) := by omega
      have i2 : (i : Int) < 1000000000 := by have := HLL.out; omega
      obtain ⟨b, o, e2, h1, h2⟩ := (HL.out.below HJ.out.b).at_ i hlt
      subst e2
      have k1 := partLoad_at (W := wr) (p := L[i]) h1 h2
      have HD := Lib.hid (drop_cons L i hlt)
      clear h1 h2
      generalize L[i] = p at *
      obtain ⟨pi, pd⟩ := p
      replace k1 : (partLoad (.pointer (some ⟨b, o + i * 2, none⟩))).run Try.prog wr = .ok (.agg #[.int .i64 pi, .string pd]) wr := k1
      replace HD : Hid (L.drop i = (pi, pd) :: L.drop (i + 1)) := HD
      by_cases c1 : acc.length = 3
      · have t1 : ((acc.length : Int) == 3) = true := by rw [c1]; rfl
        have HC1 := Lib.hid c1
        clear c1
        go_wp2
        have HJ3 := Lib.hid (HJ.out.below ((Below.refl _ _).alloc (Nat.le_refl _) (.cells #[.int .i64 pi, .string pd] 30)))
        exact ⟨⟨i + 1, vs, acc, by omega, ha3, by go_num, by rw [Hid, HP.out, pick_full _ _ _ HC1.out, pick_full _ _ _ HC1.out], HQ, HJ3.out⟩, by simp [intOf]; omega⟩
      · have t1 : ((acc.length : Int) == 3) = false := by simp; omega
        have HC1 := Lib.hid c1
        clear c1
        have HB3 : Hid (Below wr.heap.size wr (wr.alloc (.cells #[.int .i64 pi, .string pd] 30))) := (Below.refl _ _).alloc (Nat.le_refl _) _
        have HJ3 := Lib.hid (HJ.out.below HB3.out)
        by_cases c2 : pi < 1 ∨ 5 < pi
        · have HE : Hid (J = (ByteArray.empty, 1)) := HJE.out acc 1 (by rw [HP.out, HD.out, pickL, if_neg HC1.out, if_pos c2]) (by omega)
          by_cases c3 : pi < 1
          · have t2 : decide (pi < 1) = true := by simpa using c3
            clear c2 c3
            go_wp2
            go_ret2
            exact ⟨by rw [HE.out]; rfl, HJ3.out.b⟩
          · have t2 : decide (pi < 1) = false := by simpa using c3
            have t3 : decide (5 < pi) = true := by simp; omega
            clear c2 c3
            go_wp2
            go_ret2
            exact ⟨by rw [HE.out]; rfl, HJ3.out.b⟩
        · have t2 : decide (pi < 1) = false := by simp; omega
          have t3 : decide (5 < pi) = false := by simp; omega
          obtain ⟨k, rfl⟩ : ∃ k : Nat, pi = (k : Int) := ⟨pi.toNat, by omega⟩
          have hk1 : 1 ≤ k ∧ k ≤ 5 := by omega
          have HK1 := Lib.hid hk1
          have HC2 := Lib.hid c2
          have kk0 : (0 : Int) ≤ (k : Int) := by omega
          have kk1 : (k : Int) < 6 := by omega
          have cm : (wr.alloc (.cells #[.int .i64 (k : Int), .string pd] 30)).cell? ⟨w.heap.size, k, none⟩ = some (.bool (acc.any (fun q => decide (q.1 = (k : Int))))) := by
            rw [cell_of_row _ _ _ _ _ _ HJ3.out.met, List.getElem?_toArray, metL_get _ _ (by omega)]
          have fm := frozen_of_row _ w.heap.size k _ _ HJ3.out.met
          clear c2 hk1
          by_cases c4 : acc.any (fun q => decide (q.1 = (k : Int))) = true
          · rw [c4] at cm
            have HC4 := Lib.hid c4
            clear c4
            go_wp2
            exact ⟨⟨i + 1, vs, acc, by omega, ha3, by go_num, by rw [Hid, HP.out, HD.out, pickL, if_neg HC1.out, if_neg HC2.out, if_pos HC4.out], HQ, HJ3.out⟩, by simp [intOf]; omega⟩
          · have c5 : acc.any (fun q => decide (q.1 = (k : Int))) = false := Bool.eq_false_iff.2 c4
            rw [c5] at cm
            have HC4 := Lib.hid c4
            clear c4 c5
            by_cases c6 : pd.size = n
            · have t4 : ((pd.size : Int) != (n : Int)) = false := by rw [c6]; simp
              have HC6 := Lib.hid c6
              have HJ4 := Lib.hid (HJ3.out.setMet k rfl)
              have HMS : Hid ((metL acc).set k (.bool true) = metL (acc ++ [((k : Int), pd)])) := metL_set acc ((k : Int), pd) k rfl
              have hgm := lt_of_block HJ.out.met
              have HGM := Lib.hid hgm
              have b0 : ((wr.alloc (.cells #[.int .i64 (k : Int), .string pd] 30)).setCell ⟨w.heap.size, k, none⟩ (.bool true)).cell? ⟨wr.heap.size, 0, none⟩ = some (.int .i64 (k : Int)) :=
                (World.cell?_setCell_other _ _ _ _ (fun e => by injection e with e e'; omega)).trans ((cell_of_row _ _ _ _ _ _ (heap_at wr (.cells #[.int .i64 (k : Int), .string pd] 30) _ rfl)).trans rfl)
              have b1 : ((wr.alloc (.cells #[.int .i64 (k : Int), .string pd] 30)).setCell ⟨w.heap.size, k, none⟩ (.bool true)).cell? ⟨wr.heap.size, 1, none⟩ = some (.string pd) :=
                (World.cell?_setCell_other _ _ _ _ (fun e => by injection e with e e'; omega)).trans ((cell_of_row _ _ _ _ _ _ (heap_at wr (.cells #[.int .i64 (k : Int), .string pd] 30) _ rfl)).trans rfl)
              have HS4 : Hid (((wr.alloc (.cells #[.int .i64 (k : Int), .string pd] 30)).setCell ⟨w.heap.size, k, none⟩ (.bool true)).heap.size = wr.heap.size + 1) := by
                show ((wr.alloc _).heap.modify _ _).size = _
                rw [Array.size_modify]; simp
              have ex : IntKind.u8.wrap (k : Int) = u (UInt8.ofNat k) := by rw [IntKind.wrap_u8]; unfold u; rw [UInt8.toNat_ofNat']; omega
              obtain ⟨bw, cp, hbw⟩ : ∃ (bw : World → World) (cp : World → Nat), ∀ W : World, (convert 9 28 (.string pd)).run Try.prog W = .ok (.slice (some ⟨W.heap.size, 0, none⟩) pd.size (cp W)) (bw W) ∧ Below W.heap.size W (bw W) ∧
                  (∀ P : Nat → Prop, P W.heap.size → BytesN P (bw W) (some ⟨W.heap.size, 0, none⟩) (bs pd)) := ⟨fun W => Lib.bytesWorld W 5 pd, fun W => grownCap W pd.size 0 5, fun W => ⟨str_bytes W pd, bytesWorld_below W pd, fun P hP => bytesWorld_bytes W pd hP⟩⟩
              have hcv := fun W : World => (hbw W).1
              have HBW := Lib.hid (fun W : World => (hbw W).2)
              clear hbw
              have HVL : Hid (vs.length = acc.length) := by have := HJ.out.rows.1; rw [Hid]; omega
              have HXL : Hid ((acc.map num).length = acc.length) := List.length_map _
              clear c6 hgm
              go_wp2_with (first
                | (refine wpList_append_bytes _ (by rfl) (.tmp 31) (.tmp 35) (by rfl) (w.heap.size + 1) _ (acc.map num) (by rfl) (HJ4.out.xs.alloc _) _ 1 1 [UInt8.ofNat k] (by rfl) (bytes_of_block (t := 5) (fr := (0, 0)) [UInt8.ofNat k] (heap_at _ _ (wr.heap.size + 1) (by rw [HS4.out]))) (by rfl) (by rw [HXL.out]; omega) (by rw [World.size_alloc, HS4.out]; have := HGM.out; omega) ?_
                   intro v' w5 hown' hg' hat'
                   have HJ5 := Lib.hid ((HJ4.out.below ((Below.refl _ _).alloc (Nat.le_refl _) _)).xs' hown' hg' hat')
                   have b5 : w5.cell? ⟨wr.heap.size, 1, none⟩ = some (.string pd) := (cell_same (hg'.block _ (by rw [World.size_alloc, HS4.out]; show wr.heap.size < _; omega) (fun e => by have := (World.ownsRow.lt HJ.out.xs _ e.symm).2; have e2 : wr.heap.size < wr.heap.size := this; omega))).trans ((cell_same (Below.heap_alloc _ _ _ (by rw [HS4.out]; show wr.heap.size < _; omega))).trans b1)
                   clear hown' hg' hat')
                | (refine wpList_append_row _ (by rfl) (.tmp 37) (.tmp 41) (by rfl) (w.heap.size + 1) _ vs (by rfl) (World.ownsRow.alloc (by rw [HVL.out]; exact (HJ5.out.below (HBW.out w5).1).rows) _) (bw w5).heap.size _ _ _ _ (by rfl) (heap_at _ _ _ rfl) (by rw [HVL.out]; omega) (by rw [World.size_alloc]; have h1 := (HBW.out w5).1.size; have h2 := lt_of_block HJ5.out.met; omega) ?_; intro v'' w6 hown'' hg'' hat''))
              have hd : BytesN (fun j => w.heap.size < j ∧ v'.ownBlock ≠ some j ∧ u9.ownBlock ≠ some j) (bw w5) (some ⟨w5.heap.size, 0, none⟩) (bs pd) :=
                (HBW.out w5).2 _ ⟨lt_of_block HJ5.out.met, fun e => by have := (World.ownsRow.lt HJ5.out.xs _ e).2; omega, fun e => by have := (World.ownsRow.lt HJ5.out.rows _ e).2; omega⟩
              have HJ7 := Lib.hid (((HJ5.out.below (HBW.out w5).1).below ((Below.refl _ _).alloc (Nat.le_refl _) _)).rows' (p := ((k : Int), pd)) (hd.below ((Below.refl _ _).alloc (Nat.le_refl _) _)) hown'' hg'' hat'')
              exact ⟨⟨i + 1, _, acc ++ [((k : Int), pd)], by omega, by rw [List.length_append, List.length_singleton]; have := HC1.out; omega, by go_num,
                by rw [Hid, HP.out, HD.out, pickL, if_neg HC1.out, if_neg HC2.out, if_neg HC4.out, if_pos HC6.out],
                fun q hq => by
                  rcases List.mem_append.1 hq with hq | hq
                  · exact HQ.out q hq
                  · simp at hq; subst hq; exact HC6.out,
                by rw [Hid, ← HMS.out, List.map_append]; exact HJ7.out⟩, by simp [intOf]; omega⟩
            · have t4 : ((pd.size : Int) != (n : Int)) = true := by simp; omega
              have HE : Hid (J = (ByteArray.empty, 3)) := HJE.out acc 3 (by rw [HP.out, HD.out, pickL, if_neg HC1.out, if_neg HC2.out, if_neg HC4.out, if_neg c6]) (by omega)
              clear c6
              go_wp2
              go_ret2
              exact ⟨by rw [HE.out]; rfl, HJ3.out.b⟩
    · obtain rfl : i = L.length := by omega
      have hp : pickL n [] L = (acc, if acc.length < 3 then 4 else 0) := by rw [HP.out, List.drop_length, pickL]
      by_cases c1 : acc.length < 3
      · have t1 : decide ((acc.length : Int) < 3) = true := by simp; omega
        rw [if_pos c1] at hp
        have HE : Hid (J = (ByteArray.empty, 4)) := HJE.out acc 4 hp (by omega)
        clear hp c1
        go_wp2
        go_ret2
        exact ⟨by rw [HE.out]; rfl, HJ.out.b⟩
      · have t1 : decide ((acc.length : Int) < 3) = false := by simp; omega
        rw [if_neg c1] at hp
        have ha : acc.length = 3 := by omega
        have HE := Lib.hid (HJO.out acc hp)
        obtain ⟨rb, rc, rfl, hrb1, hrb2⟩ := HJ.out.rows.form (by omega)
        have hvl : vs.length = acc.length := by have := HJ.out.rows.1; omega
        have hrow : ∀ t v, vs[t]? = some v → wr.cell? ⟨rb, 0 + t, none⟩ = some v := fun t v h => by
          have := World.ownsRow.cells HJ.out.rows rfl t v h
          rw [add_zero_block] at this
          rw [Nat.zero_add]; exact this
        obtain ⟨A0, c0, d0, g0⟩ := HJ.out.dat 0 (by omega)
        obtain ⟨A1, c1', d1, g1⟩ := HJ.out.dat 1 (by omega)
        obtain ⟨A2, c2, d2, g2⟩ := HJ.out.dat 2 (by omega)
        have hs : ∀ t (h : t < acc.length), acc[t].2.size = n := fun t h => HQ.out _ (List.getElem_mem h)
        have hgt : ∀ t (h : t < acc.length), acc.getD t (0, ByteArray.empty) = acc[t] := fun t h => by rw [List.getD_eq_getElem?_getD, List.getElem?_eq_getElem h]; rfl
        have lower : ∀ {P : Nat → Prop} {A : Option Addr} {l : List UInt8}, BytesN P wr A l → BytesN (· < wr.heap.size) wr A l := fun h => h.change (fun k hk _ => ⟨hk, rfl⟩)
        rw [hs 0 (by omega)] at d0
        rw [hs 1 (by omega)] at d1
        rw [hs 2 (by omega)] at d2
        have HRI : Hid (RI wr.heap.size wr rb 0 n (fun t => if t = 0 then A0 else if t = 1 then A1 else A2) (fun t => if t = 0 then c0 else if t = 1 then c1' else c2) (fun t => bs (acc.getD t (0, ByteArray.empty)).2)) := by
          refine ⟨hrb2, fun t ht => ?_, fun t ht => ?_, fun t ht => ?_⟩
          · match t, ht with
            | 0, _ => exact hrow 0 _ d0
            | 1, _ => exact hrow 1 _ d1
            | 2, _ => exact hrow 2 _ d2
          · rw [bs_length, hgt t (by omega)]; exact hs t (by omega)
          · match t, ht with
            | 0, _ => rw [hgt 0 (by omega)]; exact lower g0
            | 1, _ => rw [hgt 1 (by omega)]; exact lower g1
            | 2, _ => rw [hgt 2 (by omega)]; exact lower g2
        obtain ⟨Ax', cx', e1, -, hxb, -⟩ := HJ.out.xs.form
        rw [List.length_map] at e1
        injection e1 with e1 _ e3
        subst e1 e3
        have HXB := Lib.hid hxb
        have HXL : Hid ((acc.map num).length = 3) := by rw [Hid, List.length_map]; exact ha
        have HB := Lib.hid HJ.out.b
        clear hp c1 hrow d0 d1 d2 g0 g1 g2 hs hgt lower hrb1 hrb2 hvl HJ HP HQ hxb HJE HJO
        generalize (fun t => if t = 0 then A0 else if t = 1 then A1 else A2) = AA at *
        generalize (fun t => if t = 0 then c0 else if t = 1 then c1' else c2) = CC at *
        generalize (fun t => bs (acc.getD t (0, ByteArray.empty)).2) = LL at *
        generalize acc.map num = xs at *
        rw [ha]
        rw [ha] at t1
        clear ha ha3
        go_wp2_with fail
        obtain ⟨W2, hW2⟩ : ∃ W2, W2 = wr := ⟨_, rfl⟩
        subst hW2
        go_loopw [12, 71] (fun vo vx W => ∃ (x : Nat) (I : Int), x ≤ 3 ∧ vx = .int .i64 I ∧ Hid (I = (x : Int)) ∧ Hid (OwnB W W2.heap.size vo (joinL xs LL n x)) ∧ Hid (Below W2.heap.size W2 W)) (fun _ vx _ => 3 - (intOf vx).toNat)
        case atStart => exact ⟨0, 0, by omega, rfl, rfl, OwnB.nil _ _, Below.refl _ _⟩
        case round =>
          obtain ⟨x, I, hx, rfl, HI, HO, HW⟩ := hrel
          by_cases h3 : x < 3
          · obtain rfl : I = (x : Int) := HI.out
            clear HI
            have x0 : (0 : Int) ≤ (x : Int) := by omega
            have x1 : (x : Int) < 3 := by omega
            have ex : IntKind.u8.wrap ((x : Int) + 1) = u (UInt8.ofNat (x + 1)) := by rw [IntKind.wrap_u8]; unfold u; rw [UInt8.toNat_ofNat']; omega
            have HJL : Hid (joinL xs LL n (x + 1) = joinL xs LL n x ++ atL xs LL (UInt8.ofNat (x + 1)) n) := joinL_succ _ _ _ _
            have HRI2 := Lib.hid (HRI.out.below HW.out)
            have HXB2 := Lib.hid (HXB.out.below HW.out)
            have HZ : Hid (W2.heap.size ≤ wr.heap.size) := HW.out.size
            generalize UInt8.ofNat (x + 1) = xk at *
            go_wp2_with (first
              | (go_at_call 18
                 refine (ParAt_c _ _ _ _ _ n _ _ _ xs xk _ HXL.out HXB2.out HRI2.out.rows3 (by have := HN.out; omega)).mono ?_
                 rintro e w7 ⟨rfl, hb7, hbel7⟩
                 have HO7 := Lib.hid (HO.out.below hbel7))
              | (refine wpList_append_bytes _ (by rfl) (.tmp 74) (.tmp 80) (by rfl) W2.heap.size _ (joinL xs LL n x) (by rfl) HO7.out _ n n (atL xs LL xk n) (by rfl) (bytes_of_block (t := 5) (fr := (0, 0)) _ hb7) (atL_length _ _ _ _).symm (by rw [joinL_length]; have := HN.out; have h := Nat.mul_le_mul (Nat.le_of_lt h3) this.2; omega) (Nat.le_trans HZ.out hbel7.size) ?_; intro v' w' hown' hg' hat'))
            have hbl : Below W2.heap.size W2 w' := HW.out.trans ((hbel7.mono HZ.out).trans (below_grown HO7.out hg' (Nat.le_trans HZ.out hbel7.size)))
            exact ⟨⟨x + 1, _, by omega, rfl, by go_num, by rw [Hid, HJL.out]; exact hown', hbl⟩, by simp [intOf]; omega⟩
          · obtain rfl : x = 3 := by omega
            obtain rfl : I = 3 := HI.out
            clear HI
            have HB9 := Lib.hid (HB.out.trans (HW.out.mono HB.out.size))
            have hj3 : joinL xs LL n 3 = atL xs LL 1 n ++ atL xs LL 2 n ++ atL xs LL 3 n := by simp [joinL, List.range_succ]
            have HE3 : Hid (J = (⟨((joinL xs LL n 3).take m).toArray⟩, 0)) := by rw [Hid, hj3]; exact HE.out
            have hlen : (joinL xs LL n 3).length = 3 * n := by rw [joinL_length]
            clear hj3 HE
            rcases HO.out.2 with ⟨rfl, hx0⟩ | ⟨g, cap, cur, rfl, hb, hh, hle, hcap, _⟩
            · have hn0 : 3 * n = 0 := by rw [← hlen]; exact hx0
              obtain rfl : n = 0 := by omega
              obtain rfl : m = 0 := by have := HN.out; omega
              have hcv := str_nil wr
              have HE4 : Hid (J = (⟨([] : List UInt8).toArray⟩, 0)) := by rw [Hid, HE3.out, List.take_zero]
              clear hx0 hn0 hlen
              go_wp2_with fail
              go_ret2
              exact ⟨by rw [HE4.out]; rfl, HB9.out⟩
            · have hcv := str_of_bytes g 0 m cap ((joinL xs LL n 3).take m) wr (by rw [List.length_take, hlen]; have := HN.out; omega) (fun i h => by
                rw [List.length_take] at h
                have hi : i < (joinL xs LL n 3).length := by omega
                have := World.ownsRow.cells HO.out rfl i _ (by rw [List.getElem?_eq_getElem (by rw [vals_length]; exact hi), vals_get _ i hi])
                rw [add_zero_block] at this
                rw [Nat.zero_add, this, List.getElem_take])
              have m0 : (0 : Int) ≤ (m : Int) := by omega
              have m1 : (m : Int) ≤ 3 * (n : Int) := by have := HN.out; omega
              have m2 : (m : Int) ≤ (cap : Int) := by rw [hlen] at hle; omega
              have m3 : m ≤ cap := by omega
              rw [hlen]
              generalize (⟨((joinL xs LL n 3).take m).toArray⟩ : ByteArray) = Z at *
              clear hlen hh hb
              go_wp2_with fail
              go_ret2
              exact ⟨by rw [HE3.out]; rfl, HB9.out⟩

theorem PJoin_c (A : Option Addr) (n c : Nat) (L : List Pt) (z : Int) (w : World) (hn : n = L.length) (hl : L.length ≤ 1000000000) (hL : Pts w A L) :
    Calls Try.prog 16 #[.slice A n c, .int .i64 z] w fun e w' => e = .returned (.tuple #[.string (joinV L z).1, .int .i64 (joinV L z).2]) ∧ Below w.heap.size w w' := by
  subst hn
  by_cases h : z < 0 ∨ 65536 < z
  · have e : joinV L z = (ByteArray.empty, 2) := if_pos h
    rw [e]
    exact PJoin_range A _ c z w h
  · exact PJoin_in A c L z w hl hL h

end Go.Proofs.Ytmnnhmbolbepcaa
