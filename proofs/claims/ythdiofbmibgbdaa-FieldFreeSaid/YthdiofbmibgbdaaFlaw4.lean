/- The walk of FieldFree. -/
import Derived.Test.YthdiofbmibgbdaaFlaw2
import Derived.Deep.DeepMust
namespace Go.Proofs.Ythdiofbmibgbdaa
open Go.RowKit

/-- the places of FieldFree -/
def fp (x : UInt8) (i : Nat) : UInt8 := x + 1 + UInt8.ofNat i
theorem u_fp (x : UInt8) (i : Nat) : ((u x + 1) % 256 + (i : Int)) % 256 = u (fp x i) := by
  show _ = ((x + 1 + UInt8.ofNat i).toNat : Int)
  rw [UInt8.toNat_add, UInt8.toNat_add, UInt8.toNat_ofNat']
  unfold u
  show _ = ((((x.toNat + 1) % 256 + i % 2 ^ 8) % 256 : Nat) : Int)
  omega
def fps (x : UInt8) (n : Nat) : List UInt8 := (List.range n).map (fp x)
theorem fps_succ (x : UInt8) (n : Nat) : fps x (n + 1) = fps x n ++ [fp x n] := by simp [fps, List.range_succ]
theorem fps_length (x : UInt8) (n : Nat) : (fps x n).length = n := by simp [fps]
theorem fp_inj (x : UInt8) (i j : Nat) (hi : i < 30) (hj : j < 30) (h : fp x i = fp x j) : i = j := by
  have h1 := u_fp x i
  have h2 := u_fp x j
  rw [h, ← h2] at h1
  omega
theorem fp_ne (x : UInt8) (i : Nat) (hi : i < 30) : fp x i ≠ x := fun e => by
  have h1 := u_fp x i
  have h2 := u_lo x
  have h3 := u_hi x
  rw [e] at h1
  omega
theorem fall_nodup (x : UInt8) (n : Nat) (hn : n ≤ 12) : (x :: fps x n).Nodup := by
  rw [List.nodup_cons]
  constructor
  · intro h
    obtain ⟨i, hi, e⟩ := List.mem_map.1 h
    rw [List.mem_range] at hi
    exact fp_ne x i (by omega) e
  · unfold fps
    rw [List.Nodup, List.pairwise_map]
    refine List.Pairwise.imp_of_mem ?_ List.nodup_range
    intro i j hi hj hne e
    rw [List.mem_range] at hi hj
    exact hne (fp_inj x i j (by omega) (by omega) e)
theorem free_at (x y : UInt8) (ys : List UInt8) (hn : ys.length ≤ 12) (i : Nat) (hi : i < (x :: fps x ys.length).length) (hj : i < (y :: ys).length) :
    Gf.atS (x :: fps x ys.length) (y :: ys) (x :: fps x ys.length)[i] = ((y :: ys)[i], true) := by
  have hl : (x :: fps x ys.length).length = (y :: ys).length := by simp [fps_length]
  rw [Gf.atS_yes _ hl (fall_nodup x _ hn), Gf.lag_at (fall_nodup x _ hn) hl i hi hj]
theorem free_twice (x y : UInt8) (ys : List UInt8) : Gf.atS (x :: fps x ys.length ++ [x]) (y :: ys ++ [y]) 0 = (0, false) :=
  Gf.atS_no _ (fun h => by
    rw [List.cons_append, List.nodup_cons] at h
    exact h.1 (by simp))
theorem free_odd (x : UInt8) (ys : List UInt8) : Gf.atS (x :: fps x ys.length) ys 0 = (0, false) := Gf.atS_odd _ (by simp [fps_length])

set_option maxRecDepth 100000 in
set_option maxHeartbeats 1000000 in
theorem FieldFree_w (A : Option Addr) (n c : Nat) (ys : List UInt8) (x y : UInt8) (w : World) (hn : n = ys.length) (hl : Bytes w A ys) :
    Calls Try.prog 7 #[.slice A n c, .int .u8 (u x), .int .u8 (u y)] w fun e w' => e = .returned (.bool true) ∧ Below w.heap.size w w' := by
  subst hn
  by_cases h1 : 12 < ys.length
  · have g1 : (12 : Int) < (ys.length : Int) := by omega
    go_enter Try.func7, Try.ntmps7
    go_wp2_with fail
    refine (Alive_c _).mono ?_
    rintro e w1 ⟨rfl, hb⟩
    go_wp2_with fail
    go_ret
    exact ⟨rfl, hb⟩
  · have g1 : decide ((12 : Int) < (ys.length : Int)) = false := by simp; omega
    have HF := Lib.hid (free_at x y ys (by omega))
    have HT := Lib.hid (free_twice x y ys)
    have HO := Lib.hid (free_odd x ys)
    have HL := Lib.hid hl
    clear hl
    go_enter Try.func7, Try.ntmps7
    go_wp2_with fail
    refine (Alive_c _).mono ?_
    rintro e w1 ⟨rfl, hb⟩
    have HB := Lib.hid hb
    clear hb
    go_wp2_with fail
    go_loopw [7, 27] (fun vx vi w' => ∃ i : Nat, i ≤ ys.length ∧ vi = .int .i64 i ∧ Two w w' vx (fps x i) (.slice none 0 0) []) (fun _ vi _ => ys.length - (intOf vi).toNat)
    case atStart => exact ⟨0, Nat.zero_le _, rfl, Two.start HB.out⟩
    case round =>
      obtain ⟨i, hi, rfl, ht⟩ := hrel
      have HT1 := Lib.hid ht
      clear ht
      by_cases hlt : i < ys.length
      · have hu := u_lo x
        have hu2 := u_hi x
        have e7 := u_fp x i
        go_wp2_with (at_builtin; refine wpList_append_bytes _ (by rfl) (.tmp 35) (.tmp 37) (by rfl) w.heap.size u7 (fps x i) (by rfl) (HT1.out.alloc _).h1 _ 1 _ [fp x i] (by rfl) (bytes_of_block (t := 5) (fr := (0, 0)) [fp x i] (heap_at _ _ _ rfl)) rfl (by rw [fps_length]; omega) (HT1.out.alloc _).b.size ?_; intro vx' w2 hx2 hg2 hat2)
        have HT2 := Lib.hid ((HT1.out.alloc _).first hx2 hg2 hat2)
        clear hx2 hg2 hat2 HT1
        go_roundw
        case rel => exact ⟨i + 1, by omega, by go_num, by rw [fps_succ]; exact HT2.out⟩
        case measure => simp [intOf]; omega
      · have hil : i = ys.length := by omega
        subst hil
        have HF1 := Lib.hid HT1.out.h1.form
        obtain ⟨A1, c1, rfl, _, hb1, hA1⟩ := HF1.out
        have HB1 := Lib.hid hb1
        have HA1 := Lib.hid hA1
        clear HF1 hb1 hA1
        have e1 := fps_length x ys.length
        go_wp2_with (first
          | (at_builtin; refine wpList_append_bytes _ (by rfl) (.tmp 41) (.tmp 42) (by rfl) w.heap.size _ [x] (by rfl) (OwnB.lit _ w.heap.size [x] HT1.out.b.size (by simp [maxLen])) _ _ _ (fps x ys.length) (by rfl) (HB1.out.alloc _) rfl (by simp [fps_length]; omega) (HT1.out.alloc _).b.size ?_; intro v10 w2 h10 hg10 hat10)
          | (at_builtin
             go_must (refine wpList_append_bytes _ (by rfl) (.tmp 45) (.tmp 46) (by rfl) w.heap.size _ [y] (by rfl) (OwnB.lit _ w.heap.size [y] (Nat.le_trans (HT1.out.alloc _).b.size hg10.size) (by simp [maxLen])) _ _ _ ys (by rfl) ((HL.out.below (((HT1.out.b.alloc HT1.out.b.size _).grown hg10 (HT1.out.alloc _).b.size (fun k hk => by have := HT1.out.b.size; simp [Value.ownBlock] at hk; omega)))).alloc _) rfl (by simp; omega) (by have := HT1.out.b.size; have := hg10.size; simp at this ⊢; omega) ?_)
             intro v11 w3 h11 hg11 hat11
             have HX := Lib.hid ((Two.lit h10 (((HT1.out.b.alloc HT1.out.b.size _).grown hg10 (HT1.out.alloc _).b.size (fun k hk => by have := HT1.out.b.size; simp [Value.ownBlock] at hk; omega))) [y] (by simp [maxLen])).second h11 hg11 hat11)
             clear h10 h11 hg10 hg11 hat10 hat11 HT1 HB1 HA1
             have HF1 := Lib.hid HX.out.h1.form
             have HF2 := Lib.hid HX.out.h2.form
             obtain ⟨B1, d1, rfl, _, hb1, hB1⟩ := HF1.out
             obtain ⟨B2, d2, rfl, _, hb2, hB2⟩ := HF2.out
             have HB1 := Lib.hid hb1
             have HB2 := Lib.hid hb2
             clear HF1 HF2 hb1 hb2 hB1 hB2
             have hlen1 : ([x] ++ fps x ys.length).length = ys.length + 1 := by simp [fps_length]
             have hlen2 : ([y] ++ ys).length = ys.length + 1 := by simp
             have HX2 : Hid (Two w w3 (.slice B1 (ys.length + 1) d1) (x :: fps x ys.length) (.slice B2 (ys.length + 1) d2) (y :: ys)) := by have h := HX.out; rw [hlen1, hlen2] at h; exact h
             clear HX
             rw [hlen1, hlen2]
             have HL1 := Lib.hid hlen1
             have HL2 := Lib.hid hlen2
             clear hlen1 hlen2 e1))
        have HC1 : Hid (Bytes w3 B1 (x :: fps x ys.length)) := HB1
        have HC2 : Hid (Bytes w3 B2 (y :: ys)) := HB2
        have HM1 : Hid ((x :: fps x ys.length).length = ys.length + 1) := HL1
        clear HB1 HB2 HL1
        generalize x :: fps x ys.length = al at *
        go_loop [50] (fun vi => ∃ i : Nat, i ≤ ys.length + 1 ∧ vi = .int .i64 i) (fun vi => ys.length + 1 - (intOf vi).toNat)
        case atStart => exact ⟨0, by omega, rfl⟩
        case round =>
          obtain ⟨i, hi, rfl⟩ := hrel
          by_cases hlt : i < ys.length + 1
          · have hi1 : i < al.length := by have := HM1.out; omega
            have hi2 : i < (y :: ys).length := by simpa using hlt
            obtain ⟨ad1, rfl, hc1⟩ := HC1.out i hi1
            obtain ⟨ad2, rfl, hc2⟩ := HC2.out i hi2
            have HA := Lib.hid (HF.out i hi1 hi2)
            generalize al[i] = p at *
            generalize (y :: ys)[i] = q at *
            have t2 : (u q != u q) = false := by simp
            go_wp2_with fail
            refine (At_c _ _ _ _ _ _ _ al (y :: ys) p _ (by have := HM1.out; omega) (by simp) (by have := HM1.out; omega) rfl HC1.out HC2.out).mono ?_
            rintro e w' ⟨rfl, rfl⟩
            rw [HA.out]
            go_wp2_with fail
            go_round
            case rel => exact ⟨i + 1, by omega, by go_num⟩
            case measure => simp [intOf]; omega
          · have hal : al.length = ys.length + 1 := HM1.out
            have HAL := Lib.hid hal
            clear hal
            go_wp2_with (first
              | (at_builtin
                 refine wpList_append_bytes _ (by rfl) (.tmp 74) (.tmp 76) (by rfl) w.heap.size _ al (by rfl) (HX2.out.alloc _).h1 _ 1 _ [x] (by rfl) (bytes_of_block (t := 5) (fr := (0, 0)) [x] (heap_at _ _ _ rfl)) rfl (by have := HAL.out; omega) (HX2.out.alloc _).b.size ?_
                 intro v12 w4 h12 hg12 hat12
                 have HY := Lib.hid ((HX2.out.alloc _).first h12 hg12 hat12)
                 clear h12 hg12 hat12)
              | (at_builtin
                 go_must (refine wpList_append_bytes _ (by rfl) (.tmp 78) (.tmp 80) (by rfl) w.heap.size _ (y :: ys) (by rfl) (HY.out.alloc _).h2 _ 1 _ [y] (by rfl) (bytes_of_block (t := 5) (fr := (0, 0)) [y] (heap_at _ _ _ rfl)) rfl (by simp; omega) (HY.out.alloc _).b.size ?_)
                 intro v13 w5 h13 hg13 hat13
                 have HZ := Lib.hid ((HY.out.alloc _).second h13 hg13 hat13)
                 clear h13 hg13 hat13 HY
                 obtain ⟨C1, e1, rfl, _, hz1, _⟩ := HZ.out.h1.form
                 obtain ⟨C2, e2, rfl, _, hz2, _⟩ := HZ.out.h2.form
                 have HZ1 := Lib.hid hz1
                 have HZ2 := Lib.hid hz2
                 clear hz1 hz2))
            refine (At_c _ _ _ _ _ _ _ (al ++ [x]) (y :: ys ++ [y]) 0 _ (by first | with_reducible rfl | (have := HAL.out; simp) | (have := HAL.out; simp; omega)) (by first | with_reducible rfl | simp | (simp; omega)) (by have := HAL.out; simp; omega) rfl HZ1.out HZ2.out).mono ?_
            rintro e w' ⟨rfl, rfl⟩
            rw [HT.out]
            go_wp2_with fail
            refine (At_odd _ _ _ _ _ _ _ al ys 0 _ (by have := HAL.out; omega) rfl (by have := HAL.out; omega)).mono ?_
            rintro e w' ⟨rfl, rfl⟩
            rw [HO.out]
            go_wp2_with fail
            go_ret
            exact ⟨rfl, HZ.out.b⟩

theorem FieldFree_any (v : Value) {w : World} (h : IsBytes w v) (x : Int) (hx : (Lit.int .u8 x).wf = true) (y : Int) (hy : (Lit.int .u8 y).wf = true) (_ : World := w) :
    Calls Try.prog 7 #[v, .int .u8 x, .int .u8 y] w fun e w' => e = .returned (.bool true) ∧ Below w.heap.size w w' := by
  obtain ⟨A, l, c, rfl, _, _, hl⟩ := h
  obtain ⟨a, rfl⟩ := u_wf hx
  obtain ⟨b, rfl⟩ := u_wf hy
  exact FieldFree_w A _ c l a b w rfl hl

end Go.Proofs.Ythdiofbmibgbdaa
