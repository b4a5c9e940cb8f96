/- The walk of ParityJoins. -/
import Derived.Test.YtmnnhmbolbepcaaParRJoin
import Derived.Test.YtmnnhmbolbepcaaParOpen
namespace Go.Proofs.Ytmnnhmbolbepcaa
open Go.RowKit
set_option linter.unusedSimpArgs false

attribute [local go_sem ↓] partLoad_pre

theorem str_eql (S T : ByteArray) (w : World) : (binOp .eql 9 (.string S) (.string T)).run Try.prog w = .ok (.bool (decide (S = T))) w := by
  simp [go_sem]
  rw [Bool.eq_iff_iff]
  simp [toList_iff]
theorem str_neq (S T : ByteArray) (w : World) : (binOp .neq 9 (.string S) (.string T)).run Try.prog w = .ok (.bool (!decide (S = T))) w := by
  simp [go_sem]
  rw [Bool.eq_iff_iff]
  simp [toList_iff]

set_option maxRecDepth 100000 in
set_option maxHeartbeats 1000000 in
/-- beyond the bounds: the examples alone -/
theorem ParityJoins_out (A : Option Addr) (n c : Nat) (z : Int) (w : World) (h : 12 < n ∨ (1800 < z ∧ z ≤ 65536)) :
    Calls Try.prog 6 #[.slice A n c, .int .i64 z] w fun e w' => e = .returned (.bool true) ∧ Below w.heap.size w w' := by
  by_cases h1 : 12 < n
  · have t1 : decide ((12 : Int) < (n : Int)) = true := by simp; omega
    clear h h1
    go_enter Try.func6, Try.ntmps6
    go_wp2_with fail
    refine (Fixed_c _).mono ?_
    rintro e w1 ⟨rfl, hb1⟩
    go_wp2
    go_ret
    exact ⟨rfl, hb1⟩
  · have t1 : decide ((12 : Int) < (n : Int)) = false := by simp; omega
    have t2 : decide (1800 < z) = true := by simp; omega
    have t3 : decide (z ≤ 65536) = true := by simp; omega
    clear h h1
    go_enter Try.func6, Try.ntmps6
    go_wp2_with fail
    refine (Fixed_c _).mono ?_
    rintro e w1 ⟨rfl, hb1⟩
    go_wp2
    go_ret
    exact ⟨rfl, hb1⟩

set_option maxRecDepth 100000 in
set_option maxHeartbeats 4000000 in
theorem ParityJoins_in (A : Option Addr) (c : Nat) (L : List Pt) (z : Int) (w : World) (h : ¬ (12 < L.length ∨ (1800 < z ∧ z ≤ 65536))) (hL : Pts w A L) :
    Calls Try.prog 6 #[.slice A L.length c, .int .i64 z] w fun e w' => e = .returned (.bool true) ∧ Below w.heap.size w w' := by
  have t1 : decide ((12 : Int) < (L.length : Int)) = false := by simp; omega
  have hll : L.length ≤ 12 := by omega
  have HLL := Lib.hid hll
  have HL := Lib.hid hL
  have HC : Hid (∀ W : World, Below w.heap.size w W → Calls Try.prog 16 #[.slice A L.length c, .int .i64 z] W fun e w' => e = .returned (.tuple #[.string (joinV L z).1, .int .i64 (joinV L z).2]) ∧ Below W.heap.size W w') := fun W hb => PJoin_c A _ c L z W rfl (by omega) (hL.below hb)
  have HD : Hid (∀ W : World, Below w.heap.size w W → Calls Try.prog 17 #[.slice A L.length c, .int .i64 z] W fun e w' => e = .returned (.tuple #[.string (joinV L z).1, .int .i64 (joinV L z).2]) ∧ Below W.heap.size W w') := fun W hb => RJoinP_c A _ c L z W rfl (by omega) (hL.below hb)
  have q := fun W : World => str_eql (joinV L z).1 (joinV L z).1 W
  rw [show decide ((joinV L z).1 = (joinV L z).1) = true from by simp] at q
  have t9 : ((joinV L z).2 == (joinV L z).2) = true := by simp
  generalize (joinV L z).1 = S at *
  generalize (joinV L z).2 = er at *
  have tz : (decide (1800 < z) = false) ∨ (decide (1800 < z) = true ∧ decide (z ≤ 65536) = false) := by
    by_cases h2 : 1800 < z
    · right; exact ⟨by simpa using h2, by simp; omega⟩
    · left; simpa using h2
  clear h hL hll
  have main : ∀ (a : Unit), (decide (1800 < z) = false) ∨ (decide (1800 < z) = true ∧ decide (z ≤ 65536) = false) → Calls Try.prog 6 #[.slice A L.length c, .int .i64 z] w fun e w' => e = .returned (.bool true) ∧ Below w.heap.size w w' := by
    rintro - (t2 | ⟨t2, t3⟩)
    all_goals
      clear tz
      go_enter Try.func6, Try.ntmps6
      go_wp2_with fail
      go_loopw [25] (fun vi W => ∃ i : Nat, i ≤ L.length ∧ vi = .int .i64 i ∧ Hid (Below w.heap.size w W)) (fun vi _ => L.length - (intOf vi).toNat)
      case atStart => exact ⟨0, Nat.zero_le _, rfl, Below.refl _ _⟩
      case round =>
        obtain ⟨i, hi, rfl, HB⟩ := hrel
        by_cases hlt : i < L.length
        · have i0 : (0 : Int) ≤ (i : Int) := by omega
          have i1 : (i : Int) < (L.length : Int) := by omega
          have i2 : (i : Int) < 12 := by have := HLL.out; omega
          obtain ⟨b, o, e2, h1, h2⟩ := (HL.out.below HB.out).at_ i hlt
          subst e2
          have k1 := partLoad_at (W := wr) (p := L[i]) h1 h2
          clear h1 h2
          generalize L[i] = p at *
          obtain ⟨pi, pd⟩ := p
          replace k1 : (partLoad (.pointer (some ⟨b, o + i * 2, none⟩))).run Try.prog wr = .ok (.agg #[.int .i64 pi, .string pd]) wr := k1
          have HB3 : Hid (Below w.heap.size w (wr.alloc (.cells #[.int .i64 pi, .string pd] 30))) := HB.out.alloc HB.out.size _
          by_cases c1 : 600 < pd.size
          · have t4 : decide ((600 : Int) < (pd.size : Int)) = true := by simp; omega
            clear c1
            go_wp2_with fail
            refine (Fixed_c _).mono ?_
            rintro e w9 ⟨rfl, hb9⟩
            have HB9 := Lib.hid (HB3.out.trans (hb9.mono HB3.out.size))
            clear hb9
            go_wp2
            go_ret
            exact ⟨rfl, HB9.out⟩
          · have t4 : decide ((600 : Int) < (pd.size : Int)) = false := by simp; omega
            clear c1
            go_wp2
            go_roundw
            case rel => exact ⟨i + 1, by omega, by go_num, HB3⟩
            case measure => simp [intOf]; omega
        · obtain rfl : i = L.length := by omega
          go_wp2_with fail
          refine (HC.out _ HB.out).mono ?_
          rintro e w3 ⟨rfl, hb3⟩
          have HB3 := Lib.hid (HB.out.trans (hb3.mono HB.out.size))
          clear hb3
          go_wp2_with fail
          refine (HD.out _ HB3.out).mono ?_
          rintro e w4 ⟨rfl, hb4⟩
          have HB4 := Lib.hid (HB3.out.trans (hb4.mono HB3.out.size))
          clear hb4
          go_wp2_with fail
          refine (Fixed_c _).mono ?_
          rintro e w9 ⟨rfl, hb9⟩
          have HB9 := Lib.hid (HB4.out.trans (hb9.mono HB4.out.size))
          clear hb9
          go_wp2
          go_ret
          exact ⟨ret_bool (by simp), HB9.out⟩
  exact main () tz

end Go.Proofs.Ytmnnhmbolbepcaa
