/- The walks of the reference's Same and of ParityCuts. -/
import Derived.Test.YtmnnhmbolbepcaaParRef
import Derived.Test.YtmnnhmbolbepcaaParOpen
namespace Go.Proofs.Ytmnnhmbolbepcaa
open Go.RowKit
set_option linter.unusedSimpArgs false

attribute [local go_sem ↓] partLoad_pre

set_option maxRecDepth 100000 in
set_option maxHeartbeats 1000000 in
/-- the same parts are the same -/
theorem SameP_c (A D : Option Addr) (n c d : Nat) (L : List Pt) (w : World) (hn : n = L.length) (hb : L.length ≤ 100000) (hA : Pts w A L) (hD : Pts w D L) :
    Calls Try.prog 10 #[.slice A n c, .slice D n d] w fun e w' => e = .returned (.bool true) ∧ Drawn w w' := by
  subst hn
  have HA := Lib.hid hA
  have HD := Lib.hid hD
  clear hA hD
  go_enter Try.func10, Try.ntmps10
  go_wp2_with fail
  go_loopw [5] (fun vi W => ∃ i : Nat, i ≤ L.length ∧ vi = .int .i64 i ∧ Drawn w W) (fun vi _ => L.length - (intOf vi).toNat)
  case atStart => exact ⟨0, Nat.zero_le _, rfl, Drawn.refl _⟩
  case round =>
    obtain ⟨i, hi, rfl, ⟨nd, rfl⟩⟩ := hrel
    by_cases hlt : i < L.length
    · have i0 : (0 : Int) ≤ (i : Int) := by omega
      have i1 : (i : Int) < (L.length : Int) := by omega
      obtain ⟨b1, o1, e1, h1, h2⟩ := HA.out.at_ i hlt
      obtain ⟨b2, o2, e2, h3, h4⟩ := HD.out.at_ i hlt
      subst e1 e2
      have k1 := fun m : Nat => partLoad_at (W := w.drewN m) (p := L[i]) h1 h2
      have k2 := fun m : Nat => partLoad_at (W := w.drewN m) (p := L[i]) h3 h4
      have q := fun W : World => part_neq L[i].1 L[i].1 L[i].2 L[i].2 W
      simp only [and_self, decide_true, Bool.not_true] at q
      clear h1 h2 h3 h4
      generalize L[i] = p at *
      go_wp2_with fail
      go_quiet (fail)
      go_wp2
      go_roundw
      case rel => exact ⟨i + 1, by omega, by go_num, ⟨_, rfl⟩⟩
      case measure => simp [intOf]; omega
    · go_wp2
      go_ret
      exact ⟨rfl, ⟨nd, rfl⟩⟩

set_option maxRecDepth 100000 in
set_option maxHeartbeats 1000000 in
theorem ParityCuts_w (S : ByteArray) (z : Int) (w : World) (hz : -9223372036854775808 ≤ z ∧ z < 9223372036854775808) :
    Calls Try.prog 3 #[.string S, .int .i64 z] w fun e w' => e = .returned (.bool true) ∧ Below w.heap.size w w' := by
  have HZ := Lib.hid hz
  by_cases h : S.size ≤ 600
  · have g1 : decide ((600 : Int) < (S.size : Int)) = false := by simp; omega
    have HS := Lib.hid h
    clear h hz
    go_enter Try.func3, Try.ntmps3
    go_wp2_with fail
    refine (Fixed_c _).mono ?_
    rintro e w1 ⟨rfl, hb1⟩
    have HB1 := Lib.hid hb1
    clear hb1
    go_wp2_with fail
    refine (PCut_c S _ (by have := HS.out; omega)).mono ?_
    rintro e w2 ⟨⟨A, c, rfl, -, -, hp⟩, hb2⟩
    have HB2 := Lib.hid (HB1.out.trans (hb2.mono HB1.out.size))
    have HP2 := Lib.hid hp
    clear hb2 hp
    go_wp2_with fail
    refine (RCut_c S _ (by have := HS.out; omega)).mono ?_
    rintro e w3 ⟨⟨D, d, rfl, -, -, hq⟩, hb3⟩
    have HB3 := Lib.hid (HB2.out.trans (hb3.mono HB2.out.size))
    have HP3 := Lib.hid (HP2.out.below hb3)
    have HQ3 := Lib.hid hq
    clear hb3 hq
    go_wp2_with fail
    refine (SameP_c A D 5 c d (cutP (bs S) 5) _ (cutP_length _ _).symm (by rw [cutP_length]; omega) HP3.out HQ3.out).mono ?_
    rintro e w4 ⟨rfl, ⟨nd, rfl⟩⟩
    have HB4 := Lib.hid (below_drewN HB3.out nd)
    have t1 : (rowsZ z == rowsZ z) = true := by simp
    go_wp2_with (first
      | (go_at_call 13; refine (Rows_c z HZ.out _).mono ?_; rintro e w9 ⟨rfl, rfl⟩)
      | (go_at_call 14; refine (RRows_c z HZ.out _).mono ?_; rintro e w9 ⟨rfl, rfl⟩))
    go_ret
    exact ⟨ret_bool (by simp), HB4.out⟩
  · have g1 : decide ((600 : Int) < (S.size : Int)) = true := by simp; omega
    clear h
    go_enter Try.func3, Try.ntmps3
    go_wp2_with fail
    refine (Fixed_c _).mono ?_
    rintro e w1 ⟨rfl, hb1⟩
    go_wp2
    go_ret
    exact ⟨rfl, hb1⟩

theorem ParityCuts_any (v : Value) (h : ∃ s : ByteArray, v = .string s) (n : Int) (hn : (Lit.int .i64 n).wf = true) (w : World) :
    Calls Try.prog 3 #[v, .int .i64 n] w fun e w' => e = .returned (.bool true) ∧ Below w.heap.size w w' := by
  obtain ⟨s, rfl⟩ := h
  refine ParityCuts_w s n w ?_
  simp [Lit.wf, IntKind.min, IntKind.max, IntKind.bits, IntKind.signed] at hn
  omega

end Go.Proofs.Ytmnnhmbolbepcaa
