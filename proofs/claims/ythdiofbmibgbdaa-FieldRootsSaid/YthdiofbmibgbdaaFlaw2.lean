/- The walks of FieldLaws, FieldEvals. -/
import Derived.Test.YthdiofbmibgbdaaFlaw
import Derived.Test.YthdiofbmibgbdaaOpen
namespace Go.Proofs.Ythdiofbmibgbdaa
open Go.RowKit

theorem ne_false {a b : Int} (h : a = b) : (a != b) = false := by rw [h]; simp
theorem eq_true' {a b : Int} (h : a = b) : (a == b) = true := by rw [h]; simp
theorem eq_false' {a b : Int} (h : a ≠ b) : (a == b) = false := beq_eq_false_iff_ne.2 h
theorem ne_true' {a b : Int} (h : a ≠ b) : (a != b) = true := by rw [bne_iff_ne]; exact h
theorem u_ne_zero {a : UInt8} (h : a ≠ 0) : u a ≠ 0 := fun e => h (u_inj (b := 0) e)

set_option maxRecDepth 100000 in
set_option maxHeartbeats 4000000 in
theorem FieldLaws_w (a b c : UInt8) (w : World) : Calls Try.prog 4 #[.int .u8 (u a), .int .u8 (u b), .int .u8 (u c)] w fun e w' => e = .returned (.bool true) ∧ Below w.heap.size w w' := by
  have f1 : (u (Gf.mul a b) != u (Gf.mul b a)) = false := ne_false (by rw [Gf.mul_comm])
  have f2 : (u (Gf.mul (Gf.mul a b) c) != u (Gf.mul a (Gf.mul b c))) = false := ne_false (by rw [Gf.mul_assoc])
  have f3 : (u (Gf.mul a (b ^^^ c)) != Go.bits .xor .u8 (u (Gf.mul a b)) (u (Gf.mul a c))) = false := ne_false (by rw [xor_u, Gf.mul_x_right])
  by_cases ha : a = 0
  · have g0 : (u a == 0) = true := eq_true' (by rw [ha]; rfl)
    have g1 : (u (Gf.mul a b) == 0) = true := eq_true' (by rw [ha, Gf.zero_mul]; rfl)
    have g2 : (u (Gf.inv a) == 0) = true := eq_true' (by rw [ha, Gf.inv_zero]; rfl)
    clear ha
    go_enter Try.func4, Try.ntmps4
    go_wp2_with fail
    refine (Alive_c _).mono ?_
    rintro e w1 ⟨rfl, hb⟩
    go_wp2_with fail
    refine (Mul_c _ _ a b _ rfl rfl).mono ?_
    rintro e w' ⟨rfl, rfl⟩
    go_wp2_with fail
    refine (Mul_c _ _ b a _ rfl rfl).mono ?_
    rintro e w' ⟨rfl, rfl⟩
    go_wp2_with fail
    refine (Mul_c _ _ a b _ rfl rfl).mono ?_
    rintro e w' ⟨rfl, rfl⟩
    go_wp2_with fail
    refine (Mul_c _ _ (Gf.mul a b) c _ rfl rfl).mono ?_
    rintro e w' ⟨rfl, rfl⟩
    go_wp2_with fail
    refine (Mul_c _ _ b c _ rfl rfl).mono ?_
    rintro e w' ⟨rfl, rfl⟩
    go_wp2_with fail
    refine (Mul_c _ _ a (Gf.mul b c) _ rfl rfl).mono ?_
    rintro e w' ⟨rfl, rfl⟩
    go_wp2_with fail
    refine (Mul_c _ _ a (b ^^^ c) _ rfl (xor_u b c)).mono ?_
    rintro e w' ⟨rfl, rfl⟩
    go_wp2_with fail
    refine (Mul_c _ _ a b _ rfl rfl).mono ?_
    rintro e w' ⟨rfl, rfl⟩
    go_wp2_with fail
    refine (Mul_c _ _ a c _ rfl rfl).mono ?_
    rintro e w' ⟨rfl, rfl⟩
    go_wp2_with fail
    refine (Mul_c _ _ a b _ rfl rfl).mono ?_
    rintro e w' ⟨rfl, rfl⟩
    go_wp2_with fail
    refine (Inv_c _ a _ rfl).mono ?_
    rintro e w' ⟨rfl, rfl⟩
    go_wp2_with fail
    go_ret
    exact ⟨rfl, hb⟩
  · have g0 : (u a == 0) = false := eq_false' (u_ne_zero ha)
    have g1 : (u (Gf.mul a 1) == u a) = true := eq_true' (by rw [Gf.mul_one])
    have g2 : (u (Gf.mul a (Gf.inv a)) == 1) = true := eq_true' (by rw [Gf.mul_inv ha]; rfl)
    have g3 : (u (Gf.inv (Gf.inv a)) == u a) = true := eq_true' (by rw [Gf.inv_inv])
    have HA := Lib.hid ha
    clear ha
    by_cases hb0 : b = 0
    all_goals
      first
        | (have g4 : (u b == 0) = true := eq_true' (by rw [hb0]; rfl); clear hb0)
        | (have g4 : (u b == 0) = false := eq_false' (u_ne_zero hb0); have g5 : (u (Gf.mul a b) != 0) = true := ne_true' (u_ne_zero (Gf.mul_ne_zero HA.out hb0)); clear hb0)
      go_enter Try.func4, Try.ntmps4
      go_wp2_with fail
      refine (Alive_c _).mono ?_
      rintro e w1 ⟨rfl, hb⟩
      go_wp2_with fail
      refine (Mul_c _ _ a b _ rfl rfl).mono ?_
      rintro e w' ⟨rfl, rfl⟩
      go_wp2_with fail
      refine (Mul_c _ _ b a _ rfl rfl).mono ?_
      rintro e w' ⟨rfl, rfl⟩
      go_wp2_with fail
      refine (Mul_c _ _ a b _ rfl rfl).mono ?_
      rintro e w' ⟨rfl, rfl⟩
      go_wp2_with fail
      refine (Mul_c _ _ (Gf.mul a b) c _ rfl rfl).mono ?_
      rintro e w' ⟨rfl, rfl⟩
      go_wp2_with fail
      refine (Mul_c _ _ b c _ rfl rfl).mono ?_
      rintro e w' ⟨rfl, rfl⟩
      go_wp2_with fail
      refine (Mul_c _ _ a (Gf.mul b c) _ rfl rfl).mono ?_
      rintro e w' ⟨rfl, rfl⟩
      go_wp2_with fail
      refine (Mul_c _ _ a (b ^^^ c) _ rfl (xor_u b c)).mono ?_
      rintro e w' ⟨rfl, rfl⟩
      go_wp2_with fail
      refine (Mul_c _ _ a b _ rfl rfl).mono ?_
      rintro e w' ⟨rfl, rfl⟩
      go_wp2_with fail
      refine (Mul_c _ _ a c _ rfl rfl).mono ?_
      rintro e w' ⟨rfl, rfl⟩
      go_wp2_with fail
      refine (Mul_c _ _ a 1 _ rfl rfl).mono ?_
      rintro e w' ⟨rfl, rfl⟩
      go_wp2_with fail
      refine (Inv_c _ a _ rfl).mono ?_
      rintro e w' ⟨rfl, rfl⟩
      go_wp2_with fail
      refine (Mul_c _ _ a (Gf.inv a) _ rfl rfl).mono ?_
      rintro e w' ⟨rfl, rfl⟩
      go_wp2_with fail
      refine (Inv_c _ a _ rfl).mono ?_
      rintro e w' ⟨rfl, rfl⟩
      go_wp2_with fail
      refine (Inv_c _ (Gf.inv a) _ rfl).mono ?_
      rintro e w' ⟨rfl, rfl⟩
      go_wp2_with fail
      try
        refine (Mul_c _ _ a b _ rfl rfl).mono ?_
        rintro e w' ⟨rfl, rfl⟩
        go_wp2_with fail
      go_ret
      exact ⟨rfl, hb⟩

set_option maxRecDepth 100000 in
set_option maxHeartbeats 4000000 in
theorem FieldEvals_w (A D : Option Addr) (n c m d : Nat) (l xs : List UInt8) (x : UInt8) (w : World) (hn : n = l.length) (hm : m = xs.length) (hl : Bytes w A l) (hx : Bytes w D xs) :
    Calls Try.prog 5 #[.slice A n c, .slice D m d, .int .u8 (u x)] w fun e w' => e = .returned (.bool true) ∧ Below w.heap.size w w' := by
  subst hn hm
  by_cases h1 : 40 < l.length
  · have g1 : (40 : Int) < (l.length : Int) := by omega
    go_enter Try.func5, Try.ntmps5
    go_wp2_with fail
    refine (Alive_c _).mono ?_
    rintro e w1 ⟨rfl, hb⟩
    go_wp2_with fail
    go_ret
    exact ⟨rfl, hb⟩
  · have g1 : decide ((40 : Int) < (l.length : Int)) = false := by simp; omega
    by_cases h2 : 20 < xs.length
    · have g2 : (20 : Int) < (xs.length : Int) := by omega
      go_enter Try.func5, Try.ntmps5
      go_wp2_with fail
      refine (Alive_c _).mono ?_
      rintro e w1 ⟨rfl, hb⟩
      go_wp2_with fail
      go_ret
      exact ⟨rfl, hb⟩
    · have g2 : decide ((20 : Int) < (xs.length : Int)) = false := by simp; omega
      have HL := Lib.hid hl
      have HX := Lib.hid hx
      clear hl hx
      have g3 : (u (Gf.eval l x) == u (Gf.eval l x)) = true := by simp
      have g4 : (u (Gf.atS xs l x).1 == u (Gf.atS xs l x).1) = true := by simp
      have g5 : ((Gf.atS xs l x).2 == (Gf.atS xs l x).2) = true := by simp
      go_enter Try.func5, Try.ntmps5
      go_wp2_with fail
      refine (Alive_c _).mono ?_
      rintro e w1 ⟨rfl, hb⟩
      have HB := Lib.hid hb
      clear hb
      go_wp2_with fail
      refine (At_c _ _ _ _ _ _ _ xs l x _ rfl rfl (by omega) rfl (HX.out.below HB.out) (HL.out.below HB.out)).mono ?_
      rintro e w' ⟨rfl, rfl⟩
      go_wp2_with fail
      refine (RAt_c _ _ _ _ _ _ _ xs l x _ rfl rfl (by omega) rfl (HX.out.below HB.out) (HL.out.below HB.out)).mono ?_
      rintro e w' ⟨rfl, ⟨nd, rfl⟩⟩
      go_wp2_with fail
      refine (Eval_c _ _ _ _ l x _ rfl (by omega) rfl ((HL.out.below HB.out).drewN nd)).mono ?_
      rintro e w' ⟨rfl, ⟨nd2, rfl⟩⟩
      go_wp2_with fail
      refine (REval_c _ _ _ _ l x _ rfl (by omega) rfl ((HL.out.below HB.out).drewN _)).mono ?_
      rintro e w' ⟨rfl, rfl⟩
      go_wp2_with fail
      go_ret
      exact ⟨rfl, below_drewN HB.out _⟩

theorem FieldLaws_any (x : Int) (hx : (Lit.int .u8 x).wf = true) (y : Int) (hy : (Lit.int .u8 y).wf = true) (z : Int) (hz : (Lit.int .u8 z).wf = true) (w : World) :
    Calls Try.prog 4 #[.int .u8 x, .int .u8 y, .int .u8 z] w fun e w' => e = .returned (.bool true) ∧ Below w.heap.size w w' := by
  obtain ⟨a, rfl⟩ := u_wf hx
  obtain ⟨b, rfl⟩ := u_wf hy
  obtain ⟨c, rfl⟩ := u_wf hz
  exact FieldLaws_w a b c w

theorem FieldEvals_any (v : Value) {w : World} (h : IsBytes w v) (v' : Value) (h' : IsBytes w v') (x : Int) (hx : (Lit.int .u8 x).wf = true) (_ : World := w) :
    Calls Try.prog 5 #[v, v', .int .u8 x] w fun e w' => e = .returned (.bool true) ∧ Below w.heap.size w w' := by
  obtain ⟨A, l, c, rfl, _, _, hl⟩ := h
  obtain ⟨D, xs, d, rfl, _, _, hxs⟩ := h'
  obtain ⟨a, rfl⟩ := u_wf hx
  exact FieldEvals_w A D _ c _ d l xs a w rfl rfl hl hxs

end Go.Proofs.Ythdiofbmibgbdaa
