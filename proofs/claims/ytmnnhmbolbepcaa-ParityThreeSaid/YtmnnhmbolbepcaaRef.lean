/- The walks of the reference of package field: what each function returns, as the plain field of 256 elements has it. -/
import Derived.Test.YtmnnhmbolbepcaaAt
namespace Go.Proofs.Ytmnnhmbolbepcaa
open Go.RowKit

theorem testBit_one (n i : Nat) : (n / 2 ^ i &&& 1 = 1) ↔ n.testBit i = true := by
  rw [Nat.testBit_eq_decide_div_mod_eq, decide_eq_true_iff, Nat.and_one_is_mod]

theorem and8_test (b : UInt8) (i : Nat) (v : Bool) (h : b.toNat.testBit i = v) : (Go.bits .and .u8 (u b / (2 : Int) ^ i) 1 == 1) = v := by
  have hb := b.toNat_lt
  have e : u b / (2 : Int) ^ i = ((b.toNat / 2 ^ i : Nat) : Int) := by unfold u; rw [Int.natCast_ediv, Int.natCast_pow]; rfl
  have hlt : b.toNat / 2 ^ i < 256 := Nat.lt_of_le_of_lt (Nat.div_le_self _ _) (by omega)
  have h1 := u8_and_nat (b.toNat / 2 ^ i) 1 hlt (by decide)
  rw [e, show (1 : Int) = ((1 : Nat) : Int) from rfl, h1]
  have ht := testBit_one b.toNat i
  cases v with
  | true => rw [beq_iff_eq, Int.natCast_inj]; exact ht.2 h
  | false => rw [beq_eq_false_iff_ne]; intro e; rw [Int.natCast_inj] at e; rw [ht.1 e] at h; exact absurd h (by decide)

theorem and16_test (n i : Nat) (hn : n < 65536) (v : Bool) (h : n.testBit i = v) : (Go.bits .and .u16 ((n : Int) / (2 : Int) ^ i) 1 == 1) = v := by
  have e : (n : Int) / (2 : Int) ^ i = ((n / 2 ^ i : Nat) : Int) := by rw [Int.natCast_ediv, Int.natCast_pow]; rfl
  have hlt : n / 2 ^ i < 65536 := Nat.lt_of_le_of_lt (Nat.div_le_self _ _) (by omega)
  have h1 := u16_and_nat (n / 2 ^ i) 1 hlt (by decide)
  rw [e, show (1 : Int) = ((1 : Nat) : Int) from rfl, h1]
  have ht := testBit_one n i
  cases v with
  | true => rw [beq_iff_eq, Int.natCast_inj]; exact ht.2 h
  | false => rw [beq_eq_false_iff_ne]; intro e; rw [Int.natCast_inj] at e; rw [ht.1 e] at h; exact absurd h (by decide)

theorem shl_lt (a i : Nat) (ha : a < 512) (hi : i < 7) : a <<< i < 32768 := by
  rw [Nat.shiftLeft_eq]
  have h2 : 2 ^ i ≤ 2 ^ 6 := Nat.pow_le_pow_right (by omega) (by omega)
  have : a * 2 ^ i ≤ 511 * 2 ^ 6 := Nat.mul_le_mul (by omega) h2
  omega
theorem shl8_lt (a : UInt8) (i : Nat) (hi : i < 8) : a.toNat <<< i < 32768 := by
  have ha := a.toNat_lt
  rw [Nat.shiftLeft_eq]
  have h2 : 2 ^ i ≤ 2 ^ 7 := Nat.pow_le_pow_right (by omega) (by omega)
  have : a.toNat * 2 ^ i ≤ 255 * 2 ^ 7 := Nat.mul_le_mul (by omega) h2
  omega

theorem refUp_lt (a b : UInt8) : ∀ i, i ≤ 8 → Gf.refUp a b i < 32768
  | 0, _ => by simp [Gf.refUp]
  | i + 1, h => by
    rw [Gf.refUp]
    have h1 := refUp_lt a b i (by omega)
    split
    · exact Nat.xor_lt_two_pow (n := 15) h1 (shl8_lt a i (by omega))
    · exact h1
theorem refDown_lt (x : Nat) (hx : x < 32768) : ∀ k, Gf.refDown x k < 32768
  | 0 => by simpa [Gf.refDown] using hx
  | k + 1 => by
    rw [Gf.refDown]
    have h1 := refDown_lt x hx k
    split
    · exact Nat.xor_lt_two_pow (n := 15) h1 (shl_lt 285 (14 - k - 8) (by omega) (by omega))
    · exact h1

theorem wrapped_xor (X s : Nat) (hX : X < 32768) (hs : s < 32768) : Go.bits .xor .u16 (X : Int) (IntKind.u16.wrap (s : Int)) = ((X ^^^ s : Nat) : Int) := by
  rw [IntKind.wrap_u16, Int.emod_eq_of_lt (by omega) (by omega), u16_xor_nat _ _ (by omega) (by omega)]
theorem up_u (a : UInt8) (X i : Nat) (hX : X < 32768) (hi : i < 8) :
    Go.bits .xor .u16 (X : Int) (IntKind.u16.wrap (IntKind.u16.wrap (u a) * (2 : Int) ^ i)) = ((X ^^^ (a.toNat <<< i) : Nat) : Int) := by
  have h1 := shl8_lt a i hi
  have h2 := u_lo a
  have h3 := u_hi a
  have e1 : IntKind.u16.wrap (u a) = u a := by rw [IntKind.wrap_u16]; omega
  have e2 : u a * (2 : Int) ^ i = ((a.toNat <<< i : Nat) : Int) := by rw [Nat.shiftLeft_eq, Int.natCast_mul, Int.natCast_pow]; rfl
  rw [e1, e2]
  exact wrapped_xor X _ hX h1
theorem down_u (X i : Nat) (hX : X < 32768) (hi : i < 7) :
    Go.bits .xor .u16 (X : Int) (IntKind.u16.wrap ((285 : Int) * (2 : Int) ^ i)) = ((X ^^^ (285 <<< i) : Nat) : Int) := by
  have h1 := shl_lt 285 i (by omega) hi
  have e2 : (285 : Int) * (2 : Int) ^ i = ((285 <<< i : Nat) : Int) := by rw [Nat.shiftLeft_eq, Int.natCast_mul, Int.natCast_pow]; rfl
  rw [e2]
  exact wrapped_xor X _ hX h1

theorem refUp_yes (a b : UInt8) (i : Nat) (h : b.toNat.testBit i = true) : Gf.refUp a b (i + 1) = Gf.refUp a b i ^^^ (a.toNat <<< i) := by rw [Gf.refUp, if_pos h]
theorem refUp_no (a b : UInt8) (i : Nat) (h : b.toNat.testBit i = false) : Gf.refUp a b (i + 1) = Gf.refUp a b i := by rw [Gf.refUp, if_neg (by rw [h]; decide)]
theorem refDown_yes (x k : Nat) (h : (Gf.refDown x k).testBit (14 - k) = true) : Gf.refDown x (k + 1) = Gf.refDown x k ^^^ (285 <<< (14 - k - 8)) := by rw [Gf.refDown, if_pos h]
theorem refDown_no (x k : Nat) (h : (Gf.refDown x k).testBit (14 - k) = false) : Gf.refDown x (k + 1) = Gf.refDown x k := by rw [Gf.refDown, if_neg (by rw [h]; decide)]
theorem refMul_u (a b : UInt8) : ((Gf.refDown (Gf.refUp a b 8) 7 : Nat) : Int) % 256 = u (Gf.mul a b) := by
  rw [← Gf.refMul_eq, Gf.refMul]
  show _ = ((UInt8.ofNat _).toNat : Int)
  rw [UInt8.toNat_ofNat']
  omega

set_option maxRecDepth 100000 in
set_option maxHeartbeats 4000000 in
theorem RMul_c (x y : Int) (a b : UInt8) (w : World) (hx : x = u a) (hy : y = u b) :
    Calls Try.prog 25 #[.int .u8 x, .int .u8 y] w fun e w' => e = .returned (.int .u8 (u (Gf.mul a b))) ∧ w = w' := by
  subst hx hy
  go_enter Try.func25, Try.ntmps25
  go_wp2
  go_loop [5, 6] (fun vx vi => ∃ (i X : Nat), i ≤ 8 ∧ vx = .int .u16 (X : Int) ∧ vi = .int .i64 i ∧ Hid (X = Gf.refUp a b i))
    (fun _ vi => 8 - (intOf vi).toNat)
  case atStart => exact ⟨0, 0, by omega, rfl, rfl, rfl⟩
  case round =>
    obtain ⟨i, X, hi, rfl, rfl, H⟩ := hrel
    have hX : X < 32768 := by rw [H.out]; exact refUp_lt a b i hi
    by_cases hlt : i < 8
    · cases ht : b.toNat.testBit i
      · have ht2 := and8_test b i false ht
        have HT := Lib.hid ht
        clear ht
        go_wp2
        go_round
        case rel => exact ⟨i + 1, X, by omega, rfl, by go_num, by rw [refUp_no a b i HT.out]; exact H⟩
        case measure => simp [intOf]; omega
      · have ht2 := and8_test b i true ht
        have HT := Lib.hid ht
        clear ht
        go_wp2
        go_round
        case rel => exact ⟨i + 1, X ^^^ (a.toNat <<< i), by omega, by rw [up_u a X i hX hlt], by go_num, by rw [refUp_yes a b i HT.out, ← H.out]; exact rfl⟩
        case measure => simp [intOf]; omega
    · have H8 : Hid (X = Gf.refUp a b 8) := by have h := H.out; rw [show i = 8 from by omega] at h; exact h
      clear H
      go_wp2
      go_loop [5, 7] (fun vx vi => ∃ (k Y : Nat), k ≤ 7 ∧ vx = .int .u16 (Y : Int) ∧ vi = .int .i64 (14 - (k : Int)) ∧ Hid (Y = Gf.refDown X k))
        (fun _ vi => (intOf vi).toNat)
      case atStart => exact ⟨0, X, by omega, rfl, rfl, rfl⟩
      case round =>
        obtain ⟨k, Y, hk, rfl, rfl, H⟩ := hrel
        have hY : Y < 32768 := by rw [H.out]; exact refDown_lt X hX k
        by_cases hlt : k < 7
        · cases ht : Y.testBit (14 - k)
          · have ht2 := and16_test Y (14 - k) (by omega) false ht
            have HT := Lib.hid ht
            clear ht
            go_wp2
            go_round
            case rel => exact ⟨k + 1, Y, by omega, rfl, by go_num, by rw [refDown_no X k (by rw [← H.out]; exact HT.out)]; exact H⟩
            case measure => simp [intOf]; omega
          · have ht2 := and16_test Y (14 - k) (by omega) true ht
            have HT := Lib.hid ht
            clear ht
            go_wp2
            go_round
            case rel => exact ⟨k + 1, Y ^^^ (285 <<< (14 - k - 8)), by omega, by rw [down_u Y (14 - k - 8) hY (by omega)], by go_num, by rw [refDown_yes X k (by rw [← H.out]; exact HT.out), ← H.out]; exact rfl⟩
            case measure => simp [intOf]; omega
        · go_wp2
          go_ret
          exact ⟨ret_u8 (by rw [← refMul_u, ← H8.out, H.out, show k = 7 from by omega]), rfl⟩

/-- no element below j gives 1 -/
def NoInv (a : UInt8) (j : Nat) : Prop := ∀ i, i < j → Gf.mul a (UInt8.ofNat i) ≠ 1

theorem ofNat_u (j : Nat) (_h : j < 256) : (j : Int) % 256 = u (UInt8.ofNat j) := by
  show _ = ((UInt8.ofNat j).toNat : Int)
  rw [UInt8.toNat_ofNat']
  omega
theorem noInv_all (a : UInt8) (h : NoInv a 256) : Gf.inv a = 0 := by
  by_cases ha : a = 0
  · rw [ha]; exact Gf.inv_zero
  · refine absurd (Gf.mul_inv ha) ?_
    have := h (Gf.inv a).toNat (Gf.inv a).toNat_lt
    rwa [UInt8.ofNat_toNat] at this

set_option maxRecDepth 100000 in
set_option maxHeartbeats 4000000 in
theorem RInv_c (x : Int) (a : UInt8) (w : World) (hx : x = u a) :
    Calls Try.prog 26 #[.int .u8 x] w fun e w' => e = .returned (.int .u8 (u (Gf.inv a))) ∧ w = w' := by
  subst hx
  go_enter Try.func26, Try.ntmps26
  go_wp2
  go_loop [3] (fun vi => ∃ (i : Nat), i ≤ 256 ∧ vi = .int .i64 i ∧ NoInv a i) (fun vi => 256 - (intOf vi).toNat)
  case atStart => exact ⟨0, by omega, rfl, fun i h => absurd h (by omega)⟩
  case round =>
    obtain ⟨i, hi, rfl, H⟩ := hrel
    by_cases hlt : i < 256
    · go_wp2_with fail
      refine (RMul_c _ _ a (UInt8.ofNat i) _ rfl (by first | exact ofNat_u i hlt | (rw [← ofNat_u i hlt]; omega))).mono ?_
      rintro e w' ⟨rfl, rfl⟩
      by_cases h1 : Gf.mul a (UInt8.ofNat i) = 1
      · have t1 : (u (Gf.mul a (UInt8.ofNat i)) == 1) = true := by rw [h1]; rfl
        have HE := Lib.hid (Gf.inv_of h1)
        clear h1
        go_wp2
        go_ret
        exact ⟨ret_u8 (by rw [← HE.out]; first | exact ofNat_u i hlt | (rw [← ofNat_u i hlt]; omega)), rfl⟩
      · have t1 : (u (Gf.mul a (UInt8.ofNat i)) == 1) = false := beq_eq_false_iff_ne.2 (fun e => h1 (u_inj (b := 1) e))
        have H2 : NoInv a (i + 1) := fun k hk => by
          rcases Nat.lt_or_ge k i with h | h
          · exact H k h
          · rw [show k = i from by omega]; exact h1
        clear H h1
        go_wp2
        go_round
        case rel => exact ⟨i + 1, by omega, by go_num, H2⟩
        case measure => simp [intOf]; omega
    · have HE := Lib.hid (noInv_all a (by rw [show 256 = i from by omega]; exact H))
      clear H
      go_wp2
      go_ret
      exact ⟨ret_u8 (by rw [HE.out]; rfl), rfl⟩

end Go.Proofs.Ytmnnhmbolbepcaa
