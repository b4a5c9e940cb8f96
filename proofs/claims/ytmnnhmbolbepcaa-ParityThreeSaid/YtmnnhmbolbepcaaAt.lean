/- The walk of field.At: what it returns, as the plain field of 256 elements has it. -/
import Derived.Test.YtmnnhmbolbepcaaFld
import Derived.Test.YtmnnhmbolbepcaaGfAt
namespace Go.Proofs.Ytmnnhmbolbepcaa
open Go.RowKit

set_option maxRecDepth 100000 in
set_option maxHeartbeats 4000000 in
theorem At_odd (A D : Option Addr) (n c m d : Nat) (x : Int) (xs ys : List UInt8) (a : UInt8) (w : World) (hn : n = xs.length) (hm : m = ys.length) (hne : xs.length ≠ ys.length) :
    Calls Try.prog 15 #[.slice A n c, .slice D m d, .int .u8 x] w fun e w' => e = .returned (.tuple #[.int .u8 (u (Gf.atS xs ys a).1), .bool (Gf.atS xs ys a).2]) ∧ w = w' := by
  have H := Lib.hid (Gf.atS_odd a hne)
  have h1 : ((xs.length : Int) != (ys.length : Int)) = true := by rw [bne_iff_ne]; omega
  subst hn hm
  go_enter Try.func15, Try.ntmps15
  go_wp2
  go_ret2
  exact ⟨by rw [H.out]; rfl, rfl⟩

set_option maxRecDepth 100000 in
set_option maxHeartbeats 4000000 in
theorem At_even (A D : Option Addr) (n c m d : Nat) (x : Int) (xs ys : List UInt8) (a : UInt8) (w : World) (hn : n = xs.length) (hm : m = xs.length) (hl : xs.length = ys.length) (hb : xs.length ≤ 281474976710650) (hx : x = u a)
    (hxs : Bytes w A xs) (hys : Bytes w D ys) :
    Calls Try.prog 15 #[.slice A n c, .slice D m d, .int .u8 x] w fun e w' => e = .returned (.tuple #[.int .u8 (u (Gf.atS xs ys a).1), .bool (Gf.atS xs ys a).2]) ∧ w = w' := by
  subst hx hn hm
  have HL := Lib.hid hl
  have HS := Lib.hid (Gf.rest_start a hl)
  clear hl
  generalize Gf.atS xs ys a = r at *
  go_enter Try.func15, Try.ntmps15
  go_wp2
  go_loop [8, 21] (fun vo vi => ∃ (i : Nat) (o : UInt8), i ≤ xs.length ∧ vo = .int .u8 (u o) ∧ vi = .int .i64 i ∧ Hid (Gf.rest xs ys a i o = r)) (fun _ vi => xs.length - (intOf vi).toNat)
  case atStart => exact ⟨0, 0, Nat.zero_le _, rfl, rfl, HS⟩
  case round =>
    obtain ⟨i, o, hi, rfl, rfl, H⟩ := hrel
    by_cases hlt : i < xs.length
    · obtain ⟨ad, rfl, hc⟩ := hxs i hlt
      obtain ⟨ad2, rfl, hc2⟩ := hys i (by have := HL.out; omega)
      have H2 := Lib.hid ((Gf.rest_step (ys := ys) a o i hlt (by have := HL.out; omega)).symm.trans H.out)
      clear H
      generalize hq : ys[i]'(by have := HL.out; omega) = q at *
      clear hq
      generalize hp : xs[i] = p at *
      have HP := Lib.hid hp
      clear hp
      go_wp2
      go_loop [11, 32] (fun vp vj => ∃ (j : Nat) (q : UInt8), j ≤ xs.length ∧ vp = .int .u8 (u q) ∧ vj = .int .i64 j ∧ Hid (Gf.inner xs ys a i j o q = r)) (fun _ vj => xs.length - (intOf vj).toNat)
      case atStart => exact ⟨0, q, Nat.zero_le _, rfl, rfl, H2⟩
      case round =>
        clear H2
        obtain ⟨j, q', hj, rfl, rfl, H3⟩ := hrel
        by_cases hjlt : j < xs.length
        · obtain ⟨ad3, e3, hc3⟩ := hxs j hjlt
          cases e3
          by_cases hji : j = i
          · subst hji
            have H4 := Lib.hid ((Gf.inner_skip (ys := ys) a o q' j hlt).symm.trans H3.out)
            clear H3
            have t1 : ((j : Int) == (j : Int)) = true := by simp
            go_wp2
            go_round
            case rel => exact ⟨j + 1, q', by omega, rfl, by go_num, H4⟩
            case measure => simp [intOf]; omega
          · have t1 : ((j : Int) == (i : Int)) = false := beq_eq_false_iff_ne.2 (by omega)
            generalize hs : xs[j] = s at *
            by_cases hx : s = p
            · have H4 := Lib.hid ((Gf.inner_twice (ys := ys) a o q' i j hlt hjlt hji (by rw [hs, HP.out, hx])).symm.trans H3.out)
              clear H3 hs
              subst hx
              have t2 : (u s == u s) = true := by simp
              go_wp2
              go_ret2
              exact ⟨by rw [← H4.out]; rfl, rfl⟩
            · have H4 := Lib.hid ((Gf.inner_step (ys := ys) a o q' i j hlt hjlt (by rw [hs, HP.out]; exact hx)).symm.trans H3.out)
              rw [hs, HP.out] at H4
              have t2 : (u s == u p) = false := beq_eq_false_iff_ne.2 (fun e => hx (u_inj e))
              clear H3 hs hx
              go_wp2_with fail
              rw [xor_u, xor_u]
              refine (Inv_c _ (p ^^^ s) _ rfl).mono ?_
              rintro e w' ⟨rfl, rfl⟩
              go_wp2_with fail
              refine (Mul_c _ _ (a ^^^ s) (Gf.inv (p ^^^ s)) _ rfl rfl).mono ?_
              rintro e w' ⟨rfl, rfl⟩
              go_wp2_with fail
              refine (Mul_c _ _ q' (Gf.mul (a ^^^ s) (Gf.inv (p ^^^ s))) _ rfl rfl).mono ?_
              rintro e w' ⟨rfl, rfl⟩
              go_wp2_with fail
              go_round
              case rel => exact ⟨j + 1, _, by omega, rfl, by go_num, H4⟩
              case measure => simp [intOf]; omega
        · have H4 := Lib.hid ((Gf.inner_end (ys := ys) a o q' i j (by omega)).symm.trans H3.out)
          clear H3
          go_wp2
          go_round
          case rel => exact ⟨i + 1, o ^^^ q', by omega, by rw [xor_u], by go_num, H4⟩
          case measure => simp [intOf]; omega
    · have H2 := Lib.hid ((Gf.rest_end (ys := ys) a o i (by omega)).symm.trans H.out)
      clear H
      go_wp2
      go_ret2
      exact ⟨by rw [← H2.out]; rfl, rfl⟩

/-- field.At, whatever the two slices are -/
theorem At_c (A D : Option Addr) (n c m d : Nat) (x : Int) (xs ys : List UInt8) (a : UInt8) (w : World) (hn : n = xs.length) (hm : m = ys.length) (hb : xs.length ≤ 281474976710650) (hx : x = u a)
    (hxs : Bytes w A xs) (hys : Bytes w D ys) :
    Calls Try.prog 15 #[.slice A n c, .slice D m d, .int .u8 x] w fun e w' => e = .returned (.tuple #[.int .u8 (u (Gf.atS xs ys a).1), .bool (Gf.atS xs ys a).2]) ∧ w = w' := by
  by_cases h : xs.length = ys.length
  · exact At_even A D n c m d x xs ys a w hn (by rw [hm, h]) h hb hx hxs hys
  · exact At_odd A D n c m d x xs ys a w hn hm h

end Go.Proofs.Ytmnnhmbolbepcaa
