/- The walks of the reference's Eval and At. -/
import Derived.Test.YtmnnhmbolbepcaaRef
namespace Go.Proofs.Ytmnnhmbolbepcaa
open Go.RowKit

theorem powers_step (x : UInt8) (l : List UInt8) (s p : UInt8) (i : Nat) (h : i < l.length) :
    Gf.powers x (l.drop i) s p = Gf.powers x (l.drop (i + 1)) (s ^^^ Gf.mul l[i] p) (Gf.mul p x) := by
  rw [List.drop_eq_getElem_cons h]; rfl
theorem powers_end (x : UInt8) (l : List UInt8) (s p : UInt8) (i : Nat) (h : l.length ≤ i) : Gf.powers x (l.drop i) s p = s := by
  rw [List.drop_eq_nil_of_le h]; rfl

set_option maxRecDepth 100000 in
set_option maxHeartbeats 4000000 in
theorem RAt_odd (A D : Option Addr) (n c m d : Nat) (x : Int) (xs ys : List UInt8) (a : UInt8) (w : World) (hn : n = xs.length) (hm : m = ys.length) (hne : xs.length ≠ ys.length) :
    Calls Try.prog 19 #[.slice A n c, .slice D m d, .int .u8 x] w fun e w' => e = .returned (.tuple #[.int .u8 (u (Gf.atS xs ys a).1), .bool (Gf.atS xs ys a).2]) ∧ Drawn w w' := by
  have H := Lib.hid (Gf.atS_odd a hne)
  have h1 : ((xs.length : Int) != (ys.length : Int)) = true := by rw [bne_iff_ne]; omega
  subst hn hm
  go_enter Try.func19, Try.ntmps19
  go_wp2
  go_ret2
  exact ⟨by rw [H.out]; rfl, Drawn.refl _⟩

set_option maxRecDepth 100000 in
set_option maxHeartbeats 1000000 in
theorem RAt_even (A D : Option Addr) (n c m d : Nat) (x : Int) (xs ys : List UInt8) (a : UInt8) (w : World) (hn : n = xs.length) (hm : m = xs.length) (hl : xs.length = ys.length) (hb : xs.length ≤ 281474976710650) (hx : x = u a)
    (hxs : Bytes w A xs) (hys : Bytes w D ys) :
    Calls Try.prog 19 #[.slice A n c, .slice D m d, .int .u8 x] w fun e w' => e = .returned (.tuple #[.int .u8 (u (Gf.atS xs ys a).1), .bool (Gf.atS xs ys a).2]) ∧ Drawn w w' := by
  subst hx hn hm
  have HL := Lib.hid hl
  have HS := Lib.hid (Gf.rest_start a hl)
  clear hl
  generalize Gf.atS xs ys a = r at *
  go_enter Try.func19, Try.ntmps19
  go_wp2
  go_loopw [8, 19] (fun vo vi w' => ∃ (i : Nat) (o : UInt8), i ≤ xs.length ∧ vo = .int .u8 (u o) ∧ vi = .int .i64 i ∧ Hid (Gf.rest xs ys a i o = r) ∧ Drawn w w') (fun _ vi _ => xs.length - (intOf vi).toNat)
  case atStart => exact ⟨0, 0, Nat.zero_le _, rfl, rfl, HS, Drawn.refl _⟩
  case round =>
    clear HS
    obtain ⟨i, o, hi, rfl, rfl, H, ⟨nd, rfl⟩⟩ := hrel
    by_cases hlt : i < xs.length
    · obtain ⟨ad, rfl, hc⟩ := hxs i hlt
      obtain ⟨ad2, rfl, hc2⟩ := hys i (by have := HL.out; omega)
      have H2 := Lib.hid ((Gf.rest_step (ys := ys) a o i hlt (by have := HL.out; omega)).symm.trans H.out)
      clear H
      generalize hq : ys[i]'(by have := HL.out; omega) = q at *
      clear hq
      generalize hp : xs[i] = p at *
      have HP := Lib.hid hp
      clear hp
      have i0 : (0 : Int) ≤ (i : Int) := by omega
      have i1 : (i : Int) < (xs.length : Int) := by omega
      go_wp2
      go_loopw [10, 28] (fun vp vj w' => ∃ (j : Nat) (q : UInt8), j ≤ xs.length ∧ vp = .int .u8 (u q) ∧ vj = .int .i64 j ∧ Hid (Gf.inner xs ys a i j o q = r) ∧ Drawn w w') (fun _ vj _ => xs.length - (intOf vj).toNat)
      case atStart => exact ⟨0, q, Nat.zero_le _, rfl, rfl, H2, (Drawn.step (Drawn.refl _) _)⟩
      case round =>
        clear H2
        obtain ⟨j, q', hj, rfl, rfl, H3, ⟨nd2, rfl⟩⟩ := hrel
        by_cases hjlt : j < xs.length
        · obtain ⟨ad3, e3, hc3⟩ := hxs j hjlt
          cases e3
          have j0 : (0 : Int) ≤ (j : Int) := by omega
          have j1 : (j : Int) < (xs.length : Int) := by omega
          by_cases hji : j = i
          · subst hji
            have H4 := Lib.hid ((Gf.inner_skip (ys := ys) a o q' j hlt).symm.trans H3.out)
            clear H3
            have t1 : ((j : Int) != (j : Int)) = false := by simp
            go_wp2
            go_quiet (fail)
            go_wp2
            go_roundw
            case rel => exact ⟨j + 1, q', by omega, rfl, by go_num, H4, (Drawn.step (Drawn.refl _) _)⟩
            case measure => simp [intOf]; omega
          · have t1 : ((j : Int) != (i : Int)) = true := by rw [bne_iff_ne]; omega
            generalize hs : xs[j] = s at *
            by_cases hx : s = p
            · have H4 := Lib.hid ((Gf.inner_twice (ys := ys) a o q' i j hlt hjlt hji (by rw [hs, HP.out, hx])).symm.trans H3.out)
              clear H3 hs
              subst hx
              have t2 : (u s == u s) = true := by simp
              go_wp2
              go_quiet (fail)
              go_wp2
              go_ret2
              exact ⟨by rw [← H4.out]; rfl, (Drawn.step (Drawn.step (Drawn.refl _) _) _)⟩
            · have H4 := Lib.hid ((Gf.inner_step (ys := ys) a o q' i j hlt hjlt (by rw [hs, HP.out]; exact hx)).symm.trans H3.out)
              rw [hs, HP.out] at H4
              have t2 : (u s == u p) = false := beq_eq_false_iff_ne.2 (fun e => hx (u_inj e))
              have x1 := xor_u p s
              have x2 := xor_u a s
              clear H3 hs hx
              go_wp2
              go_quiet (fail)
              go_wp2
              have C1 := fun W => RInv_c (u (p ^^^ s)) (p ^^^ s) W rfl
              have C2 := fun W => RMul_c (u (a ^^^ s)) (u (Gf.inv (p ^^^ s))) (a ^^^ s) (Gf.inv (p ^^^ s)) W rfl rfl
              have C3 := fun W => RMul_c (u q') (u (Gf.mul (a ^^^ s) (Gf.inv (p ^^^ s)))) q' (Gf.mul (a ^^^ s) (Gf.inv (p ^^^ s))) W rfl rfl
              have K1 := Lib.hid C1
              have K2 := Lib.hid C2
              have K3 := Lib.hid C3
              clear C1 C2 C3
              go_quiet ((first | (go_at_call 26; with_reducible exact quiet_eq_add (K1.out _)) | (go_at_call 25; with_reducible exact quiet_eq_add (K2.out _)) | (go_at_call 25; with_reducible exact quiet_eq_add (K3.out _))))
              clear x1 x2 t1 t2 i0 i1 j0 j1
              go_wp2
              go_roundw
              case rel => exact ⟨j + 1, _, by omega, rfl, by go_num, H4, Drawn.step (Drawn.refl _) _⟩
              case measure => simp [intOf]; omega
        · have H4 := Lib.hid ((Gf.inner_end (ys := ys) a o q' i j (by omega)).symm.trans H3.out)
          clear H3
          go_wp2
          go_roundw
          case rel => exact ⟨i + 1, o ^^^ q', by omega, by rw [xor_u], by go_num, H4, (Drawn.step (Drawn.refl _) _)⟩
          case measure => simp [intOf]; omega
    · have H2 := Lib.hid ((Gf.rest_end (ys := ys) a o i (by omega)).symm.trans H.out)
      clear H
      go_wp2
      go_ret2
      exact ⟨by rw [← H2.out]; rfl, (Drawn.step (Drawn.refl _) _)⟩

/-- the reference's At, whatever the two slices are -/
theorem RAt_c (A D : Option Addr) (n c m d : Nat) (x : Int) (xs ys : List UInt8) (a : UInt8) (w : World) (hn : n = xs.length) (hm : m = ys.length) (hb : xs.length ≤ 281474976710650) (hx : x = u a)
    (hxs : Bytes w A xs) (hys : Bytes w D ys) :
    Calls Try.prog 19 #[.slice A n c, .slice D m d, .int .u8 x] w fun e w' => e = .returned (.tuple #[.int .u8 (u (Gf.atS xs ys a).1), .bool (Gf.atS xs ys a).2]) ∧ Drawn w w' := by
  by_cases h : xs.length = ys.length
  · exact RAt_even A D n c m d x xs ys a w hn (by rw [hm, h]) h hb hx hxs hys
  · exact RAt_odd A D n c m d x xs ys a w hn hm h

end Go.Proofs.Ytmnnhmbolbepcaa
