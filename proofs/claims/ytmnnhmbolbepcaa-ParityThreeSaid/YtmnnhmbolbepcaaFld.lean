/- The walks of package field: what each function returns, as the plain field of 256 elements has it. -/
import Derived.Test.YtmnnhmbolbepcaaBase
namespace Go.Proofs.Ytmnnhmbolbepcaa
open Go.RowKit

theorem mulGo_step (n : Nat) (o a b : UInt8) : Gf.mulGo (n + 1) o a b = Gf.mulGo n (if b &&& 1 = 1 then o ^^^ a else o) (Gf.dbl a) (b >>> 1) := rfl

set_option maxRecDepth 100000 in
set_option maxHeartbeats 1000000 in
theorem Mul_c (x y : Int) (a b : UInt8) (w : World) (hx : x = u a) (hy : y = u b) :
    Calls Try.prog 21 #[.int .u8 x, .int .u8 y] w fun e w' => e = .returned (.int .u8 (u (Gf.mul a b))) ∧ w = w' := by
  subst hx hy
  go_enter Try.func21, Try.ntmps21
  go_wp2
  go_loop [0, 1, 5, 7] (fun va vb vo vi => ∃ (i : Nat) (a' b' o' : UInt8), i ≤ 8 ∧ va = .int .u8 (u a') ∧ vb = .int .u8 (u b') ∧ vo = .int .u8 (u o') ∧ vi = .int .i64 i ∧ Hid (Gf.mulGo (8 - i) o' a' b' = Gf.mul a b))
    (fun _ _ _ vi => 8 - (intOf vi).toNat)
  case atStart => exact ⟨0, a, b, 0, by omega, rfl, rfl, rfl, rfl, rfl⟩
  case round =>
    obtain ⟨i, a', b', o', hi, rfl, rfl, rfl, rfl, H⟩ := hrel
    have ha0 := u_lo a'
    have ha1 := u_hi a'
    have hb0 := u_lo b'
    have hb1 := u_hi b'
    by_cases hlt : i < 8
    · by_cases hb : b' &&& 1 = 1
      · have hb' : (Go.bits .and .u8 (u b') 1 == 1) = true := by rw [and1_u, hb]; rfl
        have H2 : Hid (Gf.mulGo (8 - (i + 1)) (o' ^^^ a') (Gf.dbl a') (b' >>> 1) = Gf.mul a b) := by
          have h := H.out
          rw [show 8 - i = (8 - (i + 1)) + 1 from by omega, mulGo_step, if_pos hb] at h
          exact h
        clear hb H
        go_wp2
        go_round
        case rel => exact ⟨i + 1, Gf.dbl a', b' >>> 1, o' ^^^ a', by omega, by rw [dbl_u], by rw [half_u], by rw [xor_u], by go_num, H2⟩
        case measure => simp [intOf]; omega
      · have hb' : (Go.bits .and .u8 (u b') 1 == 1) = false := by
          rw [and1_u]; exact beq_eq_false_iff_ne.2 (fun e => hb (u_inj (b := 1) e))
        have H2 : Hid (Gf.mulGo (8 - (i + 1)) o' (Gf.dbl a') (b' >>> 1) = Gf.mul a b) := by
          have h := H.out
          rw [show 8 - i = (8 - (i + 1)) + 1 from by omega, mulGo_step, if_neg hb] at h
          exact h
        clear hb H
        go_wp2
        go_round
        case rel => exact ⟨i + 1, Gf.dbl a', b' >>> 1, o', by omega, by rw [dbl_u], by rw [half_u], rfl, by go_num, H2⟩
        case measure => simp [intOf]; omega
    · go_wp2
      go_ret
      have h := H.out
      rw [show 8 - i = 0 from by omega] at h
      exact ⟨ret_u8 (by rw [← h]; rfl), rfl⟩

/-- a contract that leaves the world alone, at a quiet region's call -/
theorem quiet_eq {P : Program} {f : FuncId} {args : Array Value} {w : World} {n : Nat} {v : Value}
    (h : Calls P f args (w.drewN n) fun e w' => e = .returned v ∧ w.drewN n = w') : Calls P f args (w.drewN n) fun e w'' => e = .returned v ∧ ∃ m, w'' = w.drewN m :=
  h.mono fun _ _ ⟨he, hm⟩ => ⟨he, n, hm.symm⟩
theorem quiet_eq_add {P : Program} {f : FuncId} {args : Array Value} {w : World} {a n : Nat} {v : Value}
    (h : Calls P f args (w.drewN (a + n)) fun e w' => e = .returned v ∧ w.drewN (a + n) = w') :
    Calls P f args (w.drewN (a + n)) fun e w'' => e = .returned v ∧ ∃ m, w'' = w.drewN (a + m) :=
  h.mono fun _ _ ⟨he, hm⟩ => ⟨he, n, hm.symm⟩

theorem invGo_step (n : Nat) (o a : UInt8) : Gf.invGo (n + 1) o a = Gf.invGo n (Gf.mul o (Gf.mul a a)) (Gf.mul a a) := rfl

set_option maxRecDepth 100000 in
set_option maxHeartbeats 1000000 in
theorem Inv_c (x : Int) (a : UInt8) (w : World) (hx : x = u a) :
    Calls Try.prog 22 #[.int .u8 x] w fun e w' => e = .returned (.int .u8 (u (Gf.inv a))) ∧ w = w' := by
  subst hx
  go_enter Try.func22, Try.ntmps22
  go_wp2
  go_loop [0, 3, 4] (fun va vo vi => ∃ (i : Nat) (a' o' : UInt8), i ≤ 7 ∧ va = .int .u8 (u a') ∧ vo = .int .u8 (u o') ∧ vi = .int .i64 i ∧ Hid (Gf.invGo (7 - i) o' a' = Gf.inv a))
    (fun _ _ vi => 7 - (intOf vi).toNat)
  case atStart => exact ⟨0, a, 1, by omega, rfl, rfl, rfl, rfl⟩
  case round =>
    obtain ⟨i, a', o', hi, rfl, rfl, rfl, H⟩ := hrel
    by_cases hlt : i < 7
    · have H2 : Hid (Gf.invGo (7 - (i + 1)) (Gf.mul o' (Gf.mul a' a')) (Gf.mul a' a') = Gf.inv a) := by
        have h := H.out
        rw [show 7 - i = (7 - (i + 1)) + 1 from by omega, invGo_step] at h
        exact h
      clear H
      go_wp2_with fail
      refine (Mul_c _ _ a' a' _ rfl rfl).mono ?_
      rintro e w' ⟨rfl, rfl⟩
      go_wp2_with fail
      refine (Mul_c _ _ o' (Gf.mul a' a') _ rfl rfl).mono ?_
      rintro e w' ⟨rfl, rfl⟩
      go_wp2_with fail
      go_round
      case rel => exact ⟨i + 1, Gf.mul a' a', Gf.mul o' (Gf.mul a' a'), by omega, rfl, rfl, by go_num, H2⟩
      case measure => simp [intOf]; omega
    · go_wp2
      go_ret
      have h := H.out
      rw [show 7 - i = 0 from by omega] at h
      exact ⟨ret_u8 (by rw [← h]; rfl), rfl⟩

/-- the loop of a value -/
def hor (x : UInt8) (l : List UInt8) : UInt8 := l.foldr (fun c o => Gf.mul o x ^^^ c) 0
theorem hor_eval (x : UInt8) (l : List UInt8) : hor x l = Gf.eval l x := by
  unfold hor; rw [← List.foldl_reverse]; exact Gf.horner x l
theorem hor_step (x : UInt8) (l : List UInt8) (i : Nat) (h : i < l.length) : hor x (l.drop (l.length - (i + 1))) = Gf.mul (hor x (l.drop (l.length - i))) x ^^^ l[l.length - (i + 1)] := by
  have e : l.drop (l.length - (i + 1)) = l[l.length - (i + 1)] :: l.drop (l.length - i) := by
    rw [List.drop_eq_getElem_cons (by omega)]; congr 2; omega
  rw [e]; rfl

end Go.Proofs.Ytmnnhmbolbepcaa
