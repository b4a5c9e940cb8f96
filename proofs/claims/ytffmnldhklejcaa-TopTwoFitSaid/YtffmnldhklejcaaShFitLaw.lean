/- Two shares fit any secret: plain. -/
import Derived.Test.YtffmnldhklejcaaShBlindLaw
namespace Go.Proofs.Ytffmnldhklejcaa
open Go.RowKit

/-- both coefficients of a byte's polynomial, from three shares and the secret -/
noncomputable def coef (L : List (List UInt8)) (s : List UInt8) (i : Nat) : UInt8 × UInt8 :=
  (((keyAt L 1).getD i 0 ^^^ s.getD i 0) ^^^ Gf.mul (((keyAt L 1).getD i 0 ^^^ s.getD i 0) ^^^ Gf.mul ((keyAt L 2).getD i 0 ^^^ s.getD i 0) (Gf.inv 2)) (Gf.inv 3),
    Gf.mul (((keyAt L 1).getD i 0 ^^^ s.getD i 0) ^^^ Gf.mul ((keyAt L 2).getD i 0 ^^^ s.getD i 0) (Gf.inv 2)) (Gf.inv 3))

theorem coef_of (p q : UInt8) : (p ^^^ q) ^^^ Gf.mul (Gf.mul 2 (p ^^^ Gf.mul 2 q)) (Gf.inv 2) = Gf.mul 3 q := by
  rw [Gf.mul_comm 2 (p ^^^ _), Gf.mul_assoc, Gf.mul_inv (by decide), Gf.mul_one, Gf.x_four, Gf.x_self, Gf.zero_x]
  conv => lhs; rw [← Gf.one_mul q]
  rw [Gf.one_mul q]
  have h := Gf.mul_x_left 1 2 q
  rw [Gf.one_mul] at h
  rw [← h]
  rfl

theorem coef_fits (s a b : List UInt8) (x : UInt8) (i : Nat) (hi : i < 32) (h0 : a.getD 0 0 ≠ 0) (h1 : b.getD 0 0 ≠ 0) (h2 : a.getD 0 0 ≠ b.getD 0 0) (h4 : x ≠ a.getD 0 0) (h5 : x ≠ b.getD 0 0) :
    Gf.eval [s.getD i 0, (coef [a, b, third s a b x] s i).1, (coef [a, b, third s a b x] s i).2] (a.getD 0 0) = a.getD (i + 1) 0 ∧
    Gf.eval [s.getD i 0, (coef [a, b, third s a b x] s i).1, (coef [a, b, third s a b x] s i).2] (b.getD 0 0) = b.getD (i + 1) 0 := by
  have hx : xsOf [a, b, third s a b x] = [a.getD 0 0, b.getD 0 0, x] := by simp [xsOf, third]
  have hn : [a.getD 0 0, b.getD 0 0, x].Nodup := by
    simp only [List.nodup_cons, List.mem_cons, List.not_mem_nil, or_false, not_or, not_false_eq_true, List.nodup_nil, and_true]
    exact ⟨⟨h2, fun e => h4 e.symm⟩, fun e => h5 e.symm⟩
  have hm : [0, a.getD 0 0, b.getD 0 0].Nodup := by
    simp only [List.nodup_cons, List.mem_cons, List.not_mem_nil, or_false, not_or, not_false_eq_true, List.nodup_nil, and_true]
    exact ⟨⟨fun e => h0 e.symm, fun e => h1 e.symm⟩, h2⟩
  have hy : ysOf [a, b, third s a b x] i = [a.getD (i + 1) 0, b.getD (i + 1) 0, thirdB s a b x i] := by
    simp only [ysOf, List.map_cons, List.map_nil]
    congr 3
    simp [third, List.getD_eq_getElem?_getD, hi]
  have hv : thirdB s a b x i = Gf.lag [0, a.getD 0 0, b.getD 0 0] [s.getD i 0, a.getD (i + 1) 0, b.getD (i + 1) 0] x := by
    unfold thirdB
    rw [Gf.atS_yes x (by simp) hm]
  have e0 : Gf.lag [0, a.getD 0 0, b.getD 0 0] [s.getD i 0, a.getD (i + 1) 0, b.getD (i + 1) 0] 0 = s.getD i 0 := Gf.lag_at (xs := [0, a.getD 0 0, b.getD 0 0]) (ys := [s.getD i 0, a.getD (i + 1) 0, b.getD (i + 1) 0]) hm rfl 0 (by simp) (by simp)
  have e1 : Gf.lag [0, a.getD 0 0, b.getD 0 0] [s.getD i 0, a.getD (i + 1) 0, b.getD (i + 1) 0] (a.getD 0 0) = a.getD (i + 1) 0 := Gf.lag_at (xs := [0, a.getD 0 0, b.getD 0 0]) (ys := [s.getD i 0, a.getD (i + 1) 0, b.getD (i + 1) 0]) hm rfl 1 (by simp) (by simp)
  have e2 : Gf.lag [0, a.getD 0 0, b.getD 0 0] [s.getD i 0, a.getD (i + 1) 0, b.getD (i + 1) 0] (b.getD 0 0) = b.getD (i + 1) 0 := Gf.lag_at (xs := [0, a.getD 0 0, b.getD 0 0]) (ys := [s.getD i 0, a.getD (i + 1) 0, b.getD (i + 1) 0]) hm rfl 2 (by simp) (by simp)
  have hp : Gf.Poly 3 (Gf.lag [0, a.getD 0 0, b.getD 0 0] [s.getD i 0, a.getD (i + 1) 0, b.getD (i + 1) 0]) := Gf.lag_poly hm [s.getD i 0, a.getD (i + 1) 0, b.getD (i + 1) 0]
  have hk : ∀ z, (keyAt [a, b, third s a b x] z).getD i 0 = Gf.lag [0, a.getD 0 0, b.getD 0 0] [s.getD i 0, a.getD (i + 1) 0, b.getD (i + 1) 0] z := fun z => by
    rw [Gf.getD_eq (by rw [keyAt_length]; exact hi)]
    simp only [keyAt, List.getElem_map, List.getElem_range]
    rw [hy, hx, Gf.atS_yes z (by simp) hn, hv]
    generalize Gf.lag [0, a.getD 0 0, b.getD 0 0] [s.getD i 0, a.getD (i + 1) 0, b.getD (i + 1) 0] = f at *
    exact Gf.lag_is (xs := [a.getD 0 0, b.getD 0 0, x]) (ys := [a.getD (i + 1) 0, b.getD (i + 1) 0, f x]) hn rfl hp (fun j hj _ => by
      match j, hj with
      | 0, _ => exact e1
      | 1, _ => exact e2
      | 2, _ => rfl) z
  obtain ⟨l, hl, hf⟩ := hp
  match l, hl with
  | [c0, c1, c2], _ =>
    have ev : ∀ z, Gf.eval [c0, c1, c2] z = c0 ^^^ Gf.mul z (c1 ^^^ Gf.mul z c2) := fun z => by simp only [Gf.eval_cons, Gf.eval_nil, Gf.mul_zero, Gf.x_zero]
    have ec0 : c0 = s.getD i 0 := by rw [← e0, hf 0, ev, Gf.zero_mul, Gf.x_zero]
    have k1 : (keyAt [a, b, third s a b x] 1).getD i 0 ^^^ s.getD i 0 = c1 ^^^ c2 := by rw [hk, hf, ev, ← ec0, Gf.x_comm c0, Gf.x_can', Gf.one_mul, Gf.one_mul]
    have k2 : (keyAt [a, b, third s a b x] 2).getD i 0 ^^^ s.getD i 0 = Gf.mul 2 (c1 ^^^ Gf.mul 2 c2) := by rw [hk, hf, ev, ← ec0, Gf.x_comm c0, Gf.x_can']
    have kq : Gf.mul (((keyAt [a, b, third s a b x] 1).getD i 0 ^^^ s.getD i 0) ^^^ Gf.mul ((keyAt [a, b, third s a b x] 2).getD i 0 ^^^ s.getD i 0) (Gf.inv 2)) (Gf.inv 3) = c2 := by
      rw [k1, k2, coef_of, Gf.mul_comm 3 c2, Gf.mul_assoc, Gf.mul_inv (by decide), Gf.mul_one]
    have kc : coef [a, b, third s a b x] s i = (c1, c2) := by
      unfold coef
      rw [kq, k1, Gf.x_can']
    rw [kc]
    simp only [← ec0]
    exact ⟨by rw [← hf, e1], by rw [← hf, e2]⟩

/-- a share that is a row of a noise, byte by byte -/
theorem row_fits (t m a : List UInt8) (r : Nat) (ha : a.length = 33) (h0 : a.getD 0 0 = pt r) (hd : ∀ i, i < 32 → dat t m r i = a.getD (i + 1) 0) : row t m r = a := by
  refine List.ext_getElem (by rw [row_length, ha]) fun j h1 h2 => ?_
  match j, h1, h2 with
  | 0, _, h2 => rw [Gf.getD_eq h2] at h0; simpa [row] using h0.symm
  | j + 1, h1, h2 =>
    have := hd j (by rw [row_length] at h1; omega)
    rw [Gf.getD_eq h2] at this
    simpa [row] using this

/-- the noise that is reckoned from two shares, each byte -/
theorem fits_two (t X Y xd yd : UInt8) (hX : X ≠ 0) (hY : Y ≠ 0) (h : X ≠ Y) :
    Gf.eval [t, Gf.mul (xd ^^^ t) (Gf.inv X) ^^^ Gf.mul (Gf.mul (Gf.mul (xd ^^^ t) (Gf.inv X) ^^^ Gf.mul (yd ^^^ t) (Gf.inv Y)) (Gf.inv (X ^^^ Y))) X,
      Gf.mul (Gf.mul (xd ^^^ t) (Gf.inv X) ^^^ Gf.mul (yd ^^^ t) (Gf.inv Y)) (Gf.inv (X ^^^ Y))] X = xd ∧
    Gf.eval [t, Gf.mul (xd ^^^ t) (Gf.inv X) ^^^ Gf.mul (Gf.mul (Gf.mul (xd ^^^ t) (Gf.inv X) ^^^ Gf.mul (yd ^^^ t) (Gf.inv Y)) (Gf.inv (X ^^^ Y))) X,
      Gf.mul (Gf.mul (xd ^^^ t) (Gf.inv X) ^^^ Gf.mul (yd ^^^ t) (Gf.inv Y)) (Gf.inv (X ^^^ Y))] Y = yd := by
  have hXY : X ^^^ Y ≠ 0 := fun e => h (Gf.x_eq_zero.1 e)
  obtain ⟨p, hp⟩ : ∃ p, p = Gf.mul (xd ^^^ t) (Gf.inv X) := ⟨_, rfl⟩
  obtain ⟨q, hq⟩ : ∃ q, q = Gf.mul (yd ^^^ t) (Gf.inv Y) := ⟨_, rfl⟩
  have kp : Gf.mul X p = xd ^^^ t := by rw [hp, Gf.mul_comm, Gf.mul_assoc, Gf.inv_mul hX, Gf.mul_one]
  have kq : Gf.mul Y q = yd ^^^ t := by rw [hq, Gf.mul_comm, Gf.mul_assoc, Gf.inv_mul hY, Gf.mul_one]
  rw [← hp, ← hq]
  obtain ⟨m, hm⟩ : ∃ m, m = Gf.mul (p ^^^ q) (Gf.inv (X ^^^ Y)) := ⟨_, rfl⟩
  have km : Gf.mul m (X ^^^ Y) = p ^^^ q := by rw [hm, Gf.mul_assoc, Gf.inv_mul hXY, Gf.mul_one]
  rw [← hm]
  have ev : ∀ z, Gf.eval [t, p ^^^ Gf.mul m X, m] z = t ^^^ Gf.mul z (p ^^^ Gf.mul m X ^^^ Gf.mul z m) := fun z => by simp only [Gf.eval_cons, Gf.eval_nil, Gf.mul_zero, Gf.x_zero]
  constructor
  · rw [ev, Gf.mul_comm X m, Gf.x_can', kp, Gf.x_comm xd t, Gf.x_can]
  · rw [ev, Gf.x_assoc, Gf.mul_comm Y m, ← Gf.mul_x_right, km, Gf.x_can, kq, Gf.x_comm yd t, Gf.x_can]

end Go.Proofs.Ytffmnldhklejcaa
