/- Any three shares tell the secret: plain. -/
import Derived.Test.YtffmnldhklejcaaShJoin
namespace Go.Proofs.Ytffmnldhklejcaa
open Go.RowKit

theorem pt_ne (r : Nat) (h : r < 255) : pt r ≠ 0 := fun e => by
  have h1 := u_pt r h
  rw [e] at h1
  have h2 : u (0 : UInt8) = 0 := rfl
  omega
theorem pt_inj {a b : Nat} (ha : a < 255) (hb : b < 255) (h : pt a = pt b) : a = b := by
  have h1 := u_pt a ha
  have h2 := u_pt b hb
  rw [h] at h1
  omega
theorem row_data (s no : List UInt8) (r i : Nat) (hi : i < 32) : (row s no r).getD (i + 1) 0 = dat s no r i := by simp [row, List.getD_eq_getElem?_getD, hi]
theorem row_head (s no : List UInt8) (r : Nat) : (row s no r).getD 0 0 = pt r := by simp [row]
theorem xsOf_rows (s no : List UInt8) (a b c : Nat) : xsOf [row s no a, row s no b, row s no c] = [pt a, pt b, pt c] := by simp [xsOf, row]

theorem good_rows (s no : List UInt8) (a b c : Nat) (ha : a < 255) (hb : b < 255) (hc : c < 255) : Good [row s no a, row s no b, row s no c] ↔ a ≠ b ∧ a ≠ c ∧ b ≠ c := by
  constructor
  · intro h
    have hn := h.2.2
    rw [xsOf_rows] at hn
    simp at hn
    exact ⟨fun e => hn.1.1 (by rw [e]), fun e => hn.1.2 (by rw [e]), fun e => hn.2 (by rw [e])⟩
  · rintro ⟨h1, h2, h3⟩
    refine ⟨rfl, fun j hj => ?_, ?_⟩
    · rw [xsOf_rows]
      match j, hj with
      | 0, _ => exact pt_ne a ha
      | 1, _ => exact pt_ne b hb
      | 2, _ => exact pt_ne c hc
    · rw [xsOf_rows]
      simp only [List.nodup_cons, List.mem_cons, List.not_mem_nil, or_false, not_or, not_false_eq_true, List.nodup_nil, and_true]
      exact ⟨⟨fun e => h1 (pt_inj ha hb e), fun e => h2 (pt_inj ha hc e)⟩, fun e => h3 (pt_inj hb hc e)⟩

theorem join_rows (s no : List UInt8) (hs : s.length = 32) (a b c : Nat) (ha : a < 255) (hb : b < 255) (hc : c < 255) (h : a ≠ b ∧ a ≠ c ∧ b ≠ c) : joinS [row s no a, row s no b, row s no c] = (s, 0) := by
  have hg := (good_rows s no a b c ha hb hc).2 h
  rw [joinS_yes hg]
  congr 1
  refine List.ext_getElem (by rw [keyAt_length, hs]) fun i h1 h2 => ?_
  have hi : i < 32 := by rwa [hs] at h2
  have hn := hg.2.2
  simp only [keyAt, List.getElem_map, List.getElem_range]
  have hy : ysOf [row s no a, row s no b, row s no c] i = [dat s no a i, dat s no b i, dat s no c i] := by
    simp only [ysOf, List.map_cons, List.map_nil, row_data _ _ _ _ hi]
  rw [hy, Gf.atS_yes 0 (by simp [xsOf]) hn]
  rw [xsOf_rows] at hn ⊢
  have hp := Gf.Poly.of [s.getD i 0, no.getD i 0, no.getD (32 + i) 0]
  have h0 := Gf.lag_is (ys := [dat s no a i, dat s no b i, dat s no c i]) hn rfl hp (by
    intro j hj hj2
    match j, hj with
    | 0, _ => rfl
    | 1, _ => rfl
    | 2, _ => rfl) 0
  rw [h0, Gf.eval_cons, Gf.zero_mul, Gf.x_zero, Gf.getD_eq h2]

end Go.Proofs.Ytffmnldhklejcaa
