/- The third share fits: plain. -/
import Derived.Test.YtffmnldhklejcaaShThird
namespace Go.Proofs.Ytffmnldhklejcaa
open Go.RowKit

theorem third_join (s a b : List UInt8) (x : UInt8) (hs : s.length = 32) (h0 : a.getD 0 0 ≠ 0) (h1 : b.getD 0 0 ≠ 0) (h2 : a.getD 0 0 ≠ b.getD 0 0) (h3 : x ≠ 0) (h4 : x ≠ a.getD 0 0) (h5 : x ≠ b.getD 0 0) :
    joinS [a, b, third s a b x] = (s, 0) := by
  have hx : xsOf [a, b, third s a b x] = [a.getD 0 0, b.getD 0 0, x] := by simp [xsOf, third]
  have hn : [a.getD 0 0, b.getD 0 0, x].Nodup := by
    simp only [List.nodup_cons, List.mem_cons, List.not_mem_nil, or_false, not_or, not_false_eq_true, List.nodup_nil, and_true]
    exact ⟨⟨h2, fun e => h4 e.symm⟩, fun e => h5 e.symm⟩
  have hm : [0, a.getD 0 0, b.getD 0 0].Nodup := by
    simp only [List.nodup_cons, List.mem_cons, List.not_mem_nil, or_false, not_or, not_false_eq_true, List.nodup_nil, and_true]
    exact ⟨⟨fun e => h0 e.symm, fun e => h1 e.symm⟩, h2⟩
  have hg : Good [a, b, third s a b x] := ⟨rfl, fun j hj => by
    rw [hx]
    match j, hj with
    | 0, _ => exact h0
    | 1, _ => exact h1
    | 2, _ => exact h3, by rw [hx]; exact hn⟩
  rw [joinS_yes hg]
  congr 1
  refine List.ext_getElem (by rw [keyAt_length, hs]) fun i k1 k2 => ?_
  have hi : i < 32 := by rwa [hs] at k2
  simp only [keyAt, List.getElem_map, List.getElem_range]
  have hy : ysOf [a, b, third s a b x] i = [a.getD (i + 1) 0, b.getD (i + 1) 0, thirdB s a b x i] := by
    simp only [ysOf, List.map_cons, List.map_nil]
    congr 3
    simp [third, List.getD_eq_getElem?_getD, hi]
  rw [hy, hx, Gf.atS_yes 0 (by simp) hn]
  have hv : thirdB s a b x i = Gf.lag [0, a.getD 0 0, b.getD 0 0] [s.getD i 0, a.getD (i + 1) 0, b.getD (i + 1) 0] x := by
    unfold thirdB
    rw [Gf.atS_yes x (by simp) hm]
  rw [hv]
  have e0 : Gf.lag [0, a.getD 0 0, b.getD 0 0] [s.getD i 0, a.getD (i + 1) 0, b.getD (i + 1) 0] 0 = s.getD i 0 := Gf.lag_at (xs := [0, a.getD 0 0, b.getD 0 0]) (ys := [s.getD i 0, a.getD (i + 1) 0, b.getD (i + 1) 0]) hm rfl 0 (by simp) (by simp)
  have e1 : Gf.lag [0, a.getD 0 0, b.getD 0 0] [s.getD i 0, a.getD (i + 1) 0, b.getD (i + 1) 0] (a.getD 0 0) = a.getD (i + 1) 0 := Gf.lag_at (xs := [0, a.getD 0 0, b.getD 0 0]) (ys := [s.getD i 0, a.getD (i + 1) 0, b.getD (i + 1) 0]) hm rfl 1 (by simp) (by simp)
  have e2 : Gf.lag [0, a.getD 0 0, b.getD 0 0] [s.getD i 0, a.getD (i + 1) 0, b.getD (i + 1) 0] (b.getD 0 0) = b.getD (i + 1) 0 := Gf.lag_at (xs := [0, a.getD 0 0, b.getD 0 0]) (ys := [s.getD i 0, a.getD (i + 1) 0, b.getD (i + 1) 0]) hm rfl 2 (by simp) (by simp)
  have hp : Gf.Poly 3 (Gf.lag [0, a.getD 0 0, b.getD 0 0] [s.getD i 0, a.getD (i + 1) 0, b.getD (i + 1) 0]) := Gf.lag_poly hm [s.getD i 0, a.getD (i + 1) 0, b.getD (i + 1) 0]
  rw [Gf.getD_eq k2] at e0 e1 e2 hp ⊢
  generalize Gf.lag [0, a.getD 0 0, b.getD 0 0] [s[i], a.getD (i + 1) 0, b.getD (i + 1) 0] = f at *
  rw [← e0]
  exact Gf.lag_is (xs := [a.getD 0 0, b.getD 0 0, x]) (ys := [a.getD (i + 1) 0, b.getD (i + 1) 0, f x]) hn rfl hp (fun j hj _ => by
    match j, hj with
    | 0, _ => exact e1
    | 1, _ => exact e2
    | 2, _ => rfl) 0

theorem third_inj (s t a b : List UInt8) (x : UInt8) (hs : s.length = 32) (ht : t.length = 32) (h0 : a.getD 0 0 ≠ 0) (h1 : b.getD 0 0 ≠ 0) (h2 : a.getD 0 0 ≠ b.getD 0 0) (h3 : x ≠ 0) (h4 : x ≠ a.getD 0 0) (h5 : x ≠ b.getD 0 0) :
    third s a b x = third t a b x ↔ s = t := by
  constructor
  · intro e
    have k1 := third_join s a b x hs h0 h1 h2 h3 h4 h5
    have k2 := third_join t a b x ht h0 h1 h2 h3 h4 h5
    rw [e, k2] at k1
    exact (congrArg Prod.fst k1).symm
  · rintro rfl; rfl

end Go.Proofs.Ytffmnldhklejcaa
