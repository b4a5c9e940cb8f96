/- Shares in another order are joined to the same: plain. -/
import Derived.Test.YtffmnldhklejcaaShAnyLaw
namespace Go.Proofs.Ytffmnldhklejcaa
open Go.RowKit

theorem lag_perm1 {p0 p1 p2 q0 q1 q2 : UInt8} (hn : [p0, p1, p2].Nodup) (hn' : [p2, p0, p1].Nodup) (x : UInt8) : Gf.lag [p2, p0, p1] [q2, q0, q1] x = Gf.lag [p0, p1, p2] [q0, q1, q2] x := by
  have e0 : Gf.lag [p0, p1, p2] [q0, q1, q2] p0 = q0 := Gf.lag_at (xs := [p0, p1, p2]) (ys := [q0, q1, q2]) hn rfl 0 (by simp) (by simp)
  have e1 : Gf.lag [p0, p1, p2] [q0, q1, q2] p1 = q1 := Gf.lag_at (xs := [p0, p1, p2]) (ys := [q0, q1, q2]) hn rfl 1 (by simp) (by simp)
  have e2 : Gf.lag [p0, p1, p2] [q0, q1, q2] p2 = q2 := Gf.lag_at (xs := [p0, p1, p2]) (ys := [q0, q1, q2]) hn rfl 2 (by simp) (by simp)
  have hp : Gf.Poly 3 (Gf.lag [p0, p1, p2] [q0, q1, q2]) := Gf.lag_poly hn [q0, q1, q2]
  generalize Gf.lag [p0, p1, p2] [q0, q1, q2] = f at *
  exact Gf.lag_is (xs := [p2, p0, p1]) (ys := [q2, q0, q1]) hn' rfl hp (fun i hi _ => by
    match i, hi with
    | 0, _ => exact e2
    | 1, _ => exact e0
    | 2, _ => exact e1) x
theorem lag_perm2 {p0 p1 p2 q0 q1 q2 : UInt8} (hn : [p0, p1, p2].Nodup) (hn' : [p1, p0, p2].Nodup) (x : UInt8) : Gf.lag [p1, p0, p2] [q1, q0, q2] x = Gf.lag [p0, p1, p2] [q0, q1, q2] x := by
  have e0 : Gf.lag [p0, p1, p2] [q0, q1, q2] p0 = q0 := Gf.lag_at (xs := [p0, p1, p2]) (ys := [q0, q1, q2]) hn rfl 0 (by simp) (by simp)
  have e1 : Gf.lag [p0, p1, p2] [q0, q1, q2] p1 = q1 := Gf.lag_at (xs := [p0, p1, p2]) (ys := [q0, q1, q2]) hn rfl 1 (by simp) (by simp)
  have e2 : Gf.lag [p0, p1, p2] [q0, q1, q2] p2 = q2 := Gf.lag_at (xs := [p0, p1, p2]) (ys := [q0, q1, q2]) hn rfl 2 (by simp) (by simp)
  have hp : Gf.Poly 3 (Gf.lag [p0, p1, p2] [q0, q1, q2]) := Gf.lag_poly hn [q0, q1, q2]
  generalize Gf.lag [p0, p1, p2] [q0, q1, q2] = f at *
  exact Gf.lag_is (xs := [p1, p0, p2]) (ys := [q1, q0, q2]) hn' rfl hp (fun i hi _ => by
    match i, hi with
    | 0, _ => exact e1
    | 1, _ => exact e0
    | 2, _ => exact e2) x

theorem joinS_perm1 {l0 l1 l2 : List UInt8} (h : Good [l0, l1, l2]) : joinS [l2, l0, l1] = (keyAt [l0, l1, l2] 0, 0) := by
  have hn := h.2.2
  have hn' : (xsOf [l2, l0, l1]).Nodup := by
    simp [xsOf] at hn ⊢
    exact ⟨⟨fun e => hn.1.2 e.symm, fun e => hn.2 e.symm⟩, hn.1.1⟩
  have hg : Good [l2, l0, l1] := ⟨rfl, fun j hj => by
    match j, hj with
    | 0, _ => exact h.2.1 2 (by omega)
    | 1, _ => exact h.2.1 0 (by omega)
    | 2, _ => exact h.2.1 1 (by omega), hn'⟩
  rw [joinS_yes hg]
  congr 1
  unfold keyAt
  refine List.map_congr_left fun i _ => ?_
  rw [Gf.atS_yes 0 (by simp [xsOf, ysOf]) hn', Gf.atS_yes 0 (by simp [xsOf, ysOf]) hn]
  exact lag_perm1 hn hn' 0
theorem joinS_perm2 {l0 l1 l2 : List UInt8} (h : Good [l0, l1, l2]) : joinS [l1, l0, l2] = (keyAt [l0, l1, l2] 0, 0) := by
  have hn := h.2.2
  have hn' : (xsOf [l1, l0, l2]).Nodup := by
    simp [xsOf] at hn ⊢
    exact ⟨⟨fun e => hn.1.1 e.symm, hn.2⟩, hn.1.2⟩
  have hg : Good [l1, l0, l2] := ⟨rfl, fun j hj => by
    match j, hj with
    | 0, _ => exact h.2.1 1 (by omega)
    | 1, _ => exact h.2.1 0 (by omega)
    | 2, _ => exact h.2.1 2 (by omega), hn'⟩
  rw [joinS_yes hg]
  congr 1
  unfold keyAt
  refine List.map_congr_left fun i _ => ?_
  rw [Gf.atS_yes 0 (by simp [xsOf, ysOf]) hn', Gf.atS_yes 0 (by simp [xsOf, ysOf]) hn]
  exact lag_perm2 hn hn' 0

end Go.Proofs.Ytffmnldhklejcaa
