/- The parts of an exclusive or: plain. -/
import Derived.Test.YtmnnhmbolbepcaaParRef
namespace Go.Proofs.Ytmnnhmbolbepcaa
open Go.RowKit

theorem lag_xor (xs : List UInt8) (hn : xs.Nodup) (hl : xs.length = 3) (a b c a' b' c' x : UInt8) : Gf.lag xs [a ^^^ a', b ^^^ b', c ^^^ c'] x = Gf.lag xs [a, b, c] x ^^^ Gf.lag xs [a', b', c'] x := by
  have hp := (Gf.lag_poly hn [a, b, c]).add (Gf.lag_poly hn [a', b', c'])
  match xs, hl, hn, hp with
  | [x0, x1, x2], _, hn, hp =>
    refine Gf.lag_is (xs := [x0, x1, x2]) (ys := [a ^^^ a', b ^^^ b', c ^^^ c']) (f := fun x => Gf.lag [x0, x1, x2] [a, b, c] x ^^^ Gf.lag [x0, x1, x2] [a', b', c'] x) hn rfl hp (fun j h1 h2 => ?_) x
    have e1 := Gf.lag_at (xs := [x0, x1, x2]) (ys := [a, b, c]) hn rfl j h1 h1
    have e2 := Gf.lag_at (xs := [x0, x1, x2]) (ys := [a', b', c']) hn rfl j h1 h1
    show Gf.lag _ _ _ ^^^ Gf.lag _ _ _ = _
    rw [e1, e2]
    match j, h1 with
    | 0, _ => rfl
    | 1, _ => rfl
    | 2, _ => rfl

theorem nodup123 : [(1 : UInt8), 2, 3].Nodup := by decide
theorem atV_lag (L : Nat → List UInt8) (x : UInt8) (k : Nat) : atV [1, 2, 3] L x k = Gf.lag [1, 2, 3] [(L 0).getD k 0, (L 1).getD k 0, (L 2).getD k 0] x := by
  have e := Gf.atS_yes (xs := [1, 2, 3]) (ys := [(L 0).getD k 0, (L 1).getD k 0, (L 2).getD k 0]) x rfl nodup123
  rw [atV, e]

theorem part_get (s : List UInt8) (x : UInt8) (i : Nat) (h : i < rowsN s.length) : (partL s x).getD i 0 = Gf.lag [1, 2, 3] [s.getD i 0, s.getD (rowsN s.length + i) 0, s.getD (2 * rowsN s.length + i) 0] x := by
  rw [Gf.getD_eq (by rw [part_length]; exact h)]
  simp only [partL, atL, List.getElem_map, List.getElem_range]
  rw [atV_lag, rowL_get _ _ _ _ h, rowL_get _ _ _ _ h, rowL_get _ _ _ _ h, Nat.zero_mul, Nat.zero_add, Nat.one_mul]

theorem part_xor (a b c : List UInt8) (hb : b.length = a.length) (hc : c.length = a.length) (h : ∀ i, c.getD i 0 = a.getD i 0 ^^^ b.getD i 0) (x : UInt8) (i : Nat) (hi : i < rowsN a.length) :
    (partL c x).getD i 0 = (partL a x).getD i 0 ^^^ (partL b x).getD i 0 := by
  rw [part_get c x i (by rw [hc]; exact hi), part_get a x i hi, part_get b x i (by rw [hb]; exact hi), hb, hc, h, h, h, lag_xor _ nodup123 rfl]

end Go.Proofs.Ytmnnhmbolbepcaa
