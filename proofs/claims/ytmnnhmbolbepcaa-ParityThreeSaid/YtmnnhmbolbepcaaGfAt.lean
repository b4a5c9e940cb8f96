/- The two loops of the polynomial through points, in plain Lean. -/
import Derived.Test.YtmnnhmbolbepcaaGf
namespace Go.Proofs.Ytmnnhmbolbepcaa.Gf
open Classical

/-- at another place from j on the same element stands -/
def Twice (xs : List UInt8) (i j : Nat) : Prop := ∃ (t : Nat) (ht : t < xs.length) (hi : i < xs.length), j ≤ t ∧ t ≠ i ∧ xs[t] = xs[i]

/-- what a call answers -/
noncomputable def atS (xs ys : List UInt8) (x : UInt8) : UInt8 × Bool := if xs.length = ys.length ∧ xs.Nodup then (lag xs ys x, true) else (0, false)

/-- what the outer loop answers from i on -/
noncomputable def rest (xs ys : List UInt8) (x : UInt8) (i : Nat) (o : UInt8) : UInt8 × Bool :=
  if ∃ i', i ≤ i' ∧ Twice xs i' 0 then (0, false) else (o ^^^ through xs x (xs.drop i) (ys.drop i), true)

/-- what the inner loop answers from j on -/
noncomputable def inner (xs ys : List UInt8) (x : UInt8) (i j : Nat) (o p : UInt8) : UInt8 × Bool :=
  if Twice xs i j then (0, false) else rest xs ys x (i + 1) (o ^^^ row x (xs.getD i 0) (xs.drop j) p)

theorem nodup_iff (xs : List UInt8) : xs.Nodup ↔ ¬ ∃ i', 0 ≤ i' ∧ Twice xs i' 0 := by
  rw [List.Nodup, List.pairwise_iff_getElem]
  constructor
  · rintro h ⟨i, _, t, ht, hi, _, hne, e⟩
    rcases Nat.lt_or_ge t i with h' | h'
    · exact h t i ht hi h' e
    · exact h i t hi ht (by omega) e.symm
  · intro h i j hi hj hij e
    exact h ⟨i, by omega, j, hj, hi, by omega, by omega, e.symm⟩

theorem atS_odd {xs ys : List UInt8} (x : UInt8) (h : xs.length ≠ ys.length) : atS xs ys x = (0, false) := by
  unfold atS; rw [if_neg (fun e => h e.1)]
theorem atS_yes {xs ys : List UInt8} (x : UInt8) (h : xs.length = ys.length) (hn : xs.Nodup) : atS xs ys x = (lag xs ys x, true) := by
  unfold atS; rw [if_pos ⟨h, hn⟩]
theorem atS_no {xs ys : List UInt8} (x : UInt8) (hn : ¬ xs.Nodup) : atS xs ys x = (0, false) := by
  unfold atS; rw [if_neg (fun e => hn e.2)]

theorem rest_start {xs ys : List UInt8} (x : UInt8) (h : xs.length = ys.length) : rest xs ys x 0 0 = atS xs ys x := by
  by_cases hn : xs.Nodup
  · rw [atS_yes x h hn]; unfold rest; rw [if_neg ((nodup_iff xs).1 hn), List.drop_zero, List.drop_zero, zero_x]; rfl
  · rw [atS_no x hn]; unfold rest; rw [if_pos (Classical.not_not.1 (fun h => hn ((nodup_iff xs).2 h)))]

theorem rest_end {xs ys : List UInt8} (x o : UInt8) (i : Nat) (h : xs.length ≤ i) : rest xs ys x i o = (o, true) := by
  unfold rest
  rw [if_neg (fun ⟨i', hi, t, ht, hi', _⟩ => by omega), List.drop_eq_nil_of_le h]
  show (o ^^^ 0, true) = _
  rw [x_zero]

theorem getD_eq {xs : List UInt8} {i : Nat} (h : i < xs.length) : xs.getD i 0 = xs[i] := by
  rw [List.getD_eq_getElem?_getD, List.getElem?_eq_getElem h]; rfl

theorem rest_step {xs ys : List UInt8} (x o : UInt8) (i : Nat) (hi : i < xs.length) (hj : i < ys.length) : rest xs ys x i o = inner xs ys x i 0 o ys[i] := by
  unfold inner
  by_cases ht : Twice xs i 0
  · rw [if_pos ht]; unfold rest; rw [if_pos ⟨i, Nat.le_refl _, ht⟩]
  · rw [if_neg ht]
    unfold rest
    by_cases h : ∃ i', i ≤ i' ∧ Twice xs i' 0
    · have h' : ∃ i', i + 1 ≤ i' ∧ Twice xs i' 0 := by
        obtain ⟨i', hi', h⟩ := h
        refine ⟨i', ?_, h⟩
        rcases Nat.lt_or_ge i i' with h' | h'
        · omega
        · obtain rfl : i' = i := by omega
          exact absurd h ht
      rw [if_pos h, if_pos h']
    · rw [if_neg h, if_neg (fun ⟨i', hi', h'⟩ => h ⟨i', by omega, h'⟩)]
      rw [List.drop_eq_getElem_cons hi, List.drop_eq_getElem_cons hj, List.drop_zero, x_assoc, getD_eq hi]
      rfl

theorem inner_skip {xs ys : List UInt8} (x o p : UInt8) (i : Nat) (hi : i < xs.length) : inner xs ys x i i o p = inner xs ys x i (i + 1) o p := by
  have ht : Twice xs i i ↔ Twice xs i (i + 1) :=
    ⟨fun ⟨t, ht, hi', a, b, c⟩ => ⟨t, ht, hi', by omega, b, c⟩, fun ⟨t, ht, hi', a, b, c⟩ => ⟨t, ht, hi', by omega, b, c⟩⟩
  have e : row x (xs.getD i 0) (xs.drop i) p = row x (xs.getD i 0) (xs.drop (i + 1)) p := by
    rw [List.drop_eq_getElem_cons hi, row_cons, if_pos (getD_eq hi).symm]
  unfold inner
  rw [e]
  by_cases h : Twice xs i i
  · rw [if_pos h, if_pos (ht.1 h)]
  · rw [if_neg h, if_neg (fun h' => h (ht.2 h'))]

theorem inner_twice {xs ys : List UInt8} (x o p : UInt8) (i j : Nat) (hi : i < xs.length) (hj : j < xs.length) (hji : j ≠ i) (hx : xs[j] = xs[i]) : inner xs ys x i j o p = (0, false) := by
  unfold inner; rw [if_pos ⟨j, hj, hi, Nat.le_refl _, hji, hx⟩]

theorem inner_step {xs ys : List UInt8} (x o p : UInt8) (i j : Nat) (hi : i < xs.length) (hj : j < xs.length) (hx : xs[j] ≠ xs[i]) :
    inner xs ys x i j o p = inner xs ys x i (j + 1) o (mul p (mul (x ^^^ xs[j]) (inv (xs[i] ^^^ xs[j])))) := by
  have ht : Twice xs i j ↔ Twice xs i (j + 1) := by
    refine ⟨fun ⟨t, ht, hi', a, b, c⟩ => ⟨t, ht, hi', ?_, b, c⟩, fun ⟨t, ht, hi', a, b, c⟩ => ⟨t, ht, hi', by omega, b, c⟩⟩
    rcases Nat.lt_or_ge j t with h | h
    · omega
    · obtain rfl : t = j := by omega
      exact absurd c hx
  have e : row x (xs.getD i 0) (xs.drop j) p = row x (xs.getD i 0) (xs.drop (j + 1)) (mul p (mul (x ^^^ xs[j]) (inv (xs[i] ^^^ xs[j])))) := by
    rw [List.drop_eq_getElem_cons hj, row_cons, if_neg (by rw [getD_eq hi]; exact hx), getD_eq hi]
  unfold inner
  rw [e]
  by_cases h : Twice xs i j
  · rw [if_pos h, if_pos (ht.1 h)]
  · rw [if_neg h, if_neg (fun h' => h (ht.2 h'))]

theorem inner_end {xs ys : List UInt8} (x o p : UInt8) (i j : Nat) (h : xs.length ≤ j) : inner xs ys x i j o p = rest xs ys x (i + 1) (o ^^^ p) := by
  unfold inner
  rw [if_neg (fun ⟨t, ht, hi, hjt, _⟩ => by omega), List.drop_eq_nil_of_le h]
  rfl

end Go.Proofs.Ytmnnhmbolbepcaa.Gf
