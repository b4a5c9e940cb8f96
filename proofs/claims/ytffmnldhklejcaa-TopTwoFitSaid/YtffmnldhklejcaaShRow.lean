/- The bytes of shares in plain Lean, and a block that is filled byte by byte. -/
import Derived.Test.YtffmnldhklejcaaShWords
import Derived.Deep.RegionLaw
import Derived.Test.YtffmnldhklejcaaRef2
namespace Go.Proofs.Ytffmnldhklejcaa
open Go.RowKit

/-- the place of a share -/
def pt (r : Nat) : UInt8 := UInt8.ofNat (r + 1)
/-- one byte of a share -/
def dat (s no : List UInt8) (r c : Nat) : UInt8 := Gf.eval [s.getD c 0, no.getD c 0, no.getD (32 + c) 0] (pt r)
/-- a share: its place, and 32 bytes -/
def row (s no : List UInt8) (r : Nat) : List UInt8 := pt r :: (List.range 32).map (dat s no r)
def rows (s no : List UInt8) (n : Nat) : List (List UInt8) := (List.range n).map (row s no)
def flat (s no : List UInt8) (n : Nat) : List UInt8 := (rows s no n).flatten

theorem row_length (s no : List UInt8) (r : Nat) : (row s no r).length = 33 := by simp [row]
theorem rows_succ (s no : List UInt8) (n : Nat) : rows s no (n + 1) = rows s no n ++ [row s no n] := by simp [rows, List.range_succ]
theorem flat_succ (s no : List UInt8) (n : Nat) : flat s no (n + 1) = flat s no n ++ row s no n := by simp [flat, rows_succ]
theorem flat_length (s no : List UInt8) (n : Nat) : (flat s no n).length = n * 33 := by
  induction n with
  | zero => rfl
  | succ n ih => rw [flat_succ, List.length_append, ih, row_length]; omega
theorem row_take_succ (s no : List UInt8) (r i : Nat) (h : i < 32) : (row s no r).take (i + 2) = (row s no r).take (i + 1) ++ [dat s no r i] := by
  rw [List.take_succ_eq_append_getElem (by rw [row_length]; omega)]
  simp [row]
theorem row_take_one (s no : List UInt8) (r : Nat) : (row s no r).take 1 = [pt r] := by simp [row]
theorem row_take_all (s no : List UInt8) (r : Nat) : (row s no r).take 33 = row s no r := List.take_of_length_le (by rw [row_length]; omega)

/-- a block of n shares, filled so far, noughts behind -/
structure Fill (W : World) (g n : Nat) (P : List UInt8) : Prop where
  blk : W.heap[g]? = some (.cells (vals (P ++ List.replicate (n * 33 - P.length) 0)).toArray 34 (0, 0))
  le : P.length ≤ n * 33

theorem Fill.lt {W : World} {g n : Nat} {P : List UInt8} (h : Fill W g n P) : g < W.heap.size := by
  rcases Nat.lt_or_ge g W.heap.size with hlt | hge
  · exact hlt
  · have := h.blk; rw [Array.getElem?_eq_none hge] at this; cases this
theorem Fill.cell {W : World} {g n : Nat} {P : List UInt8} (h : Fill W g n P) (j : Nat) (hj : j < P.length) : W.cell? ⟨g, j, none⟩ = some (.int .u8 (u P[j])) := by
  rw [cell_of_row W g j _ _ _ h.blk, vals_append]
  rw [List.getElem?_toArray, List.getElem?_append_left (by rw [vals_length]; exact hj), List.getElem?_eq_getElem (by rw [vals_length]; exact hj), vals_get P j hj]
theorem Fill.next {W : World} {g n : Nat} {P : List UInt8} (h : Fill W g n P) (hj : P.length < n * 33) (i : Nat) (hi : i = P.length) : W.cell? ⟨g, i, none⟩ = some (.int .u8 (u 0)) := by
  subst hi
  rw [cell_of_row W g _ _ _ _ h.blk, vals_append]
  rw [List.getElem?_toArray, List.getElem?_append_right (by rw [vals_length]; omega), vals_length, Nat.sub_self]
  obtain ⟨m, hm⟩ : ∃ m, n * 33 - P.length = m + 1 := ⟨n * 33 - P.length - 1, by omega⟩
  rw [hm]; rfl
theorem Fill.frozen {W : World} {g n : Nat} {P : List UInt8} (h : Fill W g n P) (j : Nat) : W.frozen? ⟨g, j, none⟩ = false := frozen_of_row W g j _ _ h.blk
theorem Fill.keep {W W' : World} {g n : Nat} {P : List UInt8} (h : Fill W g n P) (hk : W'.heap[g]? = W.heap[g]?) : Fill W' g n P := ⟨hk.trans h.blk, h.le⟩
theorem Fill.alloc {W : World} {g n : Nat} {P : List UInt8} (h : Fill W g n P) (o : Obj) : Fill (W.alloc o) g n P := h.keep (Below.heap_alloc W o g h.lt)
theorem Fill.drewN {W : World} {g n : Nat} {P : List UInt8} (h : Fill W g n P) (k : Nat) : Fill (W.drewN k) g n P := ⟨h.blk, h.le⟩
theorem Fill.drew {W : World} {g n : Nat} {P : List UInt8} (h : Fill W g n P) : Fill W.drew g n P := ⟨h.blk, h.le⟩
theorem Fill.push {W : World} {g n : Nat} {P : List UInt8} (h : Fill W g n P) (hj : P.length < n * 33) (i : Nat) (hi : i = P.length) (a : UInt8) : Fill (W.setCell ⟨g, i, none⟩ (.int .u8 (u a))) g n (P ++ [a]) := by
  subst hi
  refine ⟨?_, by simp; omega⟩
  rw [heap_setCell_same W g P.length _ _ _ h.blk]
  congr 2
  obtain ⟨m, hm⟩ : ∃ m, n * 33 - P.length = m + 1 := ⟨n * 33 - P.length - 1, by omega⟩
  rw [List.length_append, List.length_singleton, show n * 33 - (P.length + 1) = m from by omega, hm, List.replicate_succ]
  apply Array.ext'
  simp only [Array.toList_setIfInBounds, vals_append]
  rw [List.set_append_right P.length _ (by rw [vals_length]; omega), vals_length, Nat.sub_self]
  simp [vals]

/-- what a cell holds, behind a name: for a region that loads and stores -/
def held (W : World) (a : Addr) : Value := (W.cell? a).getD undef
theorem held_of {W : World} {a : Addr} {v : Value} (h : W.cell? a = some v) : W.cell? a = some (held W a) := by unfold held; rw [h]; rfl
theorem frozen_alloc_ne (w : World) (o : Obj) (a : Addr) (h : w.heap.size ≠ a.block) : (w.alloc o).frozen? a = w.frozen? a := by
  unfold World.frozen?
  have : (w.alloc o).heap[a.block]? = w.heap[a.block]? := by
    show (w.heap.push o)[a.block]? = _
    rw [Array.getElem?_push, if_neg (fun e => h e.symm)]
  rw [this]

theorem lt_of_block {W : World} {g : Nat} {o : Obj} (h : W.heap[g]? = some o) : g < W.heap.size := by
  rcases Nat.lt_or_ge g W.heap.size with hlt | hge
  · exact hlt
  · rw [Array.getElem?_eq_none hge] at h; cases h
theorem range_of_block {W : World} {g : Nat} {t : TypeId} {fr : Nat × Nat} (cs : List Value) (h : W.heap[g]? = some (.cells cs.toArray t fr)) : W.rangeAt g 0 cs := fun j v hv => by
  rw [cell_of_row W g _ _ t fr h, Nat.zero_add, List.getElem?_toArray]
  exact hv
theorem range_below {W W' : World} {g o : Nat} {cs : List Value} (h : W.rangeAt g o cs) (hb : Below W.heap.size W W') : W'.rangeAt g o cs := fun j v hv => by
  have hc := h j v hv
  rw [hb.cell (lt_of_cell (by rw [hc]; rfl))]
  exact hc

/-- a whole array or struct read out of the midst of a block, at a step of a region that draws -/
theorem step_load_mid {P : Program} {ops : Array Oper} {o : Oper} {a : Act} {w : World} {K : Act → World → Prop} {Q : Exit → Act → World → Prop} {E : Prop} (hg : o.guard = none) (ty : TypeId) (x : Operand) (ho : o.op = .load ty x)
    (b of_ : Nat) (hx : a.eval x = .pointer (some ⟨b, of_, none⟩)) (cs : List Value) (d : TypeDesc) (hc : w.rangeAt b of_ cs)
    (hu : P.underlying ty = some d) (hd : d.isRow = true) (hi : (P.info? ty).map (·.size) = some cs.length)
    (h : K (a.put o.dst (.agg cs.toArray)) w) : if Region.wanted o (yielded ops a.tmps) = true then Oper.wp P o a w K Q else E := by
  have hw : Region.wanted o (yielded ops a.tmps) = true := by simp [Region.wanted, hg]
  rw [if_pos hw]
  exact wp_load_mid ty x ho b of_ hx cs d hc hu hd hi h

/-- a comparison of two arrays or structs, as one operation of a region -/
theorem exec_cmp {P : Program} {e : Operand → Value} {o : Oper} {op : BinOp} {t t' : TypeId} {x y : Operand} {cs ds : Array Value} {v : Value} {w : World} (ho : o.op = .binOp op t x y t')
    (hx : e x = .agg cs) (hy : e y = .agg ds) (hm : P.eqGuardType P.depth t = false) (hrun : (binOp op t (.agg cs) (.agg ds)).run P w = .ok v w) :
    (execOp e o).run P w = .ok (.value v) w := by
  have hg := run_eqGuard_agg (P := P) w op t x y cs ds hm
  unfold execOp
  simp only [ho, hx, hy, Sem.run_bind, hg, Result.andThen_ok, hrun, Sem.run_pure]
theorem share_guard : Try.prog.eqGuardType Try.prog.depth 34 = false := by kernel_rfl
theorem key_guard : Try.prog.eqGuardType Try.prog.depth 23 = false := by kernel_rfl

end Go.Proofs.Ytffmnldhklejcaa
