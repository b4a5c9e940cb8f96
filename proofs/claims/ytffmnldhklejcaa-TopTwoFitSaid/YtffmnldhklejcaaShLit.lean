/- Shares made whole: built, stored, laid side by side into a slice; and new variables of arrays. -/
import Derived.Test.YtffmnldhklejcaaShSame
import Derived.Test.YtffmnldhklejcaaOwn
import Derived.Deep.WholeRow
import Derived.Great.BuildSlice
namespace Go.Proofs.Ytffmnldhklejcaa
open Go.RowKit

/-- noughts; a share with its place alone (named: simp shall not unroll them) -/
def zs (n : Nat) : List UInt8 := List.replicate n 0
def hd (p : UInt8) : List UInt8 := p :: zs 32
theorem zs_length (n : Nat) : (zs n).length = n := by simp [zs]
theorem hd_length (p : UInt8) : (hd p).length = 33 := by simp [hd, zs]

theorem u8_all (l : List UInt8) : (vals l).toArray.all (·.oneCell') = true := all_oneCell_toArray (vals_one l)

/-- a new variable -/
theorem alloc_new {P : Program} {t : TypeId} {i : TypeInfo} {z : Value} (hi : P.info? t = some i) (hz : i.zero = some z) (w : World) :
    (Instr.alloc t true (.tuple #[])).run P w = .ok (.pointer (some ⟨w.heap.size, 0, none⟩)) (w.alloc (.cells z.cells t)) := by
  simp [Instr.alloc, zeroValue, typeInfo, hi, hz, newVar, newRow]

theorem share_alloc (w : World) : (Instr.alloc 34 true (.tuple #[])).run Try.prog w = .ok (.pointer (some ⟨w.heap.size, 0, none⟩)) (w.alloc (.cells (vals (zs 33)).toArray 34)) := by
  obtain ⟨i0, hi, hz0, _, _⟩ := info_parts share_info
  exact alloc_new hi hz0 w

theorem key_info : (Try.prog.info? 23).map (fun i => (i.zero, i.size, i.bytes)) = some (some (.agg (vals (zs 32)).toArray), 32, 32) := by kernel_rfl
theorem key_alloc (w : World) : (Instr.alloc 23 true (.tuple #[])).run Try.prog w = .ok (.pointer (some ⟨w.heap.size, 0, none⟩)) (w.alloc (.cells (vals (zs 32)).toArray 23)) := by
  obtain ⟨i0, hi, hz0, _, _⟩ := info_parts key_info
  exact alloc_new hi hz0 w
theorem arr64_info : (Try.prog.info? 31).map (fun i => (i.zero, i.size, i.bytes)) = some (some (.agg (vals (zs 64)).toArray), 64, 64) := by kernel_rfl
theorem arr64_alloc (w : World) : (Instr.alloc 31 true (.tuple #[])).run Try.prog w = .ok (.pointer (some ⟨w.heap.size, 0, none⟩)) (w.alloc (.cells (vals (zs 64)).toArray 31)) := by
  obtain ⟨i0, hi, hz0, _, _⟩ := info_parts arr64_info
  exact alloc_new hi hz0 w

/-- a share with its place alone -/
theorem share_build (X : Int) (p : UInt8) (hX : X = u p) (w : World) : (Instr.build 34 #[(0, .int .u8 X)]).run Try.prog w = .ok (.agg (vals (hd p)).toArray) w := by
  subst hX
  exact run_build w _ _ _ (by kernel_rfl)

/-- a share into the block made last -/
theorem share_store (w : World) (l m : List UInt8) (hl : l.length = 33) (hm : m.length = 33) :
    (Instr.storeAt 34 (.pointer (some ⟨w.heap.size, 0, none⟩)) (.agg (vals l).toArray)).run Try.prog (w.alloc (.cells (vals m).toArray 34)) = .ok () (w.alloc (.cells (vals l).toArray 34)) :=
  run_storeAt_new w _ _ _ (by rw [List.size_toArray, vals_length, hl]; exact share_size) (by simp [vals_length, hl, hm]) (u8_all l)

/-- shares side by side -/
theorem flat_vals : ∀ L : List (List UInt8), ((L.map fun l => Value.agg (vals l).toArray).flatMap fun v => v.cells.toList) = vals L.flatten
  | [] => rfl
  | l :: L => by
    rw [List.map_cons, List.flatMap_cons, flat_vals L, List.flatten_cons, vals_append]
    rfl
theorem shares_build (L : List (List UInt8)) (hL : ∀ l ∈ L, l.length = 33) (h0 : 0 < L.length) (h1 : L.length ≤ 1000) (w : World) :
    (Instr.buildSlice 25 L.length (((L.map fun l => Value.agg (vals l).toArray).zipIdx 0).map fun x => (x.2, x.1)).toArray).run Try.prog w =
    .ok (.slice (some ⟨w.heap.size, 0, none⟩) L.length L.length) (w.alloc (.cells (vals L.flatten).toArray 34)) := by
  obtain ⟨i0, hi, hz0, hz1, _⟩ := info_parts share_info
  refine Go.run_buildSlice w _ _ _ _ _ i0 _ Try.underlying25 hi hz0 (by rw [hz1]; omega) (by rw [hz1]; omega) ?_
  rw [hz1, List.toList_toArray]
  refine (Great.fill_whole (by omega) _ _ ?_ (by simp)).trans ?_
  · intro v hv
    obtain ⟨l, hl, rfl⟩ := List.mem_map.1 hv
    simp [Value.cells, vals_length, hL l hl]
  · rw [flat_vals]
theorem shares_build1 (a : List UInt8) (ha : a.length = 33) (w : World) :
    (Instr.buildSlice 25 1 #[(0, .agg (vals a).toArray)]).run Try.prog w = .ok (.slice (some ⟨w.heap.size, 0, none⟩) 1 1) (w.alloc (.cells (vals a).toArray 34)) := by
  have h := shares_build [a] (by simpa using ha) (by simp) (by simp) w
  simpa using h
theorem shares_build3 (a b c : List UInt8) (ha : a.length = 33) (hb : b.length = 33) (hc : c.length = 33) (w : World) :
    (Instr.buildSlice 25 3 #[(0, .agg (vals a).toArray), (1, .agg (vals b).toArray), (2, .agg (vals c).toArray)]).run Try.prog w =
    .ok (.slice (some ⟨w.heap.size, 0, none⟩) 3 3) (w.alloc (.cells (vals (a ++ (b ++ c))).toArray 34)) := by
  have h := shares_build [a, b, c] (by simp [ha, hb, hc]) (by simp) (by simp) w
  simpa using h
/-- the shares that such a literal is -/
theorem shs_of_block {W : World} {g : Nat} {t : TypeId} {fr : Nat × Nat} (L : List (List UInt8)) (hL : ∀ l ∈ L, l.length = 33) (h : W.heap[g]? = some (.cells (vals L.flatten).toArray t fr)) : Shs W (some ⟨g, 0, none⟩) L := by
  refine ⟨hL, fun _ => ⟨g, 0, rfl, fun i hi j v hv => ?_⟩⟩
  rw [Nat.zero_add]
  have hj : j < L[i].length := by
    have := (List.getElem?_eq_some_iff.1 hv).1
    rwa [vals_length] at this
  rw [cell_of_row W g _ _ t fr h, List.getElem?_toArray]
  have h33 : L[i].length = 33 := hL _ (List.getElem_mem hi)
  have key : ∀ (L : List (List UInt8)) (i : Nat) (hi : i < L.length), (∀ l ∈ L, l.length = 33) → ∀ j, j < 33 → L.flatten[i * 33 + j]? = L[i][j]? := by
    intro L
    induction L with
    | nil => intro i hi; simp at hi
    | cons l L ih =>
      intro i hi hL j hj
      have hl : l.length = 33 := hL l (by simp)
      rcases i with _ | i
      · rw [List.flatten_cons, List.getElem?_append_left (by omega)]; simp
      · rw [List.flatten_cons, List.getElem?_append_right (by omega), hl, show (i + 1) * 33 + j - 33 = i * 33 + j from by omega]
        exact ih i (by simpa using hi) (fun x hx => hL x (by simp [hx])) j hj
  rw [← hv]
  unfold vals
  rw [List.getElem?_map, List.getElem?_map, key L i hi hL j (by omega)]

/-! ## As a walk meets them -/
section
variable {ops : Array Oper} {rest : List Oper} {o : Oper} {a : Act} {Q : Exit → Act → World → Prop}
theorem wpList_run {P : Program} {w w' : World} (hg : o.guard = none) (v : Value) (hrun : (execOp a.eval o).run P w = .ok (.value v) w') (h : wpList P ops Q rest (a.put o.dst v) w') : wpList P ops Q (o :: rest) a w :=
  wpList_plain hg fun _ hK => by
    unfold Oper.wp
    rw [hrun, Oper.upon_value]
    exact hK _ _ h
theorem wpList_share_build {w : World} (hg : o.guard = none) (x : Operand) (ho : o.op = .build 34 #[(0, x)]) (X : Int) (hx : a.eval x = .int .u8 X) (p : UInt8) (hX : X = u p)
    (h : wpList Try.prog ops Q rest (a.put o.dst (.agg (vals (hd p)).toArray)) w) : wpList Try.prog ops Q (o :: rest) a w :=
  wpList_run hg _ (by
    unfold execOp
    simp only [ho, List.map_toArray, List.map_cons, List.map_nil, hx, Sem.run_bind, share_build X p hX w, Result.andThen_ok]
    rfl) h
theorem wpList_alloc_run {P : Program} {w w' : World} (hg : o.guard = none) (t : TypeId) (ho : o.op = .alloc t) (v : Value) (hrun : (Instr.alloc t true (.tuple #[])).run P w = .ok v w')
    (h : wpList P ops Q rest (a.put o.dst v) w') : wpList P ops Q (o :: rest) a w :=
  wpList_run hg v (by
    unfold execOp
    simp only [ho, Sem.run_bind, hrun, Result.andThen_ok]
    rfl) h
theorem wpList_share_store {w : World} (hg : o.guard = none) (x y : Operand) (ho : o.op = .store 34 x y) (l m : List UInt8) (hx : a.eval x = .pointer (some ⟨w.heap.size, 0, none⟩)) (hy : a.eval y = .agg (vals l).toArray)
    (hl : l.length = 33) (hm : m.length = 33)
    (h : wpList Try.prog ops Q rest (a.put o.dst undef) (w.alloc (.cells (vals l).toArray 34))) : wpList Try.prog ops Q (o :: rest) a (w.alloc (.cells (vals m).toArray 34)) :=
  wpList_plain hg fun _ hK => by
    unfold Oper.wp execOp
    simp only [ho, hx, hy, Sem.run_bind, share_store w l m hl hm, Result.andThen_ok]
    exact hK _ _ h
theorem wpList_build_run {P : Program} {w w' : World} (hg : o.guard = none) (t : TypeId) (n : Nat) (parts : Array (Nat × Operand)) (ho : o.op = .buildSlice t n parts) (v : Value)
    (hrun : (Instr.buildSlice t n (parts.map fun (i, x) => (i, a.eval x))).run P w = .ok v w') (h : wpList P ops Q rest (a.put o.dst v) w') : wpList P ops Q (o :: rest) a w :=
  wpList_run hg v (by
    unfold execOp
    simp only [ho, Sem.run_bind, hrun, Result.andThen_ok]
    rfl) h
theorem wpList_shares1 {w : World} (hg : o.guard = none) (x : Operand) (ho : o.op = .buildSlice 25 1 #[(0, x)]) (l : List UInt8) (hx : a.eval x = .agg (vals l).toArray) (hl : l.length = 33)
    (h : wpList Try.prog ops Q rest (a.put o.dst (.slice (some ⟨w.heap.size, 0, none⟩) 1 1)) (w.alloc (.cells (vals l).toArray 34))) : wpList Try.prog ops Q (o :: rest) a w :=
  wpList_build_run hg _ _ _ ho _ (by simp only [List.map_toArray, List.map_cons, List.map_nil, hx]; exact shares_build1 l hl w) h
theorem wpList_shares3 {w : World} (hg : o.guard = none) (x y z : Operand) (ho : o.op = .buildSlice 25 3 #[(0, x), (1, y), (2, z)]) (l m n : List UInt8) (hx : a.eval x = .agg (vals l).toArray) (hy : a.eval y = .agg (vals m).toArray) (hz : a.eval z = .agg (vals n).toArray)
    (hl : l.length = 33) (hm : m.length = 33) (hn : n.length = 33)
    (h : wpList Try.prog ops Q rest (a.put o.dst (.slice (some ⟨w.heap.size, 0, none⟩) 3 3)) (w.alloc (.cells (vals (l ++ (m ++ n))).toArray 34))) : wpList Try.prog ops Q (o :: rest) a w :=
  wpList_build_run hg _ _ _ ho _ (by simp only [List.map_toArray, List.map_cons, List.map_nil, hx, hy, hz]; exact shares_build3 l m n hl hm hn w) h
end

end Go.Proofs.Ytffmnldhklejcaa
