/- Words for bytes in blocks and strings: no statement of the seat is proved here. -/
import Derived.Test.YtmnnhmbolbepcaaAt
import Derived.Test.YtmnnhmbolbepcaaRef2
import Derived.Test.YtmnnhmbolbepcaaOwn
import Derived.Lib.ConvBytes
import Derived.Laws.BytesString
import Derived.Deep.MidRow
import Derived.Deep.DeepMust
import Derived.Laws.StructEq
namespace Go.Proofs.Ytmnnhmbolbepcaa
open Go.RowKit

def bs (s : ByteArray) : List UInt8 := s.data.toList
theorem bs_length (s : ByteArray) : (bs s).length = s.size := by simp [bs]
theorem bs_get (s : ByteArray) (i : Nat) (h : i < s.size) : (bs s).getD i 0 = s[i] := by
  simp only [bs, List.getD_eq_getElem?_getD, Array.getElem?_toList]
  rw [Array.getElem?_eq_getElem (by simpa using h)]
  rfl
theorem bs_mk (l : List UInt8) : bs (⟨l.toArray⟩ : ByteArray) = l := by simp [bs]
theorem mk_bs (s : ByteArray) : (⟨(bs s).toArray⟩ : ByteArray) = s := by cases s; simp [bs]

theorem nums_of (l : List UInt8) : strOfNums (l.map u) = ⟨l.toArray⟩ := by
  have h := strOfNums_data (l.map u)
  have e : (strOfNums (l.map u)).data = l.toArray := by
    apply Array.ext'
    rw [h, List.map_map]
    have : ((fun n : Int => UInt8.ofNat n.toNat) ∘ u) = id := by
      funext a
      show UInt8.ofNat (a.toNat : Int).toNat = a
      rw [Int.toNat_natCast, UInt8.ofNat_toNat]
    rw [this, List.map_id]
  cases hs : strOfNums (l.map u) with
  | mk d => rw [hs] at e; rw [← e]

/-- bytes made a string -/
theorem str_of_bytes (g off n c : Nat) (l : List UInt8) (W : World) (hn : n = l.length) (hc : ∀ i (h : i < l.length), W.cell? ⟨g, off + i, none⟩ = some (.int .u8 (u l[i]))) :
    (convert 28 9 (.slice (some ⟨g, off, none⟩) n c)).run Try.prog W = .ok (.string ⟨l.toArray⟩) W := by
  subst hn
  rw [← nums_of]
  refine run_convert_bytes_arg W 28 5 Try.underlying28 Try.underlying5 g off l.length c (l.map u) (by simp) (fun i hi => ?_) 9 Try.underlying9
  rw [hc i hi]
  simp [List.getD_eq_getElem?_getD, hi]

theorem made_zeros (k n : Nat) (hk : 0 < k) : madeCells (vals (List.replicate k 0)).toArray (n * k) = (vals (List.replicate (n * k) 0)).toArray := by
  apply Array.ext
  · simp [madeCells, vals]
  · intro i h1 h2
    simp [madeCells, vals, Nat.mod_lt i hk]
theorem bytes_make (n : Nat) (hn : n ≤ 1000000) (w : World) : (Instr.makeSlice 28 (.int .i64 (n : Int)) (.int .i64 (n : Int))).run Try.prog w =
    .ok (.slice (some ⟨w.heap.size, 0, none⟩) n n) (w.alloc (.cells (vals (List.replicate n 0)).toArray 5)) := by
  obtain ⟨i0, hi, hz0, hz1, hz2⟩ := info_parts u8_info
  have h := run_make (P := Try.prog) w 28 5 i0 _ Try.underlying28 hi hz0 .i64 .i64 (n : Int) (n : Int) (by omega) (by omega) (by rw [hz2]; omega) (by omega)
  rw [Int.toNat_natCast, hz1] at h
  rw [h]
  congr 2
  have e := made_zeros 1 n (by omega)
  rw [Nat.mul_one] at e ⊢
  exact congrArg (fun c => Obj.cells c 5) e

def zs (n : Nat) : List UInt8 := List.replicate n 0
theorem zs_length (n : Nat) : (zs n).length = n := by simp [zs]

theorem lt_of_block {W : World} {g : Nat} {o : Obj} (h : W.heap[g]? = some o) : g < W.heap.size := by
  rcases Nat.lt_or_ge g W.heap.size with hlt | hge
  · exact hlt
  · rw [Array.getElem?_eq_none hge] at h; cases h
theorem cell_byte {W : World} {g : Nat} {l : List UInt8} {t : TypeId} {fr : Nat × Nat} (h : W.heap[g]? = some (.cells (vals l).toArray t fr)) (i : Nat) (hi : i < l.length) :
    W.cell? ⟨g, i, none⟩ = some (.int .u8 (u l[i])) := by
  rw [cell_of_row _ _ _ _ _ _ h, List.getElem?_toArray, List.getElem?_eq_getElem (by rw [vals_length]; exact hi), vals_get l i hi]
theorem cell_byteD {W : World} {g : Nat} {l : List UInt8} {t : TypeId} {fr : Nat × Nat} (h : W.heap[g]? = some (.cells (vals l).toArray t fr)) (i : Nat) (hi : i < l.length) :
    W.cell? ⟨g, i, none⟩ = some (.int .u8 (u (l.getD i 0))) := by
  rw [cell_byte h i hi, Gf.getD_eq hi]
theorem vals_set (l : List UInt8) (i : Nat) (a : UInt8) : (vals l).toArray.setIfInBounds i (.int .u8 (u a)) = (vals (l.set i a)).toArray := by
  simp [vals, List.map_set]
theorem block_set {W : World} {g i : Nat} {l : List UInt8} {t : TypeId} (h : W.heap[g]? = some (.cells (vals l).toArray t (0, 0))) (a : UInt8) :
    (W.setCell ⟨g, i, none⟩ (.int .u8 (u a))).heap[g]? = some (.cells (vals (l.set i a)).toArray t (0, 0)) := by
  rw [heap_setCell_same W g i _ _ _ h, vals_set]
theorem getD_set (l : List UInt8) (i j : Nat) (x : UInt8) (hi : i < l.length) : (l.set i x).getD j 0 = if i = j then x else l.getD j 0 := by
  simp only [List.getD_eq_getElem?_getD, List.getElem?_set]
  split
  · simp [*]
  · rfl
theorem str_of_block (g n c : Nat) (z : List UInt8) (hz : z.length = n) (W : World) {fr : Nat × Nat} (hW : W.heap[g]? = some (.cells (vals z).toArray 5 fr)) :
    (convert 28 9 (.slice (some ⟨g, 0, none⟩) n c)).run Try.prog W = .ok (.string ⟨z.toArray⟩) W :=
  str_of_bytes g 0 n c z W hz.symm (fun i h => by
    rw [cell_of_row _ _ _ _ _ _ hW, Nat.zero_add, List.getElem?_toArray, List.getElem?_eq_getElem (by rw [vals_length]; exact h), vals_get _ i h])
theorem world_gen {Q : Exit → Act → World → Prop} {x : Exit} {a : Act} {W : World} (p : World → Prop) (hp : p W) (h : ∀ W', p W' → Q x a W') : Q x a W := h W hp
theorem wpList_gen {P : Program} {ops : Array Oper} {rest : List Oper} {a : Act} {Q : Exit → Act → World → Prop} {W : World} (p : World → Prop) (hp : p W) (h : ∀ W', p W' → wpList P ops Q rest a W') : wpList P ops Q rest a W := h W hp
theorem below_of_drew {w w' : World} {b : Nat} (h : Below b w.drew w') : Below b w w' := ⟨h.os, h.tape, h.output, h.size, h.block⟩

end Go.Proofs.Ytmnnhmbolbepcaa
