/- Parts in memory; appends of parts and of rows. -/
import Derived.Test.YtmnnhmbolbepcaaParRows
import Derived.Great.BuildSlice
import Derived.Lib.BufferWrite
namespace Go.Proofs.Ytmnnhmbolbepcaa
open Go.RowKit
set_option linter.unusedSimpArgs false

/-- a part: its number, its bytes -/
abbrev Pt := Int × ByteArray
def pc (p : Pt) : List Value := [.int .i64 p.1, .string p.2]
def pcells : List Pt → List Value
  | [] => []
  | p :: L => pc p ++ pcells L
theorem pcells_append (L M : List Pt) : pcells (L ++ M) = pcells L ++ pcells M := by
  induction L with
  | nil => rfl
  | cons p L ih => simp [pcells, ih]
theorem pcells_length (L : List Pt) : (pcells L).length = L.length * 2 := by
  induction L with
  | nil => rfl
  | cons p L ih => simp [pcells, pc, ih]; omega
theorem pcells_get (L : List Pt) : ∀ (i : Nat) (h : i < L.length), (pcells L)[i * 2]? = some (.int .i64 L[i].1) ∧ (pcells L)[i * 2 + 1]? = some (.string L[i].2) := by
  induction L with
  | nil => intro i h; simp at h
  | cons p L ih =>
    intro i h
    cases i with
    | zero => exact ⟨rfl, rfl⟩
    | succ i =>
      have := ih i (by simpa using h)
      rw [show (i + 1) * 2 = i * 2 + 1 + 1 from by omega, show i * 2 + 1 + 1 + 1 = (i * 2 + 1) + 1 + 1 from rfl]
      exact this
theorem pcells_one (L : List Pt) : ∀ v ∈ pcells L, v.oneCell' = true := by
  induction L with
  | nil => intro v h; simp [pcells] at h
  | cons p L ih =>
    intro v h
    rcases List.mem_append.1 h with h | h
    · simp [pc] at h
      rcases h with rfl | rfl <;> rfl
    · exact ih v h

/-- a slice of parts -/
def Pts (W : World) (A : Option Addr) (L : List Pt) : Prop := L ≠ [] → ∃ b o, A = some ⟨b, o, none⟩ ∧ ∀ (i : Nat) (h : i < L.length), W.cell? ⟨b, o + i * 2, none⟩ = some (.int .i64 L[i].1) ∧ W.cell? ⟨b, o + i * 2 + 1, none⟩ = some (.string L[i].2)
theorem Pts.nil (W : World) (A : Option Addr) : Pts W A [] := fun h => absurd rfl h
theorem Pts.at_ {W : World} {A : Option Addr} {L : List Pt} (h : Pts W A L) (i : Nat) (hi : i < L.length) : ∃ b o, A = some ⟨b, o, none⟩ ∧ W.cell? ⟨b, o + i * 2, none⟩ = some (.int .i64 L[i].1) ∧ W.cell? ⟨b, o + i * 2 + 1, none⟩ = some (.string L[i].2) := by
  obtain ⟨b, o, e, hc⟩ := h (fun e => by rw [e] at hi; simp at hi)
  exact ⟨b, o, e, hc i hi⟩
theorem Pts.below {W W' : World} {A : Option Addr} {L : List Pt} (h : Pts W A L) (hb : Below W.heap.size W W') : Pts W' A L := fun hn => by
  obtain ⟨b, o, e, hc⟩ := h hn
  refine ⟨b, o, e, fun i hi => ⟨?_, ?_⟩⟩
  · rw [hb.cell (lt_of_cell (by rw [(hc i hi).1]; rfl))]; exact (hc i hi).1
  · rw [hb.cell (lt_of_cell (by rw [(hc i hi).2]; rfl))]; exact (hc i hi).2
theorem Pts.drewN {W : World} {A : Option Addr} {L : List Pt} (h : Pts W A L) (n : Nat) : Pts (W.drewN n) A L := h
theorem pts_of_block {W : World} {g : Nat} {t : TypeId} {fr : Nat × Nat} (L : List Pt) (h : W.heap[g]? = some (.cells (pcells L).toArray t fr)) : Pts W (some ⟨g, 0, none⟩) L := fun _ => by
  refine ⟨g, 0, rfl, fun i hi => ⟨?_, ?_⟩⟩
  · rw [cell_of_row _ _ _ _ _ _ h, Nat.zero_add, List.getElem?_toArray]; exact (pcells_get L i hi).1
  · rw [cell_of_row _ _ _ _ _ _ h, Nat.zero_add, List.getElem?_toArray]; exact (pcells_get L i hi).2

/-- a slice of parts of the call's own -/
def OwnP (w : World) (base : Nat) (v : Value) (L : List Pt) : Prop := w.ownsRow base 30 2 v L.length (pcells L)
theorem OwnP.nil (w : World) (base : Nat) : OwnP w base (.slice none 0 0) [] := World.ownsRow_nil w base _ _
theorem OwnP.kept {w w' : World} {base : Nat} {v : Value} {l : List Pt} {row : Option Nat} (h : OwnP w base v l) (hg : w.grownBy w' row) (hne : v.ownBlock = none ∨ v.ownBlock ≠ row) : OwnP w' base v l := World.ownsRow.kept h hg hne
theorem OwnP.alloc {w : World} {base : Nat} {v : Value} {l : List Pt} (h : OwnP w base v l) (o : Obj) : OwnP (w.alloc o) base v l := World.ownsRow.alloc h o
theorem OwnP.drewN {w : World} {base : Nat} {v : Value} {l : List Pt} (h : OwnP w base v l) (n : Nat) : OwnP (w.drewN n) base v l := h
theorem OwnP.below {w w' : World} {base : Nat} {v : Value} {l : List Pt} (h : OwnP w base v l) (hb : Below w.heap.size w w') : OwnP w' base v l :=
  h.kept (row := none) ⟨hb.os, hb.tape, hb.output, hb.size, fun k hk _ => hb.block k hk⟩ (by cases h : v.ownBlock <;> simp)
theorem OwnP.form {w : World} {base : Nat} {v : Value} {L : List Pt} (h : OwnP w base v L) : ∃ A c, v = .slice A L.length c ∧ L.length ≤ c ∧ c ≤ maxLen ∧ Pts w A L := by
  have hown := h
  rcases h.2 with ⟨rfl, hx⟩ | ⟨g, cap, cur, rfl, hb, hh, hle, hcap, _⟩
  · have hl : L = [] := by
      cases L with
      | nil => rfl
      | cons p L => exact absurd hx (by simp)
    subst hl
    exact ⟨none, 0, rfl, Nat.le_refl _, by decide, Pts.nil _ _⟩
  · refine ⟨some ⟨g, 0, none⟩, cap, rfl, by assumption, by assumption, fun _ => ⟨g, 0, rfl, fun i hi => ?_⟩⟩
    rw [Nat.zero_add]
    have h1 := World.ownsRow.cells hown rfl (i * 2) _ (pcells_get L i hi).1
    have h2 := World.ownsRow.cells hown rfl (i * 2 + 1) _ (pcells_get L i hi).2
    exact ⟨by rwa [add_zero_block] at h1, by rwa [add_zero_block] at h2⟩

theorem part_info : (Try.prog.info? 30).map (fun i => (i.zero, i.size, i.bytes)) = some (some (.agg #[.int .i64 0, .string ByteArray.empty]), 2, 24) := by kernel_rfl
theorem row_info : (Try.prog.info? 28).map (fun i => (i.zero, i.size, i.bytes)) = some (some (.slice none 0 0), 1, 24) := by kernel_rfl

section
variable {ops : Array Oper} {rest : List Oper} {o : Oper} {a : Act} {Q : Exit → Act → World → Prop}
/-- a part appended -/
theorem wpList_append_part (w : World) (hgd : o.guard = none) (s x : Operand)
    (ho : o.op = .call { callee := .builtin .append, args := #[s, x], argTypes := #[24, 24] })
    (base : Nat) (v : Value) (L : List Pt) (hs : a.eval s = v) (hown : OwnP w base v L)
    (A : Option Addr) (m c : Nat) (news : List Pt) (hx : a.eval x = .slice A m c) (hm : m = news.length) (hr : Src w A (pcells news))
    (hlen : L.length + news.length ≤ 100000) (hbase : base ≤ w.heap.size)
    (h : ∀ v' w', OwnP w' base v' (L ++ news) → w.grownBy w' v.ownBlock → (v'.ownBlock = v.ownBlock ∨ v'.ownBlock = some w.heap.size) → wpList Try.prog ops Q rest (a.put o.dst v') w') : wpList Try.prog ops Q (o :: rest) a w := by
  obtain ⟨i0, hi, hz0, hz1, hz2⟩ := info_parts part_info
  refine wpList_append_src w hgd s x _ ho base _ i0 _ 2 24 Try.underlying24 hi hz0 hz1 hz2 (by simp [Value.cells]) (by decide) v L.length (pcells L) hs hown A m c (pcells news) hx hr (by rw [pcells_length, hm]) (pcells_one _) (by unfold maxLen; omega) (by omega) hbase ?_
  intro v' w' h1 h2 h3
  refine h v' w' ?_ h2 h3
  unfold OwnP
  rw [pcells_append, List.length_append, ← hm]
  exact h1
/-- a slice appended to a slice of slices -/
theorem wpList_append_row (w : World) (hgd : o.guard = none) (s x : Operand)
    (ho : o.op = .call { callee := .builtin .append, args := #[s, x], argTypes := #[45, 45] })
    (base : Nat) (v : Value) (vs : List Value) (hs : a.eval s = v) (hown : w.ownsRow base 28 1 v vs.length vs)
    (g c : Nat) (B : Option Addr) (nB cB : Nat) (hx : a.eval x = .slice (some ⟨g, 0, none⟩) 1 c) (hr : w.heap[g]? = some (.cells #[.slice B nB cB] 28 (0, 0)))
    (hlen : vs.length ≤ 100000) (hbase : base ≤ w.heap.size)
    (h : ∀ v' w', w'.ownsRow base 28 1 v' (vs.length + 1) (vs ++ [.slice B nB cB]) → w.grownBy w' v.ownBlock → (v'.ownBlock = v.ownBlock ∨ v'.ownBlock = some w.heap.size) → wpList Try.prog ops Q rest (a.put o.dst v') w') : wpList Try.prog ops Q (o :: rest) a w := by
  obtain ⟨i0, hi, hz0, hz1, hz2⟩ := info_parts row_info
  refine wpList_append_src w hgd s x _ ho base _ i0 _ 1 24 Try.underlying45 hi hz0 hz1 hz2 (by simp [Value.cells]) (by decide) v vs.length vs hs hown (some ⟨g, 0, none⟩) 1 c [.slice B nB cB] hx ?_ rfl ?_ (by unfold maxLen; omega) (by omega) hbase h
  · intro j hj
    obtain rfl : j = 0 := by simpa using hj
    exact ⟨_, rfl, by rw [add_zero_block, cell_of_row _ _ _ _ _ _ hr]; rfl⟩
  · intro y hy
    simp at hy
    subst hy
    rfl
end

end Go.Proofs.Ytmnnhmbolbepcaa
