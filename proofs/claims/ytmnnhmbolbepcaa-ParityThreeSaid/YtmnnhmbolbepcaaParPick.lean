/- What parity.Join keeps as it walks through the parts; which parts it takes: plain. -/
import Derived.Test.YtmnnhmbolbepcaaParPoly
namespace Go.Proofs.Ytmnnhmbolbepcaa
open Go.RowKit
set_option linter.unusedSimpArgs false

/-- the first three parts with unlike numbers, or why there are none -/
def pickL (n : Nat) : List Pt → List Pt → List Pt × Int
  | acc, [] => (acc, if acc.length < 3 then 4 else 0)
  | acc, p :: L => if acc.length = 3 then (acc, 0) else if p.1 < 1 ∨ 5 < p.1 then (acc, 1) else if acc.any (fun q => decide (q.1 = p.1)) then pickL n acc L
      else if p.2.size = n then pickL n (acc ++ [p]) L else (acc, 3)
def num (p : Pt) : UInt8 := UInt8.ofNat p.1.toNat
def metL (acc : List Pt) : List Value := (List.range 6).map fun k : Nat => Value.bool (acc.any (fun q => decide (q.1 = (k : Int))))
theorem metL_length (acc : List Pt) : (metL acc).length = 6 := by simp [metL]
theorem metL_get (acc : List Pt) (k : Nat) (h : k < 6) : (metL acc)[k]? = some (Value.bool (acc.any (fun q => decide (q.1 = (k : Int))))) := by simp [metL, h]
theorem metL_set (acc : List Pt) (p : Pt) (k : Nat) (hk : p.1 = (k : Int)) : (metL acc).set k (.bool true) = metL (acc ++ [p]) := by
  refine List.ext_getElem? fun j => ?_
  rw [List.getElem?_set]
  by_cases e : k = j
  · subst e
    rw [if_pos rfl]
    by_cases h : k < 6
    · rw [if_pos (by rw [metL_length]; exact h), metL_get _ _ h]; simp [hk]
    · rw [if_neg (by rw [metL_length]; exact h), List.getElem?_eq_none (by rw [metL_length]; omega)]
  · rw [if_neg e]
    by_cases h : j < 6
    · rw [metL_get _ _ h, metL_get _ _ h]
      have : ¬ p.1 = (j : Int) := by rw [hk]; omega
      simp [this]
    · rw [List.getElem?_eq_none (by rw [metL_length]; omega), List.getElem?_eq_none (by rw [metL_length]; omega)]

theorem BytesN.below {P : Nat → Prop} {W W' : World} {A : Option Addr} {l : List UInt8} (h : BytesN P W A l) (hb : Below W.heap.size W W') : BytesN P W' A l := fun j hj => by
  obtain ⟨ad, e, hp, hc⟩ := h j hj
  have hlt := lt_of_cell (w := W) (p := ad.add j) (by rw [hc]; rfl)
  exact ⟨ad, e, hp, (cell_same (hb.block _ hlt)).trans hc⟩
theorem BytesN.change {P P' : Nat → Prop} {W W' : World} {A : Option Addr} {l : List UInt8} (h : BytesN P W A l) (hk : ∀ k, k < W.heap.size → P k → P' k ∧ W'.heap[k]? = W.heap[k]?) : BytesN P' W' A l := fun j hj => by
  obtain ⟨ad, e, hp, hc⟩ := h j hj
  have hlt := lt_of_cell (w := W) (p := ad.add j) (by rw [hc]; rfl)
  rw [block_of_add] at hlt
  exact ⟨ad, e, (hk _ hlt hp).1, (cell_same (by rw [block_of_add]; exact (hk _ hlt hp).2)).trans hc⟩

/-- what parity.Join keeps: which numbers it has met, their bytes, the rows -/
structure JI (w W : World) (gm : Nat) (M : List Value) (xv : Value) (xl : List UInt8) (rv : Value) (vs : List Value) (acc : List Pt) : Prop where
  met : W.heap[gm]? = some (.cells M.toArray 50 (0, 0))
  xs : OwnB W (gm + 1) xv xl
  rows : W.ownsRow (gm + 1) 28 1 rv acc.length vs
  ap : ∀ g, xv.ownBlock = some g → rv.ownBlock ≠ some g
  dat : ∀ t (h : t < acc.length), ∃ A c, vs[t]? = some (.slice A acc[t].2.size c) ∧ BytesN (fun k => gm < k ∧ xv.ownBlock ≠ some k ∧ rv.ownBlock ≠ some k) W A (bs acc[t].2)
  b : Below gm w W
section
variable {w W W' : World} {gm : Nat} {M : List Value} {xv xv' rv rv' : Value} {xl xl' : List UInt8} {vs : List Value} {acc : List Pt}
theorem JI.below (h : JI w W gm M xv xl rv vs acc) (hb : Below W.heap.size W W') : JI w W' gm M xv xl rv vs acc := by
  have hg := lt_of_block h.met
  refine ⟨(hb.block _ hg).trans h.met, h.xs.below hb, ?_, h.ap, fun t ht => ?_, h.b.trans (hb.mono (Nat.le_of_lt hg))⟩
  · exact h.rows.kept (row := none) ⟨hb.os, hb.tape, hb.output, hb.size, fun k hk _ => hb.block k hk⟩ (by cases h : rv.ownBlock <;> simp)
  · obtain ⟨A, c, h1, h2⟩ := h.dat t ht
    exact ⟨A, c, h1, h2.below hb⟩
theorem JI.setMet (h : JI w W gm M xv xl rv vs acc) (k : Nat) (hge : gm = w.heap.size) : JI w (W.setCell ⟨gm, k, none⟩ (.bool true)) gm (M.set k (.bool true)) xv xl rv vs acc := by
  have hx : W.grownBy (W.setCell ⟨gm, k, none⟩ (.bool true)) (some gm) := ⟨rfl, rfl, rfl, by simp [World.setCell], fun j _ hj => Below.heap_setCell _ _ _ _ (fun e => hj (by simp [e]))⟩
  refine ⟨?_, h.xs.kept hx ?_, h.rows.kept hx ?_, h.ap, fun t ht => ?_, ?_⟩
  · rw [heap_setCell_same W gm k _ _ _ h.met, List.setIfInBounds_toArray]
  · cases e : xv.ownBlock with
    | none => exact Or.inl rfl
    | some g => exact Or.inr (fun e2 => by injection e2 with e2; have := (World.ownsRow.lt h.xs g e).1; omega)
  · cases e : rv.ownBlock with
    | none => exact Or.inl rfl
    | some g => exact Or.inr (fun e2 => by injection e2 with e2; have := (World.ownsRow.lt h.rows g e).1; omega)
  · obtain ⟨A, c, h1, h2⟩ := h.dat t ht
    exact ⟨A, c, h1, h2.change (fun k _ hk => ⟨hk, Below.heap_setCell _ _ _ _ (Nat.ne_of_gt hk.1)⟩)⟩
  · exact h.b.setCell (p := ⟨gm, k, none⟩) (Nat.le_refl _) _
theorem JI.xs' (h : JI w W gm M xv xl rv vs acc) (ho : OwnB W' (gm + 1) xv' xl') (hg : W.grownBy W' xv.ownBlock) (hat : xv'.ownBlock = xv.ownBlock ∨ xv'.ownBlock = some W.heap.size) : JI w W' gm M xv' xl' rv vs acc := by
  have hm := lt_of_block h.met
  refine ⟨?_, ho, h.rows.kept hg ?_, fun g e => ?_, fun t ht => ?_, ?_⟩
  · exact (hg.block _ hm (fun e => by have := (World.ownsRow.lt h.xs _ e.symm).1; omega)).trans h.met
  · cases e : rv.ownBlock with
    | none => exact Or.inl rfl
    | some g => exact Or.inr (fun e2 => h.ap g e2.symm e)
  · rcases hat with ha | ha
    · exact h.ap g (ha ▸ e)
    · intro e2
      rw [ha] at e
      injection e with e
      have := (World.ownsRow.lt h.rows _ e2).2
      omega
  · obtain ⟨A, c, h1, h2⟩ := h.dat t ht
    refine ⟨A, c, h1, h2.change (fun k hk hp => ⟨⟨hp.1, ?_, hp.2.2⟩, hg.block k hk (fun e => hp.2.1 e.symm)⟩)⟩
    rcases hat with ha | ha
    · rw [ha]; exact hp.2.1
    · rw [ha]; intro e; injection e with e; omega
  · exact h.b.trans ((below_grown h.xs hg (by omega)).mono (by omega))
theorem JI.rows' (h : JI w W gm M xv xl rv vs acc) {p : Pt} {A : Option Addr} {c : Nat} (hd : BytesN (fun k => gm < k ∧ xv.ownBlock ≠ some k ∧ rv.ownBlock ≠ some k) W A (bs p.2))
    (ho : W'.ownsRow (gm + 1) 28 1 rv' (vs.length + 1) (vs ++ [.slice A p.2.size c])) (hg : W.grownBy W' rv.ownBlock) (hat : rv'.ownBlock = rv.ownBlock ∨ rv'.ownBlock = some W.heap.size) :
    JI w W' gm M xv xl rv' (vs ++ [.slice A p.2.size c]) (acc ++ [p]) := by
  have hm := lt_of_block h.met
  have hvl : vs.length = acc.length := by have := h.rows.1; omega
  have kp : ∀ {A : Option Addr} {l : List UInt8}, BytesN (fun k => gm < k ∧ xv.ownBlock ≠ some k ∧ rv.ownBlock ≠ some k) W A l → BytesN (fun k => gm < k ∧ xv.ownBlock ≠ some k ∧ rv'.ownBlock ≠ some k) W' A l := fun h2 =>
    h2.change (fun k hk hp => ⟨⟨hp.1, hp.2.1, by
      rcases hat with ha | ha
      · rw [ha]; exact hp.2.2
      · rw [ha]; intro e; injection e with e; omega⟩, hg.block k hk (fun e => hp.2.2 e.symm)⟩)
  refine ⟨?_, h.xs.kept hg ?_, ?_, fun g e => ?_, fun t ht => ?_, ?_⟩
  · exact (hg.block _ hm (fun e => by have := (World.ownsRow.lt h.rows _ e.symm).1; omega)).trans h.met
  · cases e : xv.ownBlock with
    | none => exact Or.inl rfl
    | some g => exact Or.inr (fun e2 => h.ap g e e2.symm)
  · rw [List.length_append, ← hvl]; exact ho
  · rcases hat with ha | ha
    · rw [ha]; exact h.ap g e
    · rw [ha]; intro e2; injection e2 with e2
      have := (World.ownsRow.lt h.xs _ e).2
      omega
  · rw [List.length_append, List.length_singleton] at ht
    by_cases h3 : t < acc.length
    · obtain ⟨A', c', h1, h2⟩ := h.dat t h3
      refine ⟨A', c', ?_, ?_⟩
      · rw [List.getElem?_append_left (by omega), List.getElem_append_left h3]; exact h1
      · rw [List.getElem_append_left h3]; exact kp h2
    · obtain rfl : t = acc.length := by omega
      refine ⟨A, c, ?_, ?_⟩
      · rw [List.getElem?_append_right (by omega), hvl, Nat.sub_self]; simp
      · rw [List.getElem_append_right (by omega)]; simpa using kp hd
  · exact h.b.trans ((below_grown h.rows hg (by omega)).mono (by omega))
end

theorem pick_full (n : Nat) (acc L : List Pt) (h : acc.length = 3) : pickL n acc L = (acc, 0) := by
  cases L with
  | nil => simp [pickL, h]
  | cons p L => simp [pickL, h]
theorem drop_cons (L : List Pt) (i : Nat) (h : i < L.length) : L.drop i = L[i] :: L.drop (i + 1) := List.drop_eq_getElem_cons h
/-- the text that parts tell, or why they don't -/
noncomputable def joinV (L : List Pt) (z : Int) : ByteArray × Int :=
  if z < 0 ∨ 65536 < z then (ByteArray.empty, 2)
  else if (pickL (rowsN z.toNat) [] L).2 ≠ 0 then (ByteArray.empty, (pickL (rowsN z.toNat) [] L).2)
  else (⟨((atL ((pickL (rowsN z.toNat) [] L).1.map num) (fun t => bs ((pickL (rowsN z.toNat) [] L).1.getD t (0, ByteArray.empty)).2) 1 (rowsN z.toNat) ++
    atL ((pickL (rowsN z.toNat) [] L).1.map num) (fun t => bs ((pickL (rowsN z.toNat) [] L).1.getD t (0, ByteArray.empty)).2) 2 (rowsN z.toNat) ++
    atL ((pickL (rowsN z.toNat) [] L).1.map num) (fun t => bs ((pickL (rowsN z.toNat) [] L).1.getD t (0, ByteArray.empty)).2) 3 (rowsN z.toNat)).take z.toNat).toArray⟩, 0)
theorem joinV_err {L : List Pt} {z : Int} {acc : List Pt} {e : Int} (h : ¬ (z < 0 ∨ 65536 < z)) (hp : pickL (rowsN z.toNat) [] L = (acc, e)) (he : e ≠ 0) : joinV L z = (ByteArray.empty, e) := by
  unfold joinV
  rw [if_neg h, hp, if_pos he]
theorem joinV_ok {L : List Pt} {z : Int} {acc : List Pt} (h : ¬ (z < 0 ∨ 65536 < z)) (hp : pickL (rowsN z.toNat) [] L = (acc, 0)) : joinV L z =
    (⟨((atL (acc.map num) (fun t => bs (acc.getD t (0, ByteArray.empty)).2) 1 (rowsN z.toNat) ++ atL (acc.map num) (fun t => bs (acc.getD t (0, ByteArray.empty)).2) 2 (rowsN z.toNat) ++ atL (acc.map num) (fun t => bs (acc.getD t (0, ByteArray.empty)).2) 3 (rowsN z.toNat)).take z.toNat).toArray⟩, 0) := by
  unfold joinV
  rw [if_neg h, hp, if_neg (by simp)]

theorem below_setRow {B : Nat} {w W : World} (h : Below B w W) {g : Nat} (hg : B ≤ g) (cs : Array Value) : Below B w (W.setRow g cs) :=
  h.trans ⟨rfl, rfl, rfl, by simp, fun k hk => setRow_other W g k cs (by omega)⟩
theorem part_alloc (w : World) : (Instr.alloc 30 true (.tuple #[])).run Try.prog w = .ok (.pointer (some ⟨w.heap.size, 0, none⟩)) (w.alloc (.cells #[.int .i64 0, .string ByteArray.empty] 30)) := by
  obtain ⟨i0, hi, hz0, _, _⟩ := info_parts part_info
  exact alloc_new hi hz0 w
theorem met_info : (Try.prog.info? 50).map (fun i => (i.zero, i.size, i.bytes)) = some (some (.agg (metL []).toArray), 6, 6) := by kernel_rfl
theorem met_alloc (w : World) : (Instr.alloc 50 true (.tuple #[])).run Try.prog w = .ok (.pointer (some ⟨w.heap.size, 0, none⟩)) (w.alloc (.cells (metL []).toArray 50)) := by
  obtain ⟨i0, hi, hz0, _, _⟩ := info_parts met_info
  exact alloc_new hi hz0 w
theorem bytesWorld_below (w : World) (s : ByteArray) : Below w.heap.size w (Lib.bytesWorld w 5 s) :=
  ⟨rfl, rfl, rfl, by rw [Lib.bytesWorld_size]; omega, fun k hk => Lib.bytesWorld_at_old w _ s k hk⟩
theorem str_bytes (w : World) (s : ByteArray) : (convert 9 28 (.string s)).run Try.prog w = .ok (.slice (some ⟨w.heap.size, 0, none⟩) s.size (grownCap w s.size 0 5)) (Lib.bytesWorld w 5 s) :=
  Lib.run_convert_string_bytes w _ _ _ s Try.underlying9 Try.underlying28 Try.underlying5
theorem bytesWorld_bytes {P : Nat → Prop} (w : World) (s : ByteArray) (hP : P w.heap.size) : BytesN P (Lib.bytesWorld w 5 s) (some ⟨w.heap.size, 0, none⟩) (bs s) := fun j hj => by
  refine ⟨_, rfl, hP, ?_⟩
  rw [add_zero_block, Lib.bytesWorld_cell w _ s j (by rwa [bs_length] at hj), Gf.getD_eq (by exact hj)]
  rfl

end Go.Proofs.Ytmnnhmbolbepcaa
