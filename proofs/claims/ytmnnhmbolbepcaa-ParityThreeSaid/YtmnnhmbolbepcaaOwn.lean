/- Words for slices that a call makes itself: what is appended, from whatever source. -/
import Derived.Test.YtmnnhmbolbepcaaBase
import Derived.Maps.AppendAt
import Derived.Deep.AppendLies
import Derived.RegionTactic
namespace Go.Proofs.Ytmnnhmbolbepcaa
open Go.RowKit

/-- a slice's cells are these values -/
def Src (w : World) (A : Option Addr) (cs : List Value) : Prop := ∀ (j : Nat) (h : j < cs.length), ∃ ad, A = some ad ∧ w.cell? (ad.add j) = some cs[j]

/-- bytes as values -/
def vals (l : List UInt8) : List Value := l.map (fun a => Value.int .u8 (u a))
theorem vals_length (l : List UInt8) : (vals l).length = l.length := by simp [vals]
theorem vals_append (l m : List UInt8) : vals (l ++ m) = vals l ++ vals m := by simp [vals]
theorem vals_one (l : List UInt8) : ∀ x ∈ vals l, x.oneCell' = true := by
  intro x hx
  obtain ⟨a, _, rfl⟩ := List.mem_map.1 hx
  rfl
theorem vals_get (l : List UInt8) (j : Nat) (h : j < l.length) : (vals l)[j]'(by rw [vals_length]; exact h) = Value.int .u8 (u l[j]) := by simp [vals]

theorem Src.of_bytes {w : World} {A : Option Addr} {l : List UInt8} (h : Bytes w A l) : Src w A (vals l) := fun j hj => by
  have hj' : j < l.length := by simpa [vals] using hj
  obtain ⟨ad, e, hc⟩ := h j hj'
  exact ⟨ad, e, by rw [hc]; simp [vals]⟩
theorem Bytes.of_src {w : World} {A : Option Addr} {l : List UInt8} (h : Src w A (vals l)) : Bytes w A l := fun j hj => by
  obtain ⟨ad, e, hc⟩ := h j (by simpa [vals] using hj)
  exact ⟨ad, e, by rw [hc]; simp [vals]⟩

/-- the block of a slice's cells -/
theorem block_of_add (a : Addr) (n : Nat) : (a.add n).block = a.block := by unfold Addr.add; split <;> rfl

/-- bytes that lie below block B stay over whatever leaves that alone -/
theorem Bytes.keep {w w' : World} {A : Option Addr} {l : List UInt8} (h : Bytes w A l) (hk : ∀ p : Addr, (w.cell? p).isSome = true → (∀ ad, A = some ad → p.block = ad.block) → w'.cell? p = w.cell? p) : Bytes w' A l := fun j hj => by
  obtain ⟨ad, e, hc⟩ := h j hj
  refine ⟨ad, e, ?_⟩
  rw [hk (ad.add j) (by rw [hc]; rfl) (fun ad' e' => by rw [e] at e'; injection e' with e'; rw [← e', block_of_add]), hc]
theorem lt_of_cell {w : World} {p : Addr} (h : (w.cell? p).isSome = true) : p.block < w.heap.size := by
  rcases hc : w.cell? p with _ | v
  · rw [hc] at h; cases h
  · exact block_lt_of_cell hc
theorem Bytes.below {w w' : World} {A : Option Addr} {l : List UInt8} (h : Bytes w A l) (hb : Below w.heap.size w w') : Bytes w' A l :=
  h.keep fun _ hp _ => hb.cell (lt_of_cell hp)
theorem Bytes.alloc {w : World} {A : Option Addr} {l : List UInt8} (h : Bytes w A l) (o : Obj) : Bytes (w.alloc o) A l :=
  h.below ((Below.refl _ _).alloc (Nat.le_refl _) _)
theorem Bytes.grown {w w' : World} {A : Option Addr} {l : List UInt8} {row : Option Nat} (h : Bytes w A l) (hg : w.grownBy w' row) (hne : ∀ ad, A = some ad → some ad.block ≠ row) : Bytes w' A l := fun j hj => by
  obtain ⟨ad, e, hc⟩ := h j hj
  exact ⟨ad, e, hg.cell hc (by rw [block_of_add]; exact hne ad e)⟩
theorem Bytes.setCell {w : World} {A : Option Addr} {l : List UInt8} (h : Bytes w A l) {p : Addr} (hne : ∀ ad, A = some ad → ad.block ≠ p.block) (v : Value) : Bytes (w.setCell p v) A l := fun j hj => by
  obtain ⟨ad, e, hc⟩ := h j hj
  exact ⟨ad, e, by rw [World.cell?_setCell_other w p _ v (fun e' => hne ad e (by rw [e', block_of_add]))]; exact hc⟩

/-- the call's own slice of bytes -/
def OwnB (w : World) (base : Nat) (v : Value) (l : List UInt8) : Prop := w.ownsRow base 5 1 v l.length (vals l)

theorem OwnB.nil (w : World) (base : Nat) : OwnB w base (.slice none 0 0) [] := World.ownsRow_nil w base _ _
theorem OwnB.kept {w w' : World} {base : Nat} {v : Value} {l : List UInt8} {row : Option Nat} (h : OwnB w base v l) (hg : w.grownBy w' row) (hne : v.ownBlock = none ∨ v.ownBlock ≠ row) : OwnB w' base v l := World.ownsRow.kept h hg hne
theorem OwnB.alloc {w : World} {base : Nat} {v : Value} {l : List UInt8} (h : OwnB w base v l) (o : Obj) : OwnB (w.alloc o) base v l := World.ownsRow.alloc h o
theorem OwnB.drewN {w : World} {base : Nat} {v : Value} {l : List UInt8} (h : OwnB w base v l) (n : Nat) : OwnB (w.drewN n) base v l := h
theorem OwnB.below {w w' : World} {base : Nat} {v : Value} {l : List UInt8} (h : OwnB w base v l) (hb : Below w.heap.size w w') : OwnB w' base v l :=
  h.kept (row := none) ⟨hb.os, hb.tape, hb.output, hb.size, fun k hk _ => hb.block k hk⟩ (by cases h : v.ownBlock <;> simp)
/-- what such a value is -/
theorem OwnB.form {w : World} {base : Nat} {v : Value} {l : List UInt8} (h : OwnB w base v l) :
    ∃ A c, v = .slice A l.length c ∧ l.length ≤ c ∧ Bytes w A l ∧ (∀ ad, A = some ad → ad.block < w.heap.size ∧ v.ownBlock = some ad.block ∧ base ≤ ad.block) := by
  rcases h.2 with ⟨rfl, hx⟩ | ⟨g, cap, cur, rfl, hb, hh, _, hcap, _⟩
  · have hl : l = [] := by simpa [vals] using hx
    subst hl
    exact ⟨none, 0, rfl, Nat.le_refl _, Bytes.nil _ _, fun ad h => by cases h⟩
  · refine ⟨some ⟨g, 0, none⟩, cap, rfl, by assumption, fun j hj => ⟨_, rfl, ?_⟩, fun ad hA => ?_⟩
    · exact World.ownsRow.cells h rfl j _ (by rw [List.getElem?_eq_getElem (by rw [vals_length]; exact hj), vals_get l j hj])
    · injection hA with hA
      subst hA
      exact ⟨(World.ownsRow.lt h g rfl).2, rfl, hb⟩
/-- a slice literal of bytes -/
theorem OwnB.lit (w : World) (base : Nat) (l : List UInt8) (hb : base ≤ w.heap.size) (hm : l.length ≤ maxLen) : OwnB (w.alloc (.cells (vals l).toArray 5)) base (.slice (some ⟨w.heap.size, 0, none⟩) l.length l.length) l := by
  have h := World.ownsRow_lit (base := base) (e := 5) (size := 1) w (vals l).toArray l.length hb hm (by simp [vals])
  unfold OwnB
  simpa using h

section
variable {P : Program} (w : World)

theorem run_append_nothing (base : Nat) (t ty e : TypeId) (i : TypeInfo) (size : Nat) (ht : P.underlying t = some (.slice e)) (hi : P.info? e = some i)
    (v : Value) (n : Nat) (xs : List Value) (hown : w.ownsRow base e size v n xs) (c : Nat) : (Builtin.append_ #[t, t] ty #[v, .slice none 0 c]).run P w = .ok v w := by
  rcases hown.2 with ⟨rfl, rfl⟩ | ⟨g, cap, cur, rfl, _, _, hnc, _⟩
  · simp [Builtin.append_, run_underlying ht, sizeOf, typeInfo, hi, Builtin.lenOf, Builtin.firstCells]
  · simp [Builtin.append_, run_underlying ht, sizeOf, typeInfo, hi, Builtin.lenOf, Builtin.firstCells, hnc, storeCells]

theorem run_append_src (base : Nat) (t ty e : TypeId) (i : TypeInfo) (z : Value) (size bytes : Nat) (ht : P.underlying t = some (.slice e)) (hi : P.info? e = some i) (hz : i.zero = some z)
    (hsize : i.size = size) (hby : i.bytes = bytes) (hzs : z.cells.size = size) (hsz : 0 < size)
    (v : Value) (n : Nat) (xs : List Value) (hown : w.ownsRow base e size v n xs)
    (A : Option Addr) (m c : Nat) (news : List Value) (hr : Src w A news) (hm : news.length = m * size) (h1 : ∀ x ∈ news, x.oneCell' = true)
    (h63 : n + m ≤ maxLen) (hbytes : (n + m) * bytes ≤ 140737488355328) (hbase : base ≤ w.heap.size) :
    ∃ v' w', (Builtin.append_ #[t, t] ty #[v, .slice A m c]).run P w = .ok v' w' ∧ w'.ownsRow base e size v' (n + m) (xs ++ news) ∧ w.grownBy w' v.ownBlock ∧
      (v'.ownBlock = v.ownBlock ∨ v'.ownBlock = some w.heap.size) := by
  rcases A with _ | ad
  · have hn : news = [] := by
      rcases news with _ | ⟨x, news⟩
      · rfl
      · obtain ⟨ad, h, _⟩ := hr 0 (by simp)
        cases h
    subst hn
    have hm0 : m = 0 := by
      rcases Nat.mul_eq_zero.1 hm.symm with h | h <;> omega
    subst hm0
    exact ⟨v, w, run_append_nothing w base t ty e i size ht hi v n xs hown c, by simpa using hown, World.grownBy.refl w _, .inl rfl⟩
  · have hcells : ∀ j x, news[j]? = some x → w.cell? (ad.add j) = some x := by
      intro j x hx
      obtain ⟨hj, rfl⟩ := List.getElem?_eq_some_iff.1 hx
      obtain ⟨ad', h, hc⟩ := hr j hj
      injection h with h
      subst h
      exact hc
    obtain ⟨v', w', hrun, h2, h3, _, h5⟩ := run_append_own_at (P := P) w base t ty e i z size bytes ht hi hz hsize hby hzs hsz v n xs hown ad m c news hm hcells h1 h63 hbytes hbase
    exact ⟨v', w', hrun, h2, h3, h5⟩

theorem wp_append_src {o : Oper} {a : Act} {K : Act → World → Prop} {Q : Exit → Act → World → Prop} (s x : Operand) (t : TypeId)
    (ho : o.op = .call { callee := .builtin .append, args := #[s, x], argTypes := #[t, t] })
    (base : Nat) (e : TypeId) (i : TypeInfo) (z : Value) (size bytes : Nat) (ht : P.underlying t = some (.slice e)) (hi : P.info? e = some i) (hz : i.zero = some z)
    (hsize : i.size = size) (hby : i.bytes = bytes) (hzs : z.cells.size = size) (hsz : 0 < size)
    (v : Value) (n : Nat) (xs : List Value) (hs : a.eval s = v) (hown : w.ownsRow base e size v n xs)
    (A : Option Addr) (m c : Nat) (news : List Value) (hx : a.eval x = .slice A m c) (hr : Src w A news) (hm : news.length = m * size) (h1 : ∀ y ∈ news, y.oneCell' = true)
    (h63 : n + m ≤ maxLen) (hbytes : (n + m) * bytes ≤ 140737488355328) (hbase : base ≤ w.heap.size)
    (h : ∀ v' w', w'.ownsRow base e size v' (n + m) (xs ++ news) → w.grownBy w' v.ownBlock → (v'.ownBlock = v.ownBlock ∨ v'.ownBlock = some w.heap.size) → K (a.put o.dst v') w') : o.wp P a w K Q := by
  obtain ⟨v', w', hrun, h2, h3, h4⟩ := run_append_src (P := P) w base t o.type e i z size bytes ht hi hz hsize hby hzs hsz v n xs hown A m c news hr hm h1 h63 hbytes hbase
  unfold Oper.wp execOp
  simp only [ho, resolve, invoke, builtin, Sem.run_bind, Sem.run_pure, Result.andThen_ok, List.map_toArray, List.map_cons, List.map_nil, hs, hx, hrun]
  exact h v' w' h2 h3 h4

theorem wpList_append_src {ops : Array Oper} {rest : List Oper} {o : Oper} {a : Act} {Q : Exit → Act → World → Prop} (hgd : o.guard = none) (s x : Operand) (t : TypeId)
    (ho : o.op = .call { callee := .builtin .append, args := #[s, x], argTypes := #[t, t] })
    (base : Nat) (e : TypeId) (i : TypeInfo) (z : Value) (size bytes : Nat) (ht : P.underlying t = some (.slice e)) (hi : P.info? e = some i) (hz : i.zero = some z)
    (hsize : i.size = size) (hby : i.bytes = bytes) (hzs : z.cells.size = size) (hsz : 0 < size)
    (v : Value) (n : Nat) (xs : List Value) (hs : a.eval s = v) (hown : w.ownsRow base e size v n xs)
    (A : Option Addr) (m c : Nat) (news : List Value) (hx : a.eval x = .slice A m c) (hr : Src w A news) (hm : news.length = m * size) (h1 : ∀ y ∈ news, y.oneCell' = true)
    (h63 : n + m ≤ maxLen) (hbytes : (n + m) * bytes ≤ 140737488355328) (hbase : base ≤ w.heap.size)
    (h : ∀ v' w', w'.ownsRow base e size v' (n + m) (xs ++ news) → w.grownBy w' v.ownBlock → (v'.ownBlock = v.ownBlock ∨ v'.ownBlock = some w.heap.size) → wpList P ops Q rest (a.put o.dst v') w') : wpList P ops Q (o :: rest) a w :=
  wpList_plain hgd fun _ hK => wp_append_src w s x t ho base e i z size bytes ht hi hz hsize hby hzs hsz v n xs hs hown A m c news hx hr hm h1 h63 hbytes hbase fun v' w' h2 h3 h4 => hK _ _ (h v' w' h2 h3 h4)
end

theorem u8_info : (Try.prog.info? 5).map (fun i => (i.zero, i.size, i.bytes)) = some (some (.int .u8 0), 1, 1) := by kernel_rfl

/-- bytes appended to the call's own slice of bytes -/
theorem wpList_append_bytes (w : World) {ops : Array Oper} {rest : List Oper} {o : Oper} {a : Act} {Q : Exit → Act → World → Prop} (hgd : o.guard = none) (s x : Operand)
    (ho : o.op = .call { callee := .builtin .append, args := #[s, x], argTypes := #[28, 28] })
    (base : Nat) (v : Value) (l : List UInt8) (hs : a.eval s = v) (hown : OwnB w base v l)
    (A : Option Addr) (m c : Nat) (news : List UInt8) (hx : a.eval x = .slice A m c) (hr : Bytes w A news) (hm : m = news.length)
    (hbytes : l.length + m ≤ 140737488355328) (hbase : base ≤ w.heap.size)
    (h : ∀ v' w', OwnB w' base v' (l ++ news) → w.grownBy w' v.ownBlock → (v'.ownBlock = v.ownBlock ∨ v'.ownBlock = some w.heap.size) → wpList Try.prog ops Q rest (a.put o.dst v') w') : wpList Try.prog ops Q (o :: rest) a w := by
  obtain ⟨i0, hi, hz0, hz1, hz2⟩ := info_parts u8_info
  refine wpList_append_src w hgd s x _ ho base _ i0 _ 1 1 Try.underlying28 hi hz0 hz1 hz2 rfl (by decide) v l.length (vals l) hs hown A m c (vals news) hx (Src.of_bytes hr) (by rw [vals_length, hm]; omega) (vals_one _) (by unfold maxLen; omega) (by omega) hbase ?_
  intro v' w' h1 h2 h3
  refine h v' w' ?_ h2 h3
  unfold OwnB
  rw [vals_append, List.length_append, ← hm]
  exact h1

/-- two slices of the call's own that share no block -/
def Ap (v v' : Value) : Prop := ∀ g, v.ownBlock = some g → v'.ownBlock ≠ some g
theorem Ap.none_left (v : Value) : Ap (.slice none 0 0) v := fun g h => by cases h
theorem Ap.none_right (v : Value) : Ap v (.slice none 0 0) := fun g _ h => by cases h
theorem Ap.symm {v v' : Value} (h : Ap v v') : Ap v' v := fun g h1 h2 => h g h2 h1
theorem Ap.ne {v v' : Value} (h : Ap v v') : v.ownBlock = none ∨ v.ownBlock ≠ v'.ownBlock := by
  cases e : v.ownBlock with
  | none => exact .inl rfl
  | some g => exact .inr (fun e' => h g e e'.symm)
theorem Ap.grown {w : World} {base : Nat} {v v2 v' : Value} {l2 : List UInt8} (h : Ap v v2) (h2 : OwnB w base v2 l2) (hat : v'.ownBlock = v.ownBlock ∨ v'.ownBlock = some w.heap.size) : Ap v' v2 := by
  rcases hat with e | e
  · intro g hg; rw [e] at hg; exact h g hg
  · intro g hg hv
    rw [e] at hg
    injection hg with hg
    have := (World.ownsRow.lt h2 g hv).2
    omega

/-- two slices of the call's own, apart, what was there unturned -/
structure Two (w W : World) (v1 : Value) (l1 : List UInt8) (v2 : Value) (l2 : List UInt8) : Prop where
  h1 : OwnB W w.heap.size v1 l1
  h2 : OwnB W w.heap.size v2 l2
  ap : Ap v1 v2
  b : Below w.heap.size w W
theorem Two.swap {w W : World} {v1 v2 : Value} {l1 l2 : List UInt8} (h : Two w W v1 l1 v2 l2) : Two w W v2 l2 v1 l1 := ⟨h.h2, h.h1, h.ap.symm, h.b⟩
theorem Two.start {w W : World} (h : Below w.heap.size w W) : Two w W (.slice none 0 0) [] (.slice none 0 0) [] := ⟨OwnB.nil _ _, OwnB.nil _ _, Ap.none_left _, h⟩
theorem Two.alloc {w W : World} {v1 v2 : Value} {l1 l2 : List UInt8} (h : Two w W v1 l1 v2 l2) (o : Obj) : Two w (W.alloc o) v1 l1 v2 l2 :=
  ⟨h.h1.alloc o, h.h2.alloc o, h.ap, h.b.alloc h.b.size o⟩
theorem Two.drewN {w W : World} {v1 v2 : Value} {l1 l2 : List UInt8} (h : Two w W v1 l1 v2 l2) (n : Nat) : Two w (W.drewN n) v1 l1 v2 l2 :=
  ⟨h.h1, h.h2, h.ap, below_drewN h.b n⟩
theorem Two.below {w W W' : World} {v1 v2 : Value} {l1 l2 : List UInt8} (h : Two w W v1 l1 v2 l2) (hb : Below W.heap.size W W') : Two w W' v1 l1 v2 l2 :=
  ⟨h.h1.below hb, h.h2.below hb, h.ap, h.b.trans (hb.mono h.b.size)⟩
theorem Two.first {w W W' : World} {v1 v2 v1' : Value} {l1 l2 l1' : List UInt8} (h : Two w W v1 l1 v2 l2) (h1 : OwnB W' w.heap.size v1' l1') (hg : W.grownBy W' v1.ownBlock)
    (hat : v1'.ownBlock = v1.ownBlock ∨ v1'.ownBlock = some W.heap.size) : Two w W' v1' l1' v2 l2 :=
  ⟨h1, h.h2.kept hg h.ap.symm.ne, h.ap.grown h.h2 hat, h.b.grown hg h.b.size (fun k hk => (World.ownsRow.lt h.h1 k hk).1)⟩
theorem Two.second {w W W' : World} {v1 v2 v2' : Value} {l1 l2 l2' : List UInt8} (h : Two w W v1 l1 v2 l2) (h2 : OwnB W' w.heap.size v2' l2') (hg : W.grownBy W' v2.ownBlock)
    (hat : v2'.ownBlock = v2.ownBlock ∨ v2'.ownBlock = some W.heap.size) : Two w W' v1 l1 v2' l2' := (h.swap.first h2 hg hat).swap

theorem Ap.fresh {w : World} {base : Nat} {v : Value} {l : List UInt8} (h : OwnB w base v l) (n c : Nat) : Ap v (.slice (some ⟨w.heap.size, 0, none⟩) n c) := fun g hg e => by
  have h1 := (World.ownsRow.lt h g hg).2
  have h2 : w.heap.size = g := by simpa [Value.ownBlock] using e
  omega
/-- beside a slice of the call's own a new literal -/
theorem Two.lit {w W : World} {v : Value} {l : List UInt8} (h : OwnB W w.heap.size v l) (hb : Below w.heap.size w W) (m : List UInt8) (hm : m.length ≤ maxLen) :
    Two w (W.alloc (.cells (vals m).toArray 5)) v l (.slice (some ⟨W.heap.size, 0, none⟩) m.length m.length) m :=
  ⟨h.alloc _, OwnB.lit W w.heap.size m hb.size hm, Ap.fresh h _ _, hb.alloc hb.size _⟩

end Go.Proofs.Ytmnnhmbolbepcaa
