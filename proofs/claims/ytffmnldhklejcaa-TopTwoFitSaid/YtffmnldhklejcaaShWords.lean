/- Words for arrays of bytes by value, keys and shares: an index, ==, make. -/
import Derived.Test.YtffmnldhklejcaaOwn
import Derived.Deep.MidRow
import Derived.Deep.DeepMust
import Derived.Laws.StructEq
namespace Go.Proofs.Ytffmnldhklejcaa
open Go.RowKit

section
variable {P : Program}

theorem run_part_byte {e : TypeId} (he : P.underlying e = some (.int .u8)) (l : List UInt8) (i : Nat) (hi : i < l.length) (w : World) :
    (part e (vals l).toArray i).run P w = .ok (.int .u8 (u l[i])) w := by
  have ha : (isAgg e).run P w = .ok false w := by
    unfold isAgg
    rw [Sem.run_bind, run_underlying he w]
    rfl
  have hv : (vals l).toArray[i]? = some (.int .u8 (u l[i])) := by
    simp [vals, hi]
  unfold part
  rw [Sem.run_bind, ha]
  simp only [Result.andThen_ok, Bool.false_eq_true, if_false, hv, Sem.run_pure]

theorem sizeOf_byte {e : TypeId} {i : TypeInfo} (hi : P.info? e = some i) (hs : i.size = 1) (w : World) : (sizeOf e).run P w = .ok 1 w := by
  simp [sizeOf, typeInfo, hi, hs, go_sem]

/-- an element of an array of bytes by value -/
theorem run_index_bytes {t e : TypeId} {n : Nat} {i0 : TypeInfo} (ht : P.underlying t = some (.array n e)) (he : P.underlying e = some (.int .u8)) (hi : P.info? e = some i0) (hs : i0.size = 1)
    (l : List UInt8) (i : Nat) (hn : l.length = n) (h : i < l.length) (w : World) :
    (Instr.index t (.agg (vals l).toArray) (.int .i64 (i : Int))).run P w = .ok (.int .u8 (u l[i])) w := by
  have hw : IntKind.i64.wrap (i : Int) = (i : Int) ∨ True := .inr trivial
  unfold Instr.index
  simp only [asIntOf, Sem.run_bind, Sem.run_pure, Result.andThen_ok, run_underlying ht]
  rw [if_pos (by omega)]
  rw [Sem.run_bind, sizeOf_byte hi hs w]
  simp only [Result.andThen_ok, Int.toNat_natCast, Nat.mul_one]
  exact run_part_byte he l i h w

theorem run_equal_from {e : TypeId} (he : P.underlying e = some (.int .u8)) (l m : List UInt8) (hlm : l.length = m.length) (d : Nat) (w : World) :
    ∀ (k o : Nat), o + k = l.length →
    (forIn (List.range' o k 1) ((none, ()) : Option Bool × Unit) (fun i (_ : Option Bool × Unit) => (do
        let x ← part e (vals l).toArray (i * 1)
        let y ← part e (vals m).toArray (i * 1)
        let b ← Op.equalIn (d + 1) e x y
        if (!b) = true then pure (ForInStep.done (some false, ())) else pure (ForInStep.yield (none, ())) : Sem (ForInStep (Option Bool × Unit))))).run P w
      = .ok (if l.drop o = m.drop o then none else some false, ()) w := by
  intro k
  induction k with
  | zero =>
    intro o ho
    rw [List.drop_eq_nil_of_le (by omega), List.drop_eq_nil_of_le (by omega)]
    simp
  | succ k ih =>
    intro o ho
    rw [List.range'_succ, List.forIn_cons, Nat.mul_one]
    have h1 := run_part_byte (P := P) he l o (by omega) w
    have h2 := run_part_byte (P := P) he m o (by omega) w
    have h3 := run_equalIn_int (P := P) w d e .u8 .u8 (u l[o]) (u (m[o]'(by omega))) he
    simp only [Sem.run_bind, h1, h2, h3, Result.andThen_ok]
    have hl : l.drop o = l[o] :: l.drop (o + 1) := List.drop_eq_getElem_cons (by omega)
    have hm : m.drop o = m[o]'(by omega) :: m.drop (o + 1) := List.drop_eq_getElem_cons (by omega)
    rw [hl, hm]
    by_cases hx : l[o] = m[o]'(by omega)
    · have e1 : (u l[o] == u (m[o]'(by omega))) = true := by rw [hx]; simp
      rw [e1]
      simp only [Bool.not_true, Bool.false_eq_true, if_false, Sem.run_pure, Result.andThen_ok, hx, List.cons.injEq, true_and]
      exact ih (o + 1) (by omega)
    · have e1 : (u l[o] == u (m[o]'(by omega))) = false := beq_eq_false_iff_ne.2 (fun e => hx (u_inj e))
      rw [e1, if_neg (fun e => hx (List.cons.inj e).1)]
      simp

theorem run_equalIn_bytes {t e : TypeId} {n : Nat} {i0 : TypeInfo} (ht : P.underlying t = some (.array n e)) (he : P.underlying e = some (.int .u8)) (hi : P.info? e = some i0) (hs : i0.size = 1)
    (l m : List UInt8) (hl : l.length = n) (hm : m.length = n) (d : Nat) (w : World) :
    (Op.equalIn (d + 1 + 1) t (.agg (vals l).toArray) (.agg (vals m).toArray)).run P w = .ok (decide (l = m)) w := by
  rw [Op.equalIn]
  simp only [Sem.run_bind, run_underlying ht, Result.andThen_ok, sizeOf_byte hi hs w]
  rw [Std.Legacy.Range.forIn_eq_forIn_range']
  have h := run_equal_from (P := P) he l m (by omega) d w l.length 0 (by omega)
  have hsz : [:n].size = l.length := by simp [Std.Legacy.Range.size, hl]
  rw [show [:n].start = 0 from rfl, hsz, show [:n].step = 1 from rfl, h]
  simp only [List.drop_zero, Result.andThen_ok]
  by_cases e : l = m
  · rw [if_pos e]; simp [e]
  · rw [if_neg e]; simp [e]

/-- '==' and '!=' of two arrays of bytes -/
theorem run_eql_bytes {t e : TypeId} {n : Nat} {i0 : TypeInfo} (ht : P.underlying t = some (.array n e)) (he : P.underlying e = some (.int .u8)) (hi : P.info? e = some i0) (hs : i0.size = 1)
    (l m : List UInt8) (hl : l.length = n) (hm : m.length = n) (w : World) :
    (binOp .eql t (.agg (vals l).toArray) (.agg (vals m).toArray)).run P w = .ok (.bool (decide (l = m))) w := by
  rw [run_eql_struct]
  rw [run_equalIn_bytes ht he hi hs l m hl hm 9998 w]
  rfl
theorem run_neq_bytes {t e : TypeId} {n : Nat} {i0 : TypeInfo} (ht : P.underlying t = some (.array n e)) (he : P.underlying e = some (.int .u8)) (hi : P.info? e = some i0) (hs : i0.size = 1)
    (l m : List UInt8) (hl : l.length = n) (hm : m.length = n) (w : World) :
    (binOp .neq t (.agg (vals l).toArray) (.agg (vals m).toArray)).run P w = .ok (.bool (!decide (l = m))) w := by
  rw [run_neq_struct]
  rw [run_equalIn_bytes ht he hi hs l m hl hm 9998 w]
  rfl

/-- '==' of two structs of a byte and an array of bytes -/
theorem run_equalIn_share {t k e : TypeId} {n : Nat} {f0 f1 : Field} {i0 i1 : TypeInfo} (ht : P.underlying t = some (.struct (P.fieldsOf t))) (hf : (P.fieldsOf t).toList = [f0, f1]) (hp : P.stoodInHeld t = false)
    (h0 : f0.type = e ∧ f0.offset = 0 ∧ f0.name ≠ "_") (h1 : f1.type = k ∧ f1.offset = 1 ∧ f1.name ≠ "_")
    (hk : P.underlying k = some (.array n e)) (he : P.underlying e = some (.int .u8)) (hi : P.info? e = some i0) (hs : i0.size = 1) (hik : P.info? k = some i1) (hsk : i1.size = n)
    (l m : List UInt8) (hl : l.length = n + 1) (hm : m.length = n + 1) (d : Nat) (w : World) :
    (Op.equalIn (d + 1 + 1 + 1) t (.agg (vals l).toArray) (.agg (vals m).toArray)).run P w = .ok (decide (l = m)) w := by
  obtain ⟨a0, a1, a2⟩ := h0
  obtain ⟨b0, b1, b2⟩ := h1
  rw [run_equalIn_struct w _ t _ _ ht hp, hf]
  match l, m, hl, hm with
  | x :: l, y :: m, hl, hm =>
    have hl' : l.length = n := by simpa using hl
    have hm' : m.length = n := by simpa using hm
    have p1 := run_part_byte (P := P) he (x :: l) 0 (by simp) w
    have p2 := run_part_byte (P := P) he (y :: m) 0 (by simp) w
    have agg : (isAgg k).run P w = .ok true w := by
      unfold isAgg
      rw [Sem.run_bind, run_underlying hk w]
      rfl
    have szk : (sizeOf k).run P w = .ok n w := by simp [sizeOf, typeInfo, hik, hsk, go_sem]
    have p3 : ∀ (z : UInt8) (q : List UInt8), q.length = n → (part k (vals (z :: q)).toArray 1).run P w = .ok (.agg (vals q).toArray) w := by
      intro z q hq
      unfold part
      rw [Sem.run_bind, agg]
      simp only [Result.andThen_ok, if_true, Sem.run_bind, szk, Sem.run_pure]
      congr 2
      apply Array.ext'
      rw [Array.toList_extract]
      simp [vals, List.extract_eq_take_drop]
      exact List.take_of_length_le (by simp [hq])
    have q1 := run_equalIn_int (P := P) w (d + 1) e .u8 .u8 (u x) (u y) he
    have q2 := run_equalIn_bytes hk he hi hs l m hl' hm' d w
    simp only [Op.eqFields, a0, a1, a2, b0, b1, b2, ne_eq, not_false_eq_true, if_true, Sem.run_bind, p1, p2, Result.andThen_ok, List.getElem_cons_zero]
    rw [q1]
    simp only [Result.andThen_ok]
    by_cases hx : x = y
    · subst hx
      rw [show (u x == u x) = true from by simp]
      simp only [Bool.not_true, Bool.false_eq_true, if_false, Sem.run_bind, Sem.run_ite, p3 x l hl', p3 x m hm', q2, Result.andThen_ok]
      by_cases hlm : l = m <;> simp [hlm]
    · have e1 : (u x == u y) = false := beq_eq_false_iff_ne.2 (fun e => hx (u_inj e))
      rw [e1]
      simp [hx]
end

/-! ## The program's own -/
theorem key_size : (Try.prog.info? 23).map (·.size) = some 32 := by kernel_rfl
theorem u8_size : (Try.prog.info? 5).map (·.size) = some 1 := by kernel_rfl
theorem share_size : (Try.prog.info? 34).map (·.size) = some 33 := by kernel_rfl
theorem share_info : (Try.prog.info? 34).map (fun i => (i.zero, i.size, i.bytes)) = some (some (.agg (vals (List.replicate 33 0)).toArray), 33, 33) := by kernel_rfl
theorem info_of {P : Program} {e : TypeId} {n : Nat} (h : (P.info? e).map (·.size) = some n) : ∃ i, P.info? e = some i ∧ i.size = n := by
  cases hi : P.info? e with
  | none => rw [hi] at h; cases h
  | some i => rw [hi] at h; exact ⟨i, rfl, by simpa using h⟩

/-- s[i] of a key by value -/
theorem key_index (s : List UInt8) (hs : s.length = 32) (i : Nat) (h : i < s.length) (w : World) :
    (Instr.index 23 (.agg (vals s).toArray) (.int .i64 (i : Int))).run Try.prog w = .ok (.int .u8 (u s[i])) w := by
  obtain ⟨i0, hi, hz⟩ := info_of u8_size
  exact run_index_bytes Try.underlying23 Try.underlying5 hi hz s i hs h w
theorem key_eql (l m : List UInt8) (hl : l.length = 32) (hm : m.length = 32) (w : World) :
    (binOp .eql 23 (.agg (vals l).toArray) (.agg (vals m).toArray)).run Try.prog w = .ok (.bool (decide (l = m))) w := by
  obtain ⟨i0, hi, hz⟩ := info_of u8_size
  exact run_eql_bytes Try.underlying23 Try.underlying5 hi hz l m hl hm w
theorem key_neq (l m : List UInt8) (hl : l.length = 32) (hm : m.length = 32) (w : World) :
    (binOp .neq 23 (.agg (vals l).toArray) (.agg (vals m).toArray)).run Try.prog w = .ok (.bool (!decide (l = m))) w := by
  obtain ⟨i0, hi, hz⟩ := info_of u8_size
  exact run_neq_bytes Try.underlying23 Try.underlying5 hi hz l m hl hm w
theorem share_equalIn (l m : List UInt8) (hl : l.length = 33) (hm : m.length = 33) (w : World) :
    (Op.equalIn 10000 34 (.agg (vals l).toArray) (.agg (vals m).toArray)).run Try.prog w = .ok (decide (l = m)) w := by
  obtain ⟨i0, hi, hz⟩ := info_of u8_size
  obtain ⟨i1, hk, hzk⟩ := info_of key_size
  exact run_equalIn_share (f0 := (Try.prog.fieldsOf 34)[0]!) (f1 := (Try.prog.fieldsOf 34)[1]!) (by kernel_rfl) (by kernel_rfl) (by kernel_rfl) ⟨by kernel_rfl, by kernel_rfl, by decide +kernel⟩ ⟨by kernel_rfl, by kernel_rfl, by decide +kernel⟩
    Try.underlying23 Try.underlying5 hi hz hk hzk l m hl hm 9997 w
theorem share_eql (l m : List UInt8) (hl : l.length = 33) (hm : m.length = 33) (w : World) :
    (binOp .eql 34 (.agg (vals l).toArray) (.agg (vals m).toArray)).run Try.prog w = .ok (.bool (decide (l = m))) w := by
  rw [run_eql_struct, share_equalIn l m hl hm w]
  rfl
theorem share_neq (l m : List UInt8) (hl : l.length = 33) (hm : m.length = 33) (w : World) :
    (binOp .neq 34 (.agg (vals l).toArray) (.agg (vals m).toArray)).run Try.prog w = .ok (.bool (!decide (l = m))) w := by
  rw [run_neq_struct, share_equalIn l m hl hm w]
  rfl

/-- make([]Share, n): so many bytes of noughts -/
theorem made_zeros (k n : Nat) (hk : 0 < k) : madeCells (vals (List.replicate k 0)).toArray (n * k) = (vals (List.replicate (n * k) 0)).toArray := by
  apply Array.ext
  · simp [madeCells, vals]
  · intro i h1 h2
    simp [madeCells, vals, Nat.mod_lt i hk]
theorem share_make (n : Nat) (hn : n ≤ 255) (w : World) : (Instr.makeSlice 25 (.int .i64 (n : Int)) (.int .i64 (n : Int))).run Try.prog w =
    .ok (.slice (some ⟨w.heap.size, 0, none⟩) n n) (w.alloc (.cells (vals (List.replicate (n * 33) 0)).toArray 34)) := by
  obtain ⟨i0, hi, hz0, hz1, hz2⟩ := info_parts share_info
  have h := run_make (P := Try.prog) w 25 34 i0 _ Try.underlying25 hi hz0 .i64 .i64 (n : Int) (n : Int) (by omega) (by omega) (by rw [hz2]; omega) (by omega)
  rw [Int.toNat_natCast, hz1] at h
  rw [h]
  congr 2
  exact congrArg (fun c => Obj.cells c 34) (made_zeros 33 n (by omega))

end Go.Proofs.Ytffmnldhklejcaa
