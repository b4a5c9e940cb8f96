/- The examples of the laws: fixed. -/
import Derived.Test.YtmnnhmbolbepcaaParCut
namespace Go.Proofs.Ytmnnhmbolbepcaa
open Go.RowKit
set_option linter.unusedSimpArgs false

theorem lag_first (a b c : UInt8) (x : UInt8) (h : x = 1 ∨ x = 2 ∨ x = 3) : (Gf.atS [1, 2, 3] [a, b, c] x).1 = if x = 1 then a else if x = 2 then b else c := by
  have hn : [(1 : UInt8), 2, 3].Nodup := by decide
  have e := Gf.atS_yes (xs := [1, 2, 3]) (ys := [a, b, c]) x rfl hn
  rw [e]
  rcases h with rfl | rfl | rfl
  · exact Gf.lag_at (xs := [1, 2, 3]) (ys := [a, b, c]) hn rfl 0 (by simp) (by simp)
  · exact Gf.lag_at (xs := [1, 2, 3]) (ys := [a, b, c]) hn rfl 1 (by simp) (by simp)
  · exact Gf.lag_at (xs := [1, 2, 3]) (ys := [a, b, c]) hn rfl 2 (by simp) (by simp)
theorem part_length (s : List UInt8) (x : UInt8) : (partL s x).length = rowsN s.length := atL_length _ _ _ _
theorem abc1 : partL [97, 98, 99] 1 = [97] := by
  have := lag_first 97 98 99 1 (by simp)
  simp [partL, atL, atV, rowL, rowsN, this]
theorem abc3 : partL [97, 98, 99] 3 = [99] := by
  have := lag_first 97 98 99 3 (by simp)
  simp [partL, atL, atV, rowL, rowsN, this]

theorem toList_iff (S T : ByteArray) : S.toList = T.toList ↔ S = T := by
  rw [ByteArray.toList_eq, ByteArray.toList_eq]
  exact ⟨fun h => ByteArray.ext (Array.toList_inj.mp h), fun h => by rw [h]⟩
theorem part_eql (i j : Int) (S T : ByteArray) (w : World) : (binOp .eql 30 (.agg #[.int .i64 i, .string S]) (.agg #[.int .i64 j, .string T])).run Try.prog w = .ok (.bool (decide (i = j ∧ S = T))) w := by
  rw [run_eql_struct]
  simp [go_sem, toList_iff]
  by_cases h1 : i = j <;> by_cases h2 : S = T <;> simp [h1, h2]
theorem part_neq (i j : Int) (S T : ByteArray) (w : World) : (binOp .neq 30 (.agg #[.int .i64 i, .string S]) (.agg #[.int .i64 j, .string T])).run Try.prog w = .ok (.bool (!decide (i = j ∧ S = T))) w := by
  rw [run_neq_struct]
  simp [go_sem, toList_iff]
  by_cases h1 : i = j <;> by_cases h2 : S = T <;> simp [h1, h2]

/-- the load of a part, unopened -/
noncomputable def partLoad (x : Value) : Sem Value := Instr.loadAt 30 x
theorem partLoad_pre (x : Value) : Instr.loadAt 30 x = partLoad x := rfl
theorem part_size : (Try.prog.info? 30).map (·.size) = some 2 := by kernel_rfl
theorem partLoad_at {W : World} {b o : Nat} {p : Pt} (h1 : W.cell? ⟨b, o, none⟩ = some (.int .i64 p.1)) (h2 : W.cell? ⟨b, o + 1, none⟩ = some (.string p.2)) : (partLoad (.pointer (some ⟨b, o, none⟩))).run Try.prog W = .ok (.agg #[.int .i64 p.1, .string p.2]) W :=
  run_loadAt_mid W b o _ (pc p) _ (fun j v hv => by
    match j, hv with
    | 0, hv => cases hv; exact h1
    | 1, hv => cases hv; exact h2) Try.underlying30 (by rfl) part_size

theorem cutP_get (s : List UInt8) (k i : Nat) (h : i < k) : (cutP s k)[i]'(by rw [cutP_length]; exact h) = (((i + 1 : Nat) : Int), ⟨(partL s (UInt8.ofNat (i + 1))).toArray⟩) := by simp [cutP]

attribute [local go_sem ↓] partLoad_pre

set_option maxRecDepth 100000 in
set_option maxHeartbeats 1000000 in
theorem Fixed_c (w : World) : Calls Try.prog 9 #[] w fun e w' => e = .returned (.bool true) ∧ Below w.heap.size w w' := by
  go_enter Try.func9, Try.ntmps9
  go_wp2_with fail
  refine (PCut_c _ _ (by decide)).mono ?_
  rintro e w1 ⟨⟨A, c, rfl, h1, h2, hp⟩, hb⟩
  have HB := Lib.hid hb
  obtain ⟨b, o, rfl, hc⟩ := hp (by intro e; have := congrArg List.length e; rw [cutP_length] at this; simp at this)
  have c0 := hc 0 (by rw [cutP_length]; omega)
  have c2 := hc 2 (by rw [cutP_length]; omega)
  have c4 := hc 4 (by rw [cutP_length]; omega)
  rw [cutP_get _ 5 0 (by omega)] at c0
  rw [cutP_get _ 5 2 (by omega)] at c2
  rw [cutP_get _ 5 4 (by omega)] at c4
  have e0 : partL (bs ⟨#[97, 98, 99]⟩) (UInt8.ofNat (0 + 1)) = [97] := abc1
  have e2 : partL (bs ⟨#[97, 98, 99]⟩) (UInt8.ofNat (2 + 1)) = [99] := abc3
  have e4 : (⟨(partL (bs ⟨#[97, 98, 99]⟩) (UInt8.ofNat (4 + 1))).toArray⟩ : ByteArray).size = 1 := by
    show (partL (bs ⟨#[97, 98, 99]⟩) (UInt8.ofNat (4 + 1))).toArray.size = 1
    rw [List.size_toArray, part_length]; rfl
  rw [e0] at c0
  rw [e2] at c2
  generalize (⟨(partL (bs ⟨#[97, 98, 99]⟩) (UInt8.ofNat (4 + 1))).toArray⟩ : ByteArray) = S4 at *
  have p0 := partLoad_at (p := (1, ⟨#[97]⟩)) c0.1 c0.2
  have p2 := partLoad_at (p := (3, ⟨#[99]⟩)) c2.1 c2.2
  have p4 := c4.2
  have q0 := fun W : World => part_eql 1 1 ⟨#[97]⟩ ⟨#[97]⟩ W
  have q2 := fun W : World => part_eql 3 3 ⟨#[99]⟩ ⟨#[99]⟩ W
  simp only [Nat.zero_mul, Nat.add_zero, Nat.reduceMul, Nat.add_assoc, Nat.reduceAdd, and_self, decide_true] at p0 p2 p4 q0 q2
  clear hc c0 c2 c4 e0 e2 hb hp h1 h2
  go_wp2_with fail
  refine (PCut_c _ _ (by decide)).mono ?_
  rintro e w2 ⟨⟨A, c2, rfl, h1, h2, hp⟩, hb⟩
  have HB2 : Hid (Below w.heap.size w w2) := HB.out.trans (hb.mono HB.out.size)
  clear hb hp h1 h2
  go_wp2_with fail
  go_ret
  exact ⟨ret_bool (by simp), HB2.out⟩

end Go.Proofs.Ytmnnhmbolbepcaa
