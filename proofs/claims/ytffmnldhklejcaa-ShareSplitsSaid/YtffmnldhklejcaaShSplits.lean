/- The walk of ShareSplits. -/
import Derived.Test.YtffmnldhklejcaaShRSplit
import Derived.Test.YtffmnldhklejcaaShOpen
namespace Go.Proofs.Ytffmnldhklejcaa
open Go.RowKit

set_option maxRecDepth 100000 in
set_option maxHeartbeats 1000000 in
theorem RSplit_err (s : List UInt8) (n : Int) (no : ByteArray) (w : World) (h : n < 3 ∨ 255 < n ∨ no.size ≠ 64) :
    Calls Try.prog 13 #[.agg (vals s).toArray, .int .i64 n, .string no] w fun e w' => e = .returned (.tuple #[.slice none 0 0, .int .i64 1]) ∧ Below w.heap.size w w' := by
  by_cases h1 : n < 3
  · have g1 : decide (n < 3) = true := by simpa using h1
    clear h
    go_enter Try.func13, Try.ntmps13
    go_wp2_with fail
    go_ret2
    exact ⟨rfl, (Below.refl _ _).alloc (Nat.le_refl _) _⟩
  · have g1 : decide (n < 3) = false := by simpa using h1
    by_cases h2 : 255 < n
    · have g2 : decide ((255 : Int) < n) = true := by simpa using h2
      clear h h1
      go_enter Try.func13, Try.ntmps13
      go_wp2_with fail
      go_ret2
      exact ⟨rfl, (Below.refl _ _).alloc (Nat.le_refl _) _⟩
    · have g2 : decide ((255 : Int) < n) = false := by simpa using h2
      have g3 : ((no.size : Int) != 64) = true := by rw [bne_iff_ne]; omega
      clear h h1 h2
      go_enter Try.func13, Try.ntmps13
      go_wp2_with fail
      go_ret2
      exact ⟨rfl, (Below.refl _ _).alloc (Nat.le_refl _) _⟩

theorem RSplit_g (K : Value) (N : Int) (S : ByteArray) (s no : List UInt8) (n : Nat) (w : World) (hK : K = .agg (vals s).toArray) (hN : N = n) (hS : bs S = no) (hs : s.length = 32) (h3 : 3 ≤ n) (h255 : n ≤ 255) (hno : no.length = 64) :
    Calls Try.prog 13 #[K, .int .i64 N, .string S] w fun e w' => ∃ A c, e = .returned (.tuple #[.slice A n c, .int .i64 0]) ∧ Shs w' A (rows s no n) ∧ Below w.heap.size w w' := by
  subst hK hN hS
  refine (RSplit_c s n S w hs h3 h255 (by rw [← bs_length]; exact hno)).mono ?_
  rintro e w' ⟨v, rfl, ho, hb⟩
  obtain ⟨A, c, rfl, _, _, hsh⟩ := ho.form (rows_all s (bs S) n)
  exact ⟨A, c, by rw [rows_length], hsh, hb⟩

set_option maxRecDepth 100000 in
set_option maxHeartbeats 1000000 in
theorem ShareSplits_w (s : List UInt8) (n : Int) (no : ByteArray) (w : World) (hs : s.length = 32) :
    Calls Try.prog 3 #[.agg (vals s).toArray, .int .i64 n, .string no] w fun e w' => e = .returned (.bool true) ∧ Below w.heap.size w w' := by
  have HS := Lib.hid hs
  clear hs
  by_cases hbig : 200 < no.size
  · have g1 : decide ((200 : Int) < (no.size : Int)) = true := by simp; omega
    clear hbig
    go_enter Try.func3, Try.ntmps3
    go_wp2_with fail
    refine (SAlive_c _).mono ?_
    rintro e w1 ⟨rfl, hb1⟩
    have HB := Lib.hid (((Below.refl _ w).alloc (Nat.le_refl _) (.cells (vals s).toArray 23)).trans (hb1.mono (by simp)))
    clear hb1
    go_wp2_with fail
    go_ret
    exact ⟨rfl, HB.out⟩
  · have g1 : decide ((200 : Int) < (no.size : Int)) = false := by simp; omega
    clear hbig
    go_enter Try.func3, Try.ntmps3
    go_wp2_with fail
    refine (SAlive_c _).mono ?_
    rintro e w1 ⟨rfl, hb1⟩
    have box1 : w1.heap[w.heap.size]? = some (.cells (vals s).toArray 23 (0, 0)) := (hb1.block _ (by simp)).trans (heap_at _ _ _ rfl)
    have HB := Lib.hid (((Below.refl _ w).alloc (Nat.le_refl _) (.cells (vals s).toArray 23)).trans (hb1.mono (by simp)))
    have BOX1 := Lib.hid box1
    clear hb1 box1
    by_cases hok : 3 ≤ n ∧ n ≤ 255 ∧ no.size = 64
    · obtain ⟨h3, h255, hno⟩ := hok
      obtain ⟨m, rfl⟩ : ∃ m : Nat, n = m := ⟨n.toNat, by omega⟩
      have HN := Lib.hid hno
      have H3 : Hid (3 ≤ m ∧ m ≤ 255) := by constructor <;> omega
      clear hno h3 h255
      go_wp2_with (refine wpList_load_row (by rfl) 23 (.tmp 3) (by rfl) w.heap.size (by rfl) 23 (vals s).toArray (0, 0) _ BOX1.out Try.underlying23 (by rfl) (by rw [List.size_toArray, vals_length, HS.out]; exact key_size) ?_)
      refine (Split_g _ _ _ s (bs no) m _ (by rfl) (by rfl) rfl HS.out H3.out.1 H3.out.2 (by rw [bs_length]; exact HN.out)).mono ?_
      rintro e w2 ⟨rfl, hf, hb2⟩
      have BOX2 : Hid (w2.heap[w.heap.size]? = some (.cells (vals s).toArray 23 (0, 0))) := (hb2.block _ (lt_of_block BOX1.out)).trans BOX1.out
      have HB2 := Lib.hid (HB.out.trans (hb2.mono HB.out.size))
      have HF := Lib.hid hf
      clear hb2 hf BOX1 HB
      go_wp2_with (refine wpList_load_row (by rfl) 23 (.tmp 3) (by rfl) w.heap.size (by rfl) 23 (vals s).toArray (0, 0) _ BOX2.out Try.underlying23 (by rfl) (by rw [List.size_toArray, vals_length, HS.out]; exact key_size) ?_)
      refine (RSplit_g _ _ _ s (bs no) m _ (by rfl) (by rfl) rfl HS.out H3.out.1 H3.out.2 (by rw [bs_length]; exact HN.out)).mono ?_
      rintro e w3 ⟨A, c, rfl, hsh, hb3⟩
      have HB3 := Lib.hid (HB2.out.trans (hb3.mono HB2.out.size))
      have HF3 := Lib.hid (HF.out.keepb hb3)
      have HSH := Lib.hid hsh
      clear hb3 hsh HF HB2 BOX2
      go_wp2_with fail
      refine (Same_c _ _ _ _ _ _ (rows s (bs no) m) (rows s (bs no) m) _ (by rw [rows_length]) (by rw [rows_length]) HF3.out.shs HSH.out (by have := H3.out; rw [rows_length]; omega)).mono ?_
      rintro e w4 ⟨rfl, ⟨nd, rfl⟩⟩
      go_wp2_with fail
      go_ret
      exact ⟨ret_bool (by simp), below_drewN HB3.out _⟩
    · have hbad : Hid (n < 3 ∨ 255 < n ∨ no.size ≠ 64) := by
        by_cases a1 : n < 3
        · exact .inl a1
        · by_cases a2 : 255 < n
          · exact .inr (.inl a2)
          · exact .inr (.inr fun a3 => hok ⟨by omega, by omega, a3⟩)
      clear hok
      go_wp2_with (refine wpList_load_row (by rfl) 23 (.tmp 3) (by rfl) w.heap.size (by rfl) 23 (vals s).toArray (0, 0) _ BOX1.out Try.underlying23 (by rfl) (by rw [List.size_toArray, vals_length, HS.out]; exact key_size) ?_)
      refine (Split_err s n no _ hbad.out).mono ?_
      rintro e w2 ⟨rfl, hb2⟩
      have BOX2 : Hid (w2.heap[w.heap.size]? = some (.cells (vals s).toArray 23 (0, 0))) := (hb2.block _ (lt_of_block BOX1.out)).trans BOX1.out
      have HB2 := Lib.hid (HB.out.trans (hb2.mono HB.out.size))
      clear hb2 BOX1 HB
      go_wp2_with (refine wpList_load_row (by rfl) 23 (.tmp 3) (by rfl) w.heap.size (by rfl) 23 (vals s).toArray (0, 0) _ BOX2.out Try.underlying23 (by rfl) (by rw [List.size_toArray, vals_length, HS.out]; exact key_size) ?_)
      refine (RSplit_err s n no _ hbad.out).mono ?_
      rintro e w3 ⟨rfl, hb3⟩
      have HB3 := Lib.hid (HB2.out.trans (hb3.mono HB2.out.size))
      clear hb3 HB2 BOX2
      go_wp2_with fail
      refine (Same_c _ _ _ _ _ _ [] [] _ rfl rfl (Shs.nil _ _) (Shs.nil _ _) (by simp)).mono ?_
      rintro e w4 ⟨rfl, ⟨nd, rfl⟩⟩
      go_wp2_with fail
      go_ret
      exact ⟨ret_bool (by simp), below_drewN HB3.out _⟩

theorem ShareSplits_any (v : Value) (h : IsArr 32 v) (n : Int) (_ : (Lit.int .i64 n).wf = true) (v' : Value) (h' : ∃ s : ByteArray, v' = .string s) (w : World) :
    Calls Try.prog 3 #[v, .int .i64 n, v'] w fun e w' => e = .returned (.bool true) ∧ Below w.heap.size w w' := by
  obtain ⟨s, hs, rfl⟩ := h
  obtain ⟨no, rfl⟩ := h'
  exact ShareSplits_w s n no w hs

end Go.Proofs.Ytffmnldhklejcaa
