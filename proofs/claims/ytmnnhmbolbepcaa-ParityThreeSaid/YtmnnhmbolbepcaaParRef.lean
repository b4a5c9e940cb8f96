/- The walks of the reference's at, Cut, Same. -/
import Derived.Test.YtmnnhmbolbepcaaParFix
namespace Go.Proofs.Ytmnnhmbolbepcaa
open Go.RowKit
set_option linter.unusedSimpArgs false

theorem str_index (s : ByteArray) (j : Int) (i : Nat) (hj : j = i) (h : i < s.size) (w : World) :
    (Instr.index 9 (.string s) (.int .i64 j)).run Try.prog w = .ok (.int .u8 (u ((bs s).getD i 0))) w := by
  subst hj
  rw [run_index_string w 9 s .i64 (i : Int) Try.underlying9, dif_pos ⟨by omega, by simpa using h⟩, bs_get s i h]
  rfl

set_option maxRecDepth 100000 in
set_option maxHeartbeats 1000000 in
theorem RatN_c (S : ByteArray) (X : Int) (i : Nat) (w : World) (hX : X = (i : Int)) : Calls Try.prog 20 #[.string S, .int .i64 X] w fun e w' => e = .returned (.int .u8 (u ((bs S).getD i 0))) ∧ w = w' := by
  subst hX
  by_cases h : i < S.size
  · have h1 : decide ((i : Int) < (S.size : Int)) = true := by simpa using h
    have hi := str_index S (i : Int) i rfl h w
    go_enter Try.func20, Try.ntmps20
    go_wp2
    go_ret
    exact ⟨rfl, rfl⟩
  · have h1 : decide ((i : Int) < (S.size : Int)) = false := by simpa using h
    have h2 : (bs S).getD i 0 = 0 := by rw [List.getD_eq_getElem?_getD, List.getElem?_eq_none (by rw [bs_length]; omega)]; rfl
    have H2 := Lib.hid h2
    clear h2
    go_enter Try.func20, Try.ntmps20
    go_wp2
    go_ret
    exact ⟨by rw [H2.out]; rfl, rfl⟩

theorem rowL_get (s : List UInt8) (n t i : Nat) (h : i < n) : (rowL s n t).getD i 0 = s.getD (t * n + i) 0 := by
  rw [Gf.getD_eq (by rw [rowL_length]; exact h)]
  simp [rowL]
theorem OwnP.lit0 (w : World) (base : Nat) (hb : base ≤ w.heap.size) : OwnP (w.alloc (.cells #[] 30)) base (.slice (some ⟨w.heap.size, 0, none⟩) 0 0) [] := by
  have h := World.ownsRow_lit (base := base) (e := 30) (size := 2) w #[] 0 hb (by decide) (by simp)
  unfold OwnP
  simpa [pcells] using h
theorem atL_succ (xs : List UInt8) (L : Nat → List UInt8) (x : UInt8) (k : Nat) : atL xs L x (k + 1) = atL xs L x k ++ [atV xs L x k] := by simp [atL, List.range_succ]

theorem str_nil (w : World) : (convert 28 9 (.slice none 0 0)).run Try.prog w = .ok (.string ⟨([] : List UInt8).toArray⟩) w := by
  rw [← nums_of []]
  simp [go_sem]
  rfl
theorem OwnB.str {w : World} {base : Nat} {v : Value} {l : List UInt8} (h : OwnB w base v l) : (convert 28 9 v).run Try.prog w = .ok (.string ⟨l.toArray⟩) w := by
  have hown := h
  rcases h.2 with ⟨rfl, hx⟩ | ⟨g, cap, cur, rfl, hb, hh, hle, hcap, _⟩
  · have hl : l = [] := List.eq_nil_of_length_eq_zero hx
    subst hl
    exact str_nil w
  · refine str_of_bytes g 0 l.length cap l w rfl (fun i h => ?_)
    have := World.ownsRow.cells hown rfl i _ (by rw [List.getElem?_eq_getElem (by rw [vals_length]; exact h), vals_get l i h])
    rw [add_zero_block] at this
    rw [Nat.zero_add]
    exact this

set_option maxRecDepth 100000 in
set_option maxHeartbeats 4000000 in
theorem RCut_c (S : ByteArray) (w : World) (hS : S.size ≤ 100000) :
    Calls Try.prog 12 #[.string S] w fun e w' => (∃ A c, e = .returned (.slice A 5 c) ∧ 5 ≤ c ∧ c ≤ maxLen ∧ Pts w' A (cutP (bs S) 5)) ∧ Below w.heap.size w w' := by
  obtain ⟨n, hn⟩ : ∃ n, n = rowsN S.size := ⟨_, rfl⟩
  have hn3 : S.size ≤ 3 * n ∧ n ≤ 50000 := by rw [hn]; unfold rowsN; omega
  have HR : Hid (rowsZ (S.size : Int) = (n : Int)) := by rw [Hid, hn]; exact rowsZ_nat _
  have HN3 := Lib.hid hn3
  have HNB : Hid (n = rowsN (bs S).length) := by rw [Hid, bs_length]; exact hn
  clear hn hn3
  have HW0 : Hid (w.heap.size ≤ w.heap.size) := Nat.le_refl _
  go_enter Try.func12, Try.ntmps12
  go_wp2_with (go_at_call 14; refine (RRows_c _ (by have := HN3.out; omega) _).mono ?_; rintro e w' ⟨rfl, rfl⟩; try rw [HR.out])
  have H0 : Hid (OwnP (w.alloc (.cells #[] 30)) w.heap.size (.slice (some ⟨w.heap.size, 0, none⟩) 0 0) [] ∧ Below w.heap.size w (w.alloc (.cells #[] 30))) := ⟨OwnP.lit0 w _ (Nat.le_refl _), (Below.refl _ _).alloc (Nat.le_refl _) _⟩
  have n0 : (0 : Int) ≤ (n : Int) := by omega
  have n1 : (n : Int) ≤ 50000 := by have := HN3.out; omega
  go_loopw [4, 5] (fun vv vx W => ∃ (k : Nat) (X : Int), k ≤ 5 ∧ vx = .int .i64 X ∧ Hid (X = (k : Int) + 1) ∧ Hid (OwnP W w.heap.size vv (cutP (bs S) k)) ∧ Hid (Below w.heap.size w W)) (fun _ vx _ => 6 - (intOf vx).toNat)
  case atStart => exact ⟨0, 1, Nat.zero_le _, rfl, rfl, H0.out.1, H0.out.2⟩
  case round =>
    clear H0
    obtain ⟨k, X, hk, rfl, HX, HO, HW⟩ := hrel
    by_cases h0 : k < 5
    · have hx1 : decide (X ≤ 5) = true := by have := HX.out; simp; omega
      have e1 : wrap64 (X + 1) = ((k + 1 : Nat) : Int) + 1 := by rw [HX.out]; unfold wrap64; omega
      have ex : IntKind.u8.wrap X = u (UInt8.ofNat (k + 1)) := by rw [HX.out, IntKind.wrap_u8]; unfold u; rw [UInt8.toNat_ofNat']; omega
      have HCS : Hid (cutP (bs S) (k + 1) = cutP (bs S) k ++ [(X, ⟨(atL [1, 2, 3] (rowL (bs S) n) (UInt8.ofNat (k + 1)) n).toArray⟩)]) := by
        rw [Hid, cutP_succ, partL, ← HNB.out, HX.out]; rfl
      generalize UInt8.ofNat (k + 1) = xk at *
      go_wp2_with fail
      obtain ⟨W2, hW2⟩ : ∃ W2, W2 = wr := ⟨_, rfl⟩
      subst hW2
      go_loopw [6, 7] (fun vb vi W => ∃ (i : Nat), i ≤ n ∧ vi = .int .i64 i ∧ Hid (OwnB W W2.heap.size vb (atL [1, 2, 3] (rowL (bs S) n) xk i)) ∧ Hid (Below W2.heap.size W2 W)) (fun _ vi _ => n - (intOf vi).toNat)
      case atStart => exact ⟨0, Nat.zero_le _, rfl, by have h := OwnB.lit W2 W2.heap.size [] (Nat.le_refl _) (by simp); exact h, (Below.refl _ _).alloc (Nat.le_refl _) _⟩
      case round =>
        obtain ⟨i, hi, rfl, HB, HW2⟩ := hrel
        by_cases hlt : i < n
        · have i0 : (0 : Int) ≤ (i : Int) := by omega
          have i1 : (i : Int) < (n : Int) := by omega
          have x1 : IntKind.i64.wrap ((n : Int) + (i : Int)) = (n : Int) + (i : Int) := IntWalk.i64_in _ (by omega)
          have x2 : IntKind.i64.wrap (2 * (n : Int)) = 2 * (n : Int) := IntWalk.i64_in _ (by omega)
          have x3 : IntKind.i64.wrap (2 * (n : Int) + (i : Int)) = 2 * (n : Int) + (i : Int) := IntWalk.i64_in _ (by omega)
          have HZ : Hid (W2.heap.size ≤ wr.heap.size) := HW2.out.size
          have HAV : Hid (atV [1, 2, 3] (rowL (bs S) n) xk i = (Gf.atS [1, 2, 3] [(bs S).getD i 0, (bs S).getD (n + i) 0, (bs S).getD (2 * n + i) 0] xk).1) := by
            rw [Hid, atV, rowL_get _ _ _ _ hlt, rowL_get _ _ _ _ hlt, rowL_get _ _ _ _ hlt, Nat.zero_mul, Nat.zero_add, Nat.one_mul]
          have HC0 : Hid (∀ W : World, Calls Try.prog 20 #[.string S, .int .i64 (i : Int)] W fun e w' => e = .returned (.int .u8 (u ((bs S).getD i 0))) ∧ W = w') := fun W => RatN_c S _ i W rfl
          have HC1 : Hid (∀ W : World, Calls Try.prog 20 #[.string S, .int .i64 ((n : Int) + (i : Int))] W fun e w' => e = .returned (.int .u8 (u ((bs S).getD (n + i) 0))) ∧ W = w') := fun W => RatN_c S _ (n + i) W (by omega)
          have HC2 : Hid (∀ W : World, Calls Try.prog 20 #[.string S, .int .i64 (2 * (n : Int) + (i : Int))] W fun e w' => e = .returned (.int .u8 (u ((bs S).getD (2 * n + i) 0))) ∧ W = w') := fun W => RatN_c S _ (2 * n + i) W (by omega)
          generalize (bs S).getD i 0 = g0 at *
          generalize (bs S).getD (n + i) 0 = g1 at *
          generalize (bs S).getD (2 * n + i) 0 = g2 at *
          generalize hvb : (Gf.atS [1, 2, 3] [g0, g1, g2] xk).1 = vb at *
          have HVB := Lib.hid hvb
          clear hvb
          go_wp2_with (first
            | (go_at_call 20; with_reducible refine (HC0.out _).mono ?_; rintro e w9 ⟨rfl, rfl⟩)
            | (go_at_call 20; with_reducible refine (HC1.out _).mono ?_; rintro e w9 ⟨rfl, rfl⟩)
            | (go_at_call 20; with_reducible refine (HC2.out _).mono ?_; rintro e w9 ⟨rfl, rfl⟩)
            | (go_at_call 19; refine (RAt_c _ _ _ _ _ _ _ [1, 2, 3] [g0, g1, g2] xk _ (by rfl) (by rfl) (by simp) (by rfl) (bytes_of_block (t := 5) (fr := (0, 0)) [1, 2, 3] (heap_alloc2_old _ _ _)) (bytes_of_block (t := 5) (fr := (0, 0)) [g0, g1, g2] (heap_alloc2_new _ _ _))).mono ?_; rintro e w9 ⟨rfl, ⟨nd, rfl⟩⟩; rw [HVB.out]; have HBD := Lib.hid (below_drewN (((Below.refl wr.heap.size wr).alloc (Nat.le_refl _) (.cells (vals [1, 2, 3]).toArray 5)).alloc (by simp) (.cells (vals [g0, g1, g2]).toArray 5)) nd))
            | (refine wpList_append_bytes _ (by rfl) (.tmp 46) (.tmp 48) (by rfl) W2.heap.size _ _ (by rfl) ((((HB.out.alloc _).alloc _).drewN nd).alloc _) _ 1 1 [vb] (by rfl) (bytes_of_block (t := 5) (fr := (0, 0)) [vb] (heap_at _ _ (wr.heap.size + 1 + 1) (by rw [show ∀ W : World, (W.drewN nd).heap.size = W.heap.size from fun _ => rfl]; simp))) (by rfl) (by rw [atL_length]; have := HN3.out; omega) (by rw [World.size_alloc]; exact Nat.le_succ_of_le (Nat.le_trans HZ.out HBD.out.size)) ?_; intro v' w' hown' hg' hat'))
          have hbl : Below W2.heap.size W2 w' := HW2.out.trans ((((HBD.out.mono HZ.out)).alloc (Nat.le_trans HZ.out HBD.out.size) _).trans (below_grown ((((HB.out.alloc _).alloc _).drewN nd).alloc _) hg' (by rw [World.size_alloc]; exact Nat.le_succ_of_le (Nat.le_trans HZ.out HBD.out.size))))
          exact ⟨⟨i + 1, by omega, by go_num, by rw [Hid, atL_succ, HAV.out]; exact hown', hbl⟩, by simp [intOf]; omega⟩
        · obtain rfl : i = n := by omega
          have hcv := HB.out.str
          have HO2 := Lib.hid (HO.out.below HW2.out)
          have HZ : Hid (w.heap.size ≤ wr.heap.size) := Nat.le_trans HW.out.size HW2.out.size
          go_wp2_with (refine wpList_append_part _ (by rfl) (.tmp 50) (.tmp 55) (by rfl) w.heap.size _ (cutP (bs S) k) (by rfl) (HO2.out.alloc _) _ 1 1 [(X, ⟨(atL [1, 2, 3] (rowL (bs S) i) xk i).toArray⟩)] (by rfl) (by rfl) (src_of_block (heap_at _ _ _ rfl)) (by rw [cutP_length]; simp; omega) (by rw [World.size_alloc]; exact Nat.le_succ_of_le HZ.out) ?_; intro v' w' hown' hg' hat')
          have hbw : Below w.heap.size w w' := (HW.out.trans (HW2.out.mono HW.out.size)).trans (((Below.refl _ _).alloc HZ.out _).trans (below_grown (HO2.out.alloc _) hg' (by rw [World.size_alloc]; exact Nat.le_succ_of_le HZ.out)))
          have HBW2 := Lib.hid hbw
          have HO8 : Hid (OwnP w' w.heap.size v' (cutP (bs S) (k + 1))) := by rw [Hid, HCS.out]; exact hown'
          clear hbw hown' hg' hat' hcv
          rw [e1]
          go_roundw
          case rel => exact ⟨k + 1, _, by omega, rfl, rfl, HO8, HBW2⟩
          case measure => rw [HX.out]; simp [intOf]; omega
    · have hx1 : decide (X ≤ 5) = false := by have := HX.out; simp; omega
      obtain rfl : k = 5 := by omega
      go_wp2
      go_ret
      obtain ⟨A, c, e, h1, h2, h3⟩ := HO.out.form
      rw [cutP_length] at e h1
      exact ⟨⟨A, c, congrArg _ e, h1, h2, h3⟩, HW.out⟩

end Go.Proofs.Ytmnnhmbolbepcaa
