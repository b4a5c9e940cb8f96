/- The walk of parity.Cut. -/
import Derived.Test.YtmnnhmbolbepcaaParPart
namespace Go.Proofs.Ytmnnhmbolbepcaa
open Go.RowKit
set_option linter.unusedSimpArgs false

/-- a row of a text: its bytes, noughts behind it -/
def rowL (s : List UInt8) (n t : Nat) : List UInt8 := (List.range n).map fun i => s.getD (t * n + i) 0
theorem rowL_length (s : List UInt8) (n t : Nat) : (rowL s n t).length = n := by simp [rowL]
/-- a text's part at a place -/
noncomputable def partL (s : List UInt8) (x : UInt8) : List UInt8 := atL [1, 2, 3] (rowL s (rowsN s.length)) x (rowsN s.length)
/-- a text's parts, as many as have come -/
noncomputable def cutP (s : List UInt8) (k : Nat) : List Pt := (List.range k).map fun i => (((i + 1 : Nat) : Int), ⟨(partL s (UInt8.ofNat (i + 1))).toArray⟩)
theorem cutP_length (s : List UInt8) (k : Nat) : (cutP s k).length = k := by simp [cutP]
theorem cutP_succ (s : List UInt8) (k : Nat) : cutP s (k + 1) = cutP s k ++ [(((k + 1 : Nat) : Int), ⟨(partL s (UInt8.ofNat (k + 1))).toArray⟩)] := by simp [cutP, List.range_succ]

/-- rows that lie below a bound -/
structure RI (B : Nat) (W : World) (rb ro n : Nat) (A : Nat → Option Addr) (c : Nat → Nat) (L : Nat → List UInt8) : Prop where
  lt : rb < B
  row : ∀ t, t < 3 → W.cell? ⟨rb, ro + t, none⟩ = some (.slice (A t) n (c t))
  len : ∀ t, t < 3 → (L t).length = n
  rows : ∀ t, t < 3 → BytesN (· < B) W (A t) (L t)
theorem RI.below {B : Nat} {W W' : World} {rb ro n : Nat} {A : Nat → Option Addr} {c : Nat → Nat} {L : Nat → List UInt8} (h : RI B W rb ro n A c L) (hb : Below B W W') : RI B W' rb ro n A c L :=
  ⟨h.lt, fun t ht => (cell_same (hb.block _ h.lt)).trans (h.row t ht), h.len, fun t ht => (h.rows t ht).keep (fun k hk => hb.block k hk)⟩
theorem RI.rows3 {B : Nat} {W : World} {rb ro n : Nat} {A : Nat → Option Addr} {c : Nat → Nat} {L : Nat → List UInt8} (h : RI B W rb ro n A c L) : Rows3 W rb ro n A c L :=
  ⟨h.row, h.len, fun t ht => (h.rows t ht).bytes⟩

theorem below_grown {base e size n : Nat} {w w' : World} {v : Value} {xs : List Value} (h : w.ownsRow base e size v n xs) (hg : w.grownBy w' v.ownBlock) (hb : base ≤ w.heap.size) : Below base w w' :=
  (Below.refl base w).grown hg hb (fun k hk => (World.ownsRow.lt h k hk).1)

theorem if_off (g m k : Nat) (h : m = k → k = 0) : (if m = k then some (⟨g, 0, none⟩ : Addr) else some ⟨g, k, none⟩) = some ⟨g, k, none⟩ := by
  split
  · rename_i e; rw [h e]
  · rfl
/-- a text's row lies in the padded text -/
theorem row_bytes {W : World} {g n t m : Nat} {s : List UInt8} (hm : s.length + m = 3 * n) (h : W.heap[g]? = some (.cells (vals (s ++ zs m)).toArray 5 (0, 0))) (ht : t < 3) {P : Nat → Prop} (hP : P g) : BytesN P W (some ⟨g, t * n, none⟩) (rowL s n t) := fun j hj => by
  rw [rowL_length] at hj
  have hk : t * n + j < 3 * n := by
    have h2 : (t + 1) * n ≤ 3 * n := Nat.mul_le_mul_right _ ht
    rw [Nat.add_mul] at h2
    omega
  refine ⟨_, rfl, hP, ?_⟩
  rw [Addr.add_mid, cell_byteD h (t * n + j) (by rw [List.length_append, zs_length]; omega)]
  congr 2
  simp only [rowL, List.getElem_map, List.getElem_range, List.getD_eq_getElem?_getD]
  congr 1
  by_cases h2 : t * n + j < s.length
  · rw [List.getElem?_append_left h2]
  · rw [List.getElem?_append_right (by omega), List.getElem?_eq_none (by omega : s.length ≤ t * n + j)]
    simp only [zs, List.getElem?_replicate]
    split <;> rfl

theorem src_of_block {W : World} {g : Nat} {t : TypeId} {fr : Nat × Nat} {cs : List Value} (h : W.heap[g]? = some (.cells cs.toArray t fr)) : Src W (some ⟨g, 0, none⟩) cs := fun j hj =>
  ⟨_, rfl, by rw [add_zero_block, cell_of_row _ _ _ _ _ _ h, List.getElem?_toArray, List.getElem?_eq_getElem hj]⟩

/-- a text copied to the head of a new row of noughts -/
theorem copy_text (S : ByteArray) (N : Nat) (w : World) (h : S.size ≤ N) : ∃ W1, (Builtin.copy_ #[28, 9] 3 #[.slice (some ⟨w.heap.size, 0, none⟩) N N, .string S]).run Try.prog (w.alloc (.cells (vals (zs N)).toArray 5)) = .ok (goInt S.size) W1 ∧
    W1.heap[w.heap.size]? = some (.cells (vals (bs S ++ zs (N - S.size))).toArray 5 (0, 0)) ∧ Below w.heap.size w W1 ∧ W1.heap.size = w.heap.size + 1 := by
  have hz : (vals (zs N)).toArray.size = N := by simp [vals_length, zs_length]
  refine ⟨_, Lib.run_copy_row_string (P := Try.prog) (w.alloc (.cells (vals (zs N)).toArray 5)) 28 9 3 5 w.heap.size 0 N N S _ _ Try.underlying28 ?_ (heap_at _ _ _ rfl) h (by rw [hz]; omega), ?_, ?_, ?_⟩
  · obtain ⟨i0, hi, hz0, hz1, hz2⟩ := info_parts u8_info
    rw [hi]; simp [hz1]
  · have e : (List.take 0 (vals (zs N)).toArray.toList ++ Lib.byteCells S.data.toList ++ List.drop (0 + S.size) (vals (zs N)).toArray.toList) = vals (bs S ++ zs (N - S.size)) := by
      rw [vals_append]
      simp [vals, zs, bs, Lib.byteCells, u]
    rw [e]
    exact setRow_heap _ _ _ _ _ _ (heap_at _ _ _ rfl)
  · exact ((Below.refl _ w).alloc (Nat.le_refl _) _).trans ⟨rfl, rfl, rfl, by simp, fun k hk => setRow_other _ _ k _ (by omega)⟩
  · simp

set_option maxRecDepth 100000 in
set_option maxHeartbeats 2000000 in
theorem PCut_c (S : ByteArray) (w : World) (hS : S.size ≤ 100000) :
    Calls Try.prog 11 #[.string S] w fun e w' => (∃ A c, e = .returned (.slice A 5 c) ∧ 5 ≤ c ∧ c ≤ maxLen ∧ Pts w' A (cutP (bs S) 5)) ∧ Below w.heap.size w w' := by
  obtain ⟨n, hn⟩ : ∃ n, n = rowsN S.size := ⟨_, rfl⟩
  have hn3 : S.size ≤ 3 * n ∧ n ≤ 50000 := by rw [hn]; unfold rowsN; omega
  have HR : Hid (rowsZ (S.size : Int) = (n : Int)) := by rw [Hid, hn]; exact rowsZ_nat _
  have HN3 := Lib.hid hn3
  have HNE := Lib.hid hn
  have hmk : ∀ W : World, (Instr.makeSlice 28 (.int .i64 (3 * (n : Int))) (.int .i64 (3 * (n : Int)))).run Try.prog W = .ok (.slice (some ⟨W.heap.size, 0, none⟩) (3 * n) (3 * n)) (W.alloc (.cells (vals (zs (3 * n))).toArray 5)) := fun W => by
    have h := bytes_make (3 * n) (by omega) W
    rw [show ((3 * n : Nat) : Int) = 3 * (n : Int) from by omega] at h
    exact h
  have m3 : IntKind.i64.wrap (3 * (n : Int)) = 3 * (n : Int) := IntWalk.i64_in _ (by omega)
  obtain ⟨W1, hcp, hblk, hbel, hsz⟩ := copy_text S (3 * n) w (by omega)
  have HBK := Lib.hid hblk
  have HBL := Lib.hid hbel
  have HSZ := Lib.hid hsz
  clear hn hn3 hblk hbel hsz
  go_enter Try.func11, Try.ntmps11
  go_wp2_with (go_at_call 13; refine (Rows_c _ (by have := HN3.out; omega) _).mono ?_; rintro e w' ⟨rfl, rfl⟩; try rw [HR.out])
  have m2 : IntKind.i64.wrap (2 * (n : Int)) = 2 * (n : Int) := IntWalk.i64_in _ (by have := HN3.out; omega)
  have n0 : (0 : Int) ≤ (n : Int) := by omega
  have n1 : (n : Int) ≤ 50000 := by have := HN3.out; omega
  have HW1 : Hid (Below (w.heap.size + 1) W1 W1) := Below.refl _ _
  clear hcp hmk
  generalize hg : w.heap.size = g at *
  go_loopw [5, 18] (fun vr vi W => ∃ (i : Nat) (I : Int), i ≤ 3 ∧ vi = .int .i64 I ∧ Hid (I = i) ∧ Hid (W.ownsRow (g + 1) 28 1 vr i ((List.range i).map (fun t => .slice (some ⟨g, t * n, none⟩) n (3 * n - t * n)))) ∧ Hid (Below (g + 1) W1 W)) (fun _ vi _ => 3 - (intOf vi).toNat)
  case atStart => exact ⟨0, 0, Nat.zero_le _, rfl, rfl, World.ownsRow_nil _ _ _ _, HW1⟩
  case round =>
    obtain ⟨i, I, hi, rfl, HI, HO, HW⟩ := hrel
    by_cases h0 : i < 3
    · obtain ⟨vs, hvs⟩ : ∃ vs, vs = (List.range i).map (fun t => Value.slice (some ⟨g, t * n, none⟩) n (3 * n - t * n)) := ⟨_, rfl⟩
      have hvl : vs.length = i := by rw [hvs]; simp
      have HO2 : Hid (wr.ownsRow (g + 1) 28 1 u5 vs.length vs) := by rw [Hid, hvl, hvs]; exact HO.out
      have HVL := Lib.hid hvl
      have HVS := Lib.hid hvs
      have hsz : g + 1 ≤ wr.heap.size := by have := HW.out.size; have := HSZ.out; omega
      have HZ := Lib.hid hsz
      have KEY : Hid (∀ (w' : World) (v' x : Value), x = Value.slice (some ⟨g, i * n, none⟩) n (3 * n - i * n) → w'.ownsRow (g + 1) 28 1 v' (vs.length + 1) (vs ++ [x]) → w'.ownsRow (g + 1) 28 1 v' (i + 1) ((List.range (i + 1)).map (fun t => Value.slice (some ⟨g, t * n, none⟩) n (3 * n - t * n)))) := by
        rintro w' v' x rfl h
        rw [List.range_succ, List.map_append, List.map_cons, List.map_nil, ← hvs]
        rw [hvl] at h
        exact h
      clear hvs hvl hsz HO
      have hcs : i = 0 ∨ i = 1 ∨ i = 2 := by omega
      have hI := HI.out
      clear HI
      rcases hcs with rfl | rfl | rfl
      · obtain rfl : I = 0 := hI
        go_wp2_with (refine wpList_append_row _ (by rfl) (.tmp 21) (.tmp 31) (by rfl) (g + 1) _ vs (by rfl) (HO2.out.alloc _) wr.heap.size 1 _ _ _ (by rfl) (heap_at _ _ _ rfl) (by have := HVL.out; omega) (by have := HZ.out; simp only [World.size_alloc]; omega) ?_; intro v' w' hown' hg' hat')
        have hbl : Below (g + 1) W1 w' := HW.out.trans (((Below.refl _ _).alloc HZ.out _).trans (below_grown (HO2.out.alloc _) hg' (by have := HZ.out; simp only [World.size_alloc]; omega)))
        exact ⟨⟨1, 1, by omega, rfl, rfl, KEY.out _ _ _ (by simp) hown', hbl⟩, by simp [intOf]⟩
      · obtain rfl : I = 1 := hI
        go_wp2_with (refine wpList_append_row _ (by rfl) (.tmp 21) (.tmp 31) (by rfl) (g + 1) _ vs (by rfl) (HO2.out.alloc _) wr.heap.size 1 _ _ _ (by rfl) (heap_at _ _ _ rfl) (by have := HVL.out; omega) (by have := HZ.out; simp only [World.size_alloc]; omega) ?_; intro v' w' hown' hg' hat')
        have hbl : Below (g + 1) W1 w' := HW.out.trans (((Below.refl _ _).alloc HZ.out _).trans (below_grown (HO2.out.alloc _) hg' (by have := HZ.out; simp only [World.size_alloc]; omega)))
        exact ⟨⟨2, 2, by omega, rfl, rfl, KEY.out _ _ _ (by rw [if_off _ _ _ (by omega)]; simp; omega) hown', hbl⟩, by simp [intOf]⟩
      · obtain rfl : I = 2 := hI
        go_wp2_with (refine wpList_append_row _ (by rfl) (.tmp 21) (.tmp 31) (by rfl) (g + 1) _ vs (by rfl) (HO2.out.alloc _) wr.heap.size 1 _ _ _ (by rfl) (heap_at _ _ _ rfl) (by have := HVL.out; omega) (by have := HZ.out; simp only [World.size_alloc]; omega) ?_; intro v' w' hown' hg' hat')
        have hbl : Below (g + 1) W1 w' := HW.out.trans (((Below.refl _ _).alloc HZ.out _).trans (below_grown (HO2.out.alloc _) hg' (by have := HZ.out; simp only [World.size_alloc]; omega)))
        exact ⟨⟨3, 3, by omega, rfl, rfl, KEY.out _ _ _ (by rw [if_off _ _ _ (by omega)]; simp; omega) hown', hbl⟩, by simp [intOf]⟩
    · obtain rfl : i = 3 := by omega
      obtain rfl : I = 3 := HI.out
      clear HI
      obtain ⟨rb, rc, rfl, hb1, hb2⟩ := HO.out.form (by omega)
      have hrow : ∀ t, t < 3 → wr.cell? ⟨rb, 0 + t, none⟩ = some (.slice (some ⟨g, t * n, none⟩) n (3 * n - t * n)) := fun t ht => by
        have h := World.ownsRow.cells HO.out rfl t (.slice (some ⟨g, t * n, none⟩) n (3 * n - t * n)) (by simp [ht])
        rw [add_zero_block] at h
        rw [Nat.zero_add]
        exact h
      have hgw : wr.heap[g]? = some (.cells (vals (bs S ++ zs (3 * n - S.size))).toArray 5 (0, 0)) := (HW.out.block g (by omega)).trans HBK.out
      have HRI : Hid (RI wr.heap.size wr rb 0 n (fun t => some ⟨g, t * n, none⟩) (fun t => 3 * n - t * n) (rowL (bs S) n)) :=
        ⟨hb2, hrow, fun t _ => rowL_length _ _ _, fun t ht => row_bytes (by rw [bs_length]; have := HN3.out; omega) hgw ht (lt_of_block hgw)⟩
      have HBW : Hid (Below w.heap.size w wr) := by rw [Hid, hg]; exact HBL.out.trans (HW.out.mono (by omega))
      clear hrow hgw hb1 hb2 HO HW HW1 HBK HBL HSZ m2 m3
      go_wp2_with fail
      have HNB : Hid (n = rowsN (bs S).length) := by rw [Hid, bs_length]; exact HNE.out
      clear hg
      obtain ⟨W2, hW2⟩ : ∃ W2, W2 = wr := ⟨_, rfl⟩
      subst hW2
      go_loopw [7, 8] (fun vv vx W => ∃ (k : Nat) (X : Int), k ≤ 5 ∧ vx = .int .i64 X ∧ Hid (X = (k : Int) + 1) ∧ Hid (OwnP W W2.heap.size vv (cutP (bs S) k)) ∧ Hid (Below W2.heap.size W2 W)) (fun _ vx _ => 6 - (intOf vx).toNat)
      case atStart => exact ⟨0, 1, Nat.zero_le _, rfl, rfl, OwnP.nil _ _, Below.refl _ _⟩
      case round =>
        obtain ⟨k, X, hk, rfl, HX, HO, HW⟩ := hrel
        by_cases h0 : k < 5
        · have hx1 : decide (X ≤ 5) = true := by have := HX.out; simp; omega
          have e1 : wrap64 (X + 1) = ((k + 1 : Nat) : Int) + 1 := by rw [HX.out]; unfold wrap64; omega
          have ex : IntKind.u8.wrap X = u (UInt8.ofNat (k + 1)) := by rw [HX.out, IntKind.wrap_u8]; unfold u; rw [UInt8.toNat_ofNat']; omega
          have HCS : Hid (cutP (bs S) (k + 1) = cutP (bs S) k ++ [(X, ⟨(atL [1, 2, 3] (rowL (bs S) n) (UInt8.ofNat (k + 1)) n).toArray⟩)]) := by
            rw [Hid, cutP_succ, partL, ← HNB.out, HX.out]; rfl
          have HRI2 := Lib.hid (HRI.out.below HW.out)
          have HZ : Hid (W2.heap.size ≤ wr.heap.size) := HW.out.size
          generalize UInt8.ofNat (k + 1) = xk at *
          go_wp2_with (first
            | (go_at_call 18
               refine (ParAt_c _ _ _ _ _ n _ _ _ [1, 2, 3] xk _ rfl (bytes_of_block (t := 5) (fr := (0, 0)) [1, 2, 3] (heap_at _ _ _ rfl)) (HRI2.out.below ((Below.refl _ _).alloc HZ.out _)).rows3 (by have := HN3.out; omega)).mono ?_
               rintro e w7 ⟨rfl, hb7, hbel7⟩
               have hcv := str_of_block _ n n _ (atL_length _ _ _ _) w7 hb7
               simp only [World.size_alloc] at hcv
               have HALL : Hid (Below wr.heap.size wr w7) := ((Below.refl _ _).alloc (Nat.le_refl _) _).trans (hbel7.mono (by simp))
               have HO7 := Lib.hid (HO.out.below HALL.out)
               have HZ7 : Hid (W2.heap.size ≤ w7.heap.size) := Nat.le_trans HZ.out HALL.out.size)
            | (refine wpList_append_part _ (by rfl) (.tmp 38) (.tmp 47) (by rfl) W2.heap.size _ (cutP (bs S) k) (by rfl) (HO7.out.alloc _) _ 1 1 [(X, ⟨(atL [1, 2, 3] (rowL (bs S) n) xk n).toArray⟩)] (by rfl) (by rfl) (src_of_block (heap_at _ _ _ rfl)) (by rw [cutP_length]; simp; omega) (by have := HZ7.out; simp only [World.size_alloc]; omega) ?_; intro v' w' hown' hg' hat'))
          have hbw : Below W2.heap.size W2 w' := HW.out.trans ((HALL.out.mono HZ.out).trans (((Below.refl _ _).alloc HZ7.out _).trans (below_grown (HO7.out.alloc _) hg' (by have := HZ7.out; simp only [World.size_alloc]; omega))))
          have HBW2 := Lib.hid hbw
          have HO8 : Hid (OwnP w' W2.heap.size v' (cutP (bs S) (k + 1))) := by rw [Hid, HCS.out]; exact hown'
          clear hbw hown' hg' hat' HO7 HZ7 HALL hbel7 hb7 hcv
          rw [e1]
          go_roundw
          case rel => exact ⟨k + 1, _, by omega, rfl, rfl, HO8, HBW2⟩
          case measure => rw [HX.out]; simp [intOf]; omega
        · have hx1 : decide (X ≤ 5) = false := by have := HX.out; simp; omega
          obtain rfl : k = 5 := by omega
          have HBZ := Lib.hid (HBW.out.trans (HW.out.mono HBW.out.size))
          go_wp2
          go_ret
          obtain ⟨A, c, e, h1, h2, h3⟩ := HO.out.form
          rw [cutP_length] at e h1
          exact ⟨⟨A, c, congrArg _ e, h1, h2, h3⟩, HBZ.out⟩

end Go.Proofs.Ytmnnhmbolbepcaa
