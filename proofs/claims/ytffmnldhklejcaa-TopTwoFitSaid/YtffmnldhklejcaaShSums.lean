/- The walk of ShareSums. -/
import Derived.Test.YtffmnldhklejcaaShLit
import Derived.Test.YtffmnldhklejcaaShOpen
namespace Go.Proofs.Ytffmnldhklejcaa
open Go.RowKit

theorem dat_add (s t no nu : List UInt8) (r c : Nat) (S N : List UInt8) (hS : S.getD c 0 = s.getD c 0 ^^^ t.getD c 0) (hN : N.getD c 0 = no.getD c 0 ^^^ nu.getD c 0) (hM : N.getD (32 + c) 0 = no.getD (32 + c) 0 ^^^ nu.getD (32 + c) 0) :
    dat s no r c ^^^ dat t nu r c = dat S N r c := by
  unfold dat
  rw [hS, hN, hM]
  exact (Gf.eval_add (pt r) [s.getD c 0, no.getD c 0, no.getD (32 + c) 0] [t.getD c 0, nu.getD c 0, nu.getD (32 + c) 0] rfl).symm

/-- a block of an array of bytes, written at a place -/
theorem vals_set (l : List UInt8) (i : Nat) (a : UInt8) : (vals l).toArray.setIfInBounds i (.int .u8 (u a)) = (vals (l.set i a)).toArray := by
  apply Array.ext'
  simp [vals, List.map_set]
theorem block_set {W : World} {g i : Nat} {l : List UInt8} {t : TypeId} (h : W.heap[g]? = some (.cells (vals l).toArray t (0, 0))) (a : UInt8) :
    (W.setCell ⟨g, i, none⟩ (.int .u8 (u a))).heap[g]? = some (.cells (vals (l.set i a)).toArray t (0, 0)) := by
  rw [heap_setCell_same W g i _ _ _ h, vals_set]
theorem cell_byte {W : World} {g : Nat} {l : List UInt8} {t : TypeId} {fr : Nat × Nat} (h : W.heap[g]? = some (.cells (vals l).toArray t fr)) (i : Nat) (hi : i < l.length) :
    W.cell? ⟨g, i, none⟩ = some (.int .u8 (u l[i])) := by
  rw [cell_of_row _ _ _ _ _ _ h, List.getElem?_toArray, List.getElem?_eq_getElem (by rw [vals_length]; exact hi), vals_get l i hi]

theorem cell_byteD {W : World} {g : Nat} {l : List UInt8} {t : TypeId} {fr : Nat × Nat} (h : W.heap[g]? = some (.cells (vals l).toArray t fr)) (i : Nat) (hi : i < l.length) :
    W.cell? ⟨g, i, none⟩ = some (.int .u8 (u (l.getD i 0))) := by
  rw [cell_byte h i hi, Gf.getD_eq hi]

/-- what the first loop keeps -/
structure SmI (w w1 W : World) (s t a b : List UInt8) (i : Nat) (U C : List UInt8) : Prop where
  bs : W.heap[w.heap.size]? = some (.cells (vals s).toArray 23 (0, 0))
  bt : W.heap[w.heap.size + 1]? = some (.cells (vals t).toArray 23 (0, 0))
  ba : W.heap[w.heap.size + 1 + 1]? = some (.cells (vals a).toArray 31 (0, 0))
  bb : W.heap[w.heap.size + 1 + 1 + 1]? = some (.cells (vals b).toArray 31 (0, 0))
  gt : w.heap.size + 1 + 1 + 1 < w1.heap.size
  bu : W.heap[w1.heap.size]? = some (.cells (vals U).toArray 23 (0, 0))
  bc : W.heap[w1.heap.size + 1]? = some (.cells (vals C).toArray 31 (0, 0))
  ul : U.length = 32
  cl : C.length = 64
  uv : ∀ j, j < 32 → j < i → U.getD j 0 = s.getD j 0 ^^^ t.getD j 0
  cv : ∀ j, j < i → C.getD j 0 = a.getD j 0 ^^^ b.getD j 0
  b : Below w.heap.size w W

theorem SmI.drewN {w w1 W : World} {s t a b : List UInt8} {i : Nat} {U C : List UInt8} (h : SmI w w1 W s t a b i U C) (k : Nat) : SmI w w1 (W.drewN k) s t a b i U C :=
  ⟨h.bs, h.bt, h.ba, h.bb, h.gt, h.bu, h.bc, h.ul, h.cl, h.uv, h.cv, below_drewN h.b k⟩
theorem getD_set (l : List UInt8) (i j : Nat) (x : UInt8) (hi : i < l.length) : (l.set i x).getD j 0 = if i = j then x else l.getD j 0 := by
  simp only [List.getD_eq_getElem?_getD, List.getElem?_set]
  split
  · simp [*]
  · rfl
theorem SmI.step {w w1 W : World} {s t a b : List UInt8} {i : Nat} {U C : List UInt8} (h : SmI w w1 W s t a b i U C) (hi : i < 64) (n m : Nat) :
    SmI w w1 (((((W.drewN n).setCell ⟨w1.heap.size + 1, i, none⟩ (.int .u8 (u (a.getD i 0 ^^^ b.getD i 0)))).drewN m).setCell ⟨w1.heap.size, i % 32, none⟩ (.int .u8 (u (s.getD (i % 32) 0 ^^^ t.getD (i % 32) 0)))))
      s t a b (i + 1) (U.set (i % 32) (s.getD (i % 32) 0 ^^^ t.getD (i % 32) 0)) (C.set i (a.getD i 0 ^^^ b.getD i 0)) := by
  have hg := h.gt
  have h1 : ∀ k, k ≠ w1.heap.size → k ≠ w1.heap.size + 1 → (((((W.drewN n).setCell ⟨w1.heap.size + 1, i, none⟩ (.int .u8 (u (a.getD i 0 ^^^ b.getD i 0)))).drewN m).setCell ⟨w1.heap.size, i % 32, none⟩ (.int .u8 (u (s.getD (i % 32) 0 ^^^ t.getD (i % 32) 0))))).heap[k]? = W.heap[k]? := fun k e1 e2 =>
    (Below.heap_setCell _ _ _ k e1).trans (Below.heap_setCell (W.drewN n) _ _ k e2)
  refine ⟨(h1 _ (by omega) (by omega)).trans h.bs, (h1 _ (by omega) (by omega)).trans h.bt, (h1 _ (by omega) (by omega)).trans h.ba, (h1 _ (by omega) (by omega)).trans h.bb, hg, ?_, ?_, by rw [List.length_set]; exact h.ul, by rw [List.length_set]; exact h.cl, ?_, ?_, ?_⟩
  · exact block_set ((Below.heap_setCell (W.drewN n) _ _ _ (by simp)).trans h.bu) _
  · exact (Below.heap_setCell _ _ _ _ (by simp)).trans (block_set (W := W.drewN n) h.bc _)
  · intro j hj hji
    rw [getD_set _ _ _ _ (by rw [h.ul]; omega)]
    split
    · rename_i e; rw [← e]
    · exact h.uv j hj (by omega)
  · intro j hji
    rw [getD_set _ _ _ _ (by rw [h.cl]; omega)]
    split
    · rename_i e; rw [← e]
    · exact h.cv j (by omega)
  · exact (below_drewN ((below_drewN h.b n).setCell (p := ⟨w1.heap.size + 1, i, none⟩) (by simp; omega) _) m).setCell (p := ⟨w1.heap.size, i % 32, none⟩) (by simp; omega) _

theorem Fill.data {W : World} {g n : Nat} {s no : List UInt8} (h : Fill W g n (flat s no n)) (r c : Nat) (hr : r < n) (hc : c < 32) : W.cell? ⟨g, r * 33 + 1 + c, none⟩ = some (.int .u8 (u (dat s no r c))) := by
  have hsh := h.shs
  obtain ⟨b, o, e, hx, _⟩ := hsh.at_ r (by rw [rows_length]; exact hr)
  injection e with e
  injection e with e1 e2
  subst e1 e2
  rw [rows_get s no n r hr] at hx
  have h2 := hx (1 + c) (.int .u8 (u (dat s no r c))) (by
    rw [show 1 + c = c + 1 from by omega]
    simp [row, vals, hc])
  rw [show 0 + r * 33 + (1 + c) = r * 33 + 1 + c from by omega] at h2
  exact h2
theorem conv64 (g : Nat) (z : List UInt8) (hz : z.length = 64) (W : World) (hW : W.heap[g]? = some (.cells (vals z).toArray 31 (0, 0))) :
    (convert 32 9 (.slice (some ⟨g, 0, none⟩) 64 64)).run Try.prog W = .ok (.string ⟨z.toArray⟩) W :=
  str_of_bytes g 0 64 64 z W hz.symm (fun i h => by
    rw [cell_of_row _ _ _ _ _ _ hW, Nat.zero_add, List.getElem?_toArray, List.getElem?_eq_getElem (by rw [vals_length]; exact h), vals_get _ i h])

set_option maxRecDepth 100000 in
set_option maxHeartbeats 1000000 in
theorem ShareSums_w (s t a b : List UInt8) (w : World) (hs : s.length = 32) (ht : t.length = 32) (ha : a.length = 64) (hb : b.length = 64) :
    Calls Try.prog 5 #[.agg (vals s).toArray, .agg (vals t).toArray, .agg (vals a).toArray, .agg (vals b).toArray] w fun e w' => e = .returned (.bool true) ∧ Below w.heap.size w w' := by
  have HS := Lib.hid hs
  have HT := Lib.hid ht
  have HA := Lib.hid ha
  have HB := Lib.hid hb
  clear hs ht ha hb
  go_enter Try.func5, Try.ntmps5
  go_wp2_with fail
  refine (SAlive_c _).mono ?_
  rintro e w1 ⟨rfl, hb1⟩
  go_wp2_with (first
    | refine wpList_alloc_run (by rfl) 23 (by rfl) _ (key_alloc _) ?_
    | refine wpList_alloc_run (by rfl) 31 (by rfl) _ (arr64_alloc _) ?_)
  have h0 : SmI w w1 ((w1.alloc (.cells (vals (zs 32)).toArray 23)).alloc (.cells (vals (zs 64)).toArray 31)) s t a b 0 (zs 32) (zs 64) := by
    have hsz := hb1.size
    simp only [World.size_alloc] at hsz
    have k1 : ∀ k, k < w.heap.size + 1 + 1 + 1 + 1 → ((w1.alloc (.cells (vals (zs 32)).toArray 23)).alloc (.cells (vals (zs 64)).toArray 31)).heap[k]? = ((((w.alloc (.cells (vals s).toArray 23)).alloc (.cells (vals t).toArray 23)).alloc (.cells (vals a).toArray 31)).alloc (.cells (vals b).toArray 31)).heap[k]? := fun k hk =>
      ((Below.heap_alloc _ _ k (by simp only [World.size_alloc]; omega)).trans (Below.heap_alloc _ _ k (by omega))).trans (hb1.block k (by simp only [World.size_alloc]; omega))
    refine ⟨(k1 _ (by omega)).trans ?_, (k1 _ (by omega)).trans ?_, (k1 _ (by omega)).trans ?_, (k1 _ (by omega)).trans ?_, by omega, heap_alloc2_old _ _ _, heap_alloc2_new _ _ _, zs_length _, zs_length _, fun j _ h => absurd h (by omega), fun j h => absurd h (by omega), ?_⟩
    · exact (Below.heap_alloc _ _ _ (by simp only [World.size_alloc]; omega)).trans ((Below.heap_alloc _ _ _ (by simp only [World.size_alloc]; omega)).trans (heap_alloc2_old _ _ _))
    · exact (Below.heap_alloc _ _ _ (by simp only [World.size_alloc]; omega)).trans ((Below.heap_alloc _ _ _ (by simp only [World.size_alloc]; omega)).trans (heap_alloc2_new _ _ _))
    · exact (Below.heap_alloc _ _ _ (by simp only [World.size_alloc]; omega)).trans (heap_at _ _ _ (by simp))
    · exact heap_at _ _ _ (by simp)
    · exact ((((((Below.refl _ w).alloc (Nat.le_refl _) _).alloc (by simp) _).alloc (by simp; omega) _).alloc (by simp; omega) _).trans (hb1.mono (by simp; omega)) |>.alloc (by omega) _).alloc (by simp; omega) _
  have H0 := Lib.hid h0
  clear h0 hb1
  go_loopw [11] (fun vi W => ∃ (i : Nat) (U C : List UInt8), i ≤ 64 ∧ vi = .int .i64 i ∧ SmI w w1 W s t a b i U C) (fun vi _ => 64 - (intOf vi).toNat)
  case atStart => exact ⟨0, _, _, Nat.zero_le _, rfl, H0.out⟩
  case round =>
    clear H0
    obtain ⟨i, U, C, hi, rfl, hI⟩ := hrel
    by_cases hlt : i < 64
    · have i0 : (0 : Int) ≤ (i : Int) := by omega
      have i1 : (i : Int) < 64 := by omega
      have c1 := cell_byteD hI.ba i (by rw [HA.out]; exact hlt)
      have c2 := cell_byteD hI.bb i (by rw [HB.out]; exact hlt)
      have c3 := cell_byteD hI.bc i (by rw [hI.cl]; exact hlt)
      have f3 := frozen_of_row wr (w1.heap.size + 1) i _ _ hI.bc
      have x1 := xor_u (a.getD i 0) (b.getD i 0)
      have ST := Lib.hid (hI.step hlt)
      have HG := Lib.hid hI.gt
      have HI := Lib.hid hI
      clear hI
      generalize a.getD i 0 = p1 at *
      generalize b.getD i 0 = p2 at *
      go_wp2_with fail
      go_region_held3 (fun W => W.cell? ⟨w.heap.size + 1 + 1, i, none⟩ = some (.int .u8 (u p1)) ∧ W.cell? ⟨w.heap.size + 1 + 1 + 1, i, none⟩ = some (.int .u8 (u p2)) ∧ W.cell? ⟨w1.heap.size + 1, i, none⟩ = some (held W ⟨w1.heap.size + 1, i, none⟩) ∧ W.frozen? ⟨w1.heap.size + 1, i, none⟩ = false)
        (first
          | exact ⟨c1, c2, held_of c3, f3⟩
          | exact ⟨(World.cell?_setCell_other _ _ _ _ (fun e => by have := HG.out; injection e with e; omega)).trans c1, (World.cell?_setCell_other _ _ _ _ (fun e => by have := HG.out; injection e with e; omega)).trans c2, held_of (World.cell?_setCell_same' _ _ _ (by rw [c3]; rfl)), (World.frozen?_setCell _ _ _ _).trans f3⟩)
        (fail)
      have j1 : ((i % 32 : Nat) : Int) < 32 := by omega
      have j0 : (0 : Int) ≤ ((i % 32 : Nat) : Int) := by omega
      have r1 : (i : Int).tmod 32 = ((i % 32 : Nat) : Int) := by rw [Int.tmod_eq_emod_of_nonneg i0]; omega
      have r2 : (i : Int) % 32 = ((i % 32 : Nat) : Int) := by omega
      have d1 := cell_byteD HI.out.bs (i % 32) (by rw [HS.out]; omega)
      have d2 := cell_byteD HI.out.bt (i % 32) (by rw [HT.out]; omega)
      have d3 := cell_byteD HI.out.bu (i % 32) (by rw [HI.out.ul]; omega)
      have f4 := frozen_of_row wr w1.heap.size (i % 32) _ _ HI.out.bu
      have x2 := xor_u (s.getD (i % 32) 0) (t.getD (i % 32) 0)
      generalize s.getD (i % 32) 0 = q1 at *
      generalize t.getD (i % 32) 0 = q2 at *
      generalize i % 32 = j at *
      have ne1 : ∀ (x y : Nat), (⟨w1.heap.size + 1, x, none⟩ : Addr) ≠ ⟨w.heap.size, y, none⟩ := fun x y e => by have := HG.out; injection e with e; omega
      have ne2 : ∀ (x y : Nat), (⟨w1.heap.size + 1, x, none⟩ : Addr) ≠ ⟨w.heap.size + 1, y, none⟩ := fun x y e => by have := HG.out; injection e with e; omega
      have ne3 : ∀ (x y : Nat), (⟨w1.heap.size + 1, x, none⟩ : Addr) ≠ ⟨w1.heap.size, y, none⟩ := fun x y e => by injection e with e; omega
      have e1 : (wr.setCell ⟨w1.heap.size + 1, i, none⟩ (.int .u8 (u (p1 ^^^ p2)))).drew.cell? ⟨w.heap.size, j, none⟩ = some (.int .u8 (u q1)) := (World.cell?_setCell_other _ _ _ _ (ne1 _ _)).trans d1
      have e2 : (wr.setCell ⟨w1.heap.size + 1, i, none⟩ (.int .u8 (u (p1 ^^^ p2)))).drew.cell? ⟨w.heap.size + 1, j, none⟩ = some (.int .u8 (u q2)) := (World.cell?_setCell_other _ _ _ _ (ne2 _ _)).trans d2
      have e3 : (wr.setCell ⟨w1.heap.size + 1, i, none⟩ (.int .u8 (u (p1 ^^^ p2)))).drew.cell? ⟨w1.heap.size, j, none⟩ = some (.int .u8 (u (U.getD j 0))) := (World.cell?_setCell_other _ _ _ _ (ne3 _ _)).trans d3
      have f5 : (wr.setCell ⟨w1.heap.size + 1, i, none⟩ (.int .u8 (u (p1 ^^^ p2)))).drew.frozen? ⟨w1.heap.size, j, none⟩ = false := (World.frozen?_setCell _ _ _ _).trans f4
      have hend := ST.out 0 1
      have HE : Hid (SmI w w1 (((wr.setCell ⟨w1.heap.size + 1, i, none⟩ (.int .u8 (u (p1 ^^^ p2)))).drew.setCell ⟨w1.heap.size, j, none⟩ (.int .u8 (u (q1 ^^^ q2)))).drew) s t a b (i + 1) (U.set j (q1 ^^^ q2)) (C.set i (p1 ^^^ p2))) := hend.drewN 1
      clear c1 c2 c3 f3 x1 d1 d2 d3 f4 hend ST ne1 ne2 ne3
      generalize (wr.setCell ⟨w1.heap.size + 1, i, none⟩ (.int .u8 (u (p1 ^^^ p2)))).drew = W1 at *
      go_wp2_with fail
      go_region_held3 (fun W => W.cell? ⟨w.heap.size, j, none⟩ = some (.int .u8 (u q1)) ∧ W.cell? ⟨w.heap.size + 1, j, none⟩ = some (.int .u8 (u q2)) ∧ W.cell? ⟨w1.heap.size, j, none⟩ = some (held W ⟨w1.heap.size, j, none⟩) ∧ W.frozen? ⟨w1.heap.size, j, none⟩ = false)
        (first
          | exact ⟨e1, e2, held_of e3, f5⟩
          | exact ⟨(World.cell?_setCell_other _ _ _ _ (fun e => by have := HG.out; injection e with e; omega)).trans e1, (World.cell?_setCell_other _ _ _ _ (fun e => by have := HG.out; injection e with e; omega)).trans e2, held_of (World.cell?_setCell_same' _ _ _ (by rw [e3]; rfl)), (World.frozen?_setCell _ _ _ _).trans f5⟩)
        (fail)
      all_goals
        go_wp2
        go_roundw
        case rel => exact ⟨i + 1, _, _, by omega, by go_num, HE.out⟩
        case measure => simp [intOf]; omega
    · have hi64 : i = 64 := by omega
      subst hi64
      have HV : Hid (∀ r c, c < 32 → dat s a r c ^^^ dat t b r c = dat U C r c) := fun r c hc => dat_add s t a b r c U C (hI.uv c hc (by omega)) (hI.cv c (by omega)) (hI.cv (32 + c) (by omega))
      have rs := range_of_block _ hI.bs
      have rt := range_of_block _ hI.bt
      have ru := range_of_block _ hI.bu
      have BA := Lib.hid hI.ba
      have BB := Lib.hid hI.bb
      have BC := Lib.hid hI.bc
      have HU := Lib.hid hI.ul
      have HC := Lib.hid hI.cl
      have HB0 := Lib.hid hI.b
      have hu := Try.underlying23
      have hi1 : (Try.prog.info? 23).map (·.size) = some (vals s).length := by rw [vals_length, HS.out]; exact key_size
      have hi2 : (Try.prog.info? 23).map (·.size) = some (vals t).length := by rw [vals_length, HT.out]; exact key_size
      have hi3 : (Try.prog.info? 23).map (·.size) = some (vals U).length := by rw [vals_length, HU.out]; exact key_size
      have l1 : (vals s).length = 32 := by rw [vals_length, HS.out]
      have l2 : (vals t).length = 32 := by rw [vals_length, HT.out]
      have l3 : (vals U).length = 32 := by rw [vals_length, HU.out]
      have h1 := vals_one s
      have h2 := vals_one t
      have h3 := vals_one U
      have ca := conv64 (w.heap.size + 1 + 1) a HA.out
      have cb := conv64 (w.heap.size + 1 + 1 + 1) b HB.out
      have cc := conv64 (w1.heap.size + 1) C HC.out
      have ka := ca wr BA.out
      have CA := Lib.hid ca
      have CB := Lib.hid cb
      have CC := Lib.hid cc
      have ZA : Hid (bs (⟨a.toArray⟩ : ByteArray) = a) := by simp [Hid, bs]
      have ZB : Hid (bs (⟨b.toArray⟩ : ByteArray) = b) := by simp [Hid, bs]
      have ZC : Hid (bs (⟨C.toArray⟩ : ByteArray) = C) := by simp [Hid, bs]
      clear hI ca cb cc
      generalize (⟨a.toArray⟩ : ByteArray) = za at *
      generalize (⟨b.toArray⟩ : ByteArray) = zb at *
      generalize (⟨C.toArray⟩ : ByteArray) = zc at *
      go_wp2_with fail
      go_region_held3 (fun W => W.rangeAt w.heap.size 0 (vals s) ∧ (convert 32 9 (.slice (some ⟨w.heap.size + 1 + 1, 0, none⟩) 64 64)).run Try.prog W = .ok (.string za) W)
        (first | exact ⟨rs, CA.out _ BA.out⟩ | exact ⟨range_below (W := wr.drew) rs hb2, CA.out _ ((hb2.block _ (lt_of_block BA.out)).trans BA.out)⟩)
        (first | (go_at_call 12; refine (Split_g _ _ _ s a 5 _ (by rfl) (by rfl) ZA.out HS.out (by omega) (by omega) HA.out).mono ?_; rintro e w2 ⟨rfl, hf, hb2⟩))
      have hbw : Below wr.heap.size wr w2 := below_of_drew hb2
      have rt2 := range_below rt hbw
      have ru2 := range_below ru hbw
      have BB2 : Hid (w2.heap[w.heap.size + 1 + 1 + 1]? = some (.cells (vals b).toArray 31 (0, 0))) := (hbw.block _ (lt_of_block BB.out)).trans BB.out
      have BC2 : Hid (w2.heap[w1.heap.size + 1]? = some (.cells (vals C).toArray 31 (0, 0))) := (hbw.block _ (lt_of_block BC.out)).trans BC.out
      have HB2 := Lib.hid (HB0.out.trans (hbw.mono HB0.out.size))
      have HF1 : Hid (Fill w2 (wr.heap.size + 1) 5 (flat s a 5)) := hf
      have kb := CB.out w2 BB2.out
      clear rs rt ru BA BB BC HB0 hf hb2 hbw ka CA
      generalize wr.heap.size + 1 = g1 at *
      go_wp2_with fail
      go_region_held3 (fun W => W.rangeAt (w.heap.size + 1) 0 (vals t) ∧ (convert 32 9 (.slice (some ⟨w.heap.size + 1 + 1 + 1, 0, none⟩) 64 64)).run Try.prog W = .ok (.string zb) W)
        (first | exact ⟨rt2, CB.out _ BB2.out⟩ | exact ⟨range_below (W := w2.drew) rt2 hb3, CB.out _ ((hb3.block _ (lt_of_block BB2.out)).trans BB2.out)⟩)
        (first | (go_at_call 12; refine (Split_g _ _ _ t b 5 _ (by rfl) (by rfl) ZB.out HT.out (by omega) (by omega) HB.out).mono ?_; rintro e w3 ⟨rfl, hf, hb3⟩))
      have hbw : Below w2.heap.size w2 w3 := below_of_drew hb3
      have ru3 := range_below ru2 hbw
      have BC3 : Hid (w3.heap[w1.heap.size + 1]? = some (.cells (vals C).toArray 31 (0, 0))) := (hbw.block _ (lt_of_block BC2.out)).trans BC2.out
      have HB3 := Lib.hid (HB2.out.trans (hbw.mono HB2.out.size))
      have HF2 : Hid (Fill w3 (w2.heap.size + 1) 5 (flat t b 5)) := hf
      have HF13 := Lib.hid (HF1.out.keepb hbw)
      have kc := CC.out w3 BC3.out
      clear rt2 ru2 BB2 BC2 HB2 hf hb3 hbw kb CB HF1
      generalize w2.heap.size + 1 = g2 at *
      go_wp2_with fail
      go_region_held3 (fun W => W.rangeAt (w1.heap.size) 0 (vals U) ∧ (convert 32 9 (.slice (some ⟨w1.heap.size + 1, 0, none⟩) 64 64)).run Try.prog W = .ok (.string zc) W)
        (first | exact ⟨ru3, CC.out _ BC3.out⟩ | exact ⟨range_below (W := w3.drew) ru3 hb4, CC.out _ ((hb4.block _ (lt_of_block BC3.out)).trans BC3.out)⟩)
        (first | (go_at_call 12; refine (Split_g _ _ _ U C 5 _ (by rfl) (by rfl) ZC.out HU.out (by omega) (by omega) HC.out).mono ?_; rintro e w4 ⟨rfl, hf, hb4⟩))
      have hbw : Below w3.heap.size w3 w4 := below_of_drew hb4
      have HB4 := Lib.hid (HB3.out.trans (hbw.mono HB3.out.size))
      have HF3 : Hid (Fill w4 (w3.heap.size + 1) 5 (flat U C 5)) := hf
      have HF14 := Lib.hid (HF13.out.keepb hbw)
      have HF24 := Lib.hid (HF2.out.keepb hbw)
      clear ru3 BC3 HB3 hf hb4 hbw kc CC HF13 HF2
      generalize w3.heap.size + 1 = g3 at *
      go_wp2_with fail
      clear hu hi1 hi2 hi3 l1 l2 l3 h1 h2 h3
      go_loopw [18] (fun vk W => ∃ k : Nat, k ≤ 5 ∧ vk = .int .i64 k ∧ Drawn w4 W) (fun vk _ => 5 - (intOf vk).toNat)
      case atStart => exact ⟨0, Nat.zero_le _, rfl, Drawn.refl _⟩
      case round =>
        obtain ⟨k, hk, rfl, ⟨nd, rfl⟩⟩ := hrel
        by_cases hlt : k < 5
        · have k0 : (0 : Int) ≤ (k : Int) := by omega
          have k1 : (k : Int) < 5 := by omega
          go_wp2_with fail
          go_loopw [19] (fun vi W => ∃ i : Nat, i ≤ 32 ∧ vi = .int .i64 i ∧ Drawn w4 W) (fun vi _ => 32 - (intOf vi).toNat)
          case atStart => exact ⟨0, Nat.zero_le _, rfl, ⟨nd, rfl⟩⟩
          case round =>
            obtain ⟨i, hi, rfl, ⟨nd2, rfl⟩⟩ := hrel
            by_cases hlt2 : i < 32
            · have i0 : (0 : Int) ≤ (i : Int) := by omega
              have i1 : (i : Int) < 32 := by omega
              have c1 := HF14.out.data k i hlt hlt2
              have c2 := HF24.out.data k i hlt hlt2
              have c3 := HF3.out.data k i hlt hlt2
              rw [← HV.out k i hlt2] at c3
              have x1 := xor_u (dat s a k i) (dat t b k i)
              have t1 : (u (dat s a k i ^^^ dat t b k i) != u (dat s a k i ^^^ dat t b k i)) = false := by simp
              generalize dat s a k i = p1 at *
              generalize dat t b k i = p2 at *
              go_wp2_with fail
              go_quiet (fail)
              go_wp2
              go_roundw
              case rel => exact ⟨i + 1, by omega, by go_num, ⟨_, rfl⟩⟩
              case measure => simp [intOf]; omega
            · go_wp2
              go_roundw
              case rel => exact ⟨k + 1, by omega, by go_num, ⟨nd2, rfl⟩⟩
              case measure => simp [intOf]; omega
        · go_wp2
          go_ret
          exact ⟨rfl, below_drewN HB4.out _⟩

theorem ShareSums_any (v : Value) (h : IsArr 32 v) (v' : Value) (h' : IsArr 32 v') (x : Value) (hx : IsArr 64 x) (y : Value) (hy : IsArr 64 y) (w : World) :
    Calls Try.prog 5 #[v, v', x, y] w fun e w' => e = .returned (.bool true) ∧ Below w.heap.size w w' := by
  obtain ⟨s, hs, rfl⟩ := h
  obtain ⟨t, ht, rfl⟩ := h'
  obtain ⟨a, ha, rfl⟩ := hx
  obtain ⟨b, hb, rfl⟩ := hy
  exact ShareSums_w s t a b w hs ht ha hb

end Go.Proofs.Ytffmnldhklejcaa
