/- The walk of ShareFits. -/
import Derived.Test.YtffmnldhklejcaaShCoef
import Derived.Test.YtffmnldhklejcaaShBlindW
import Derived.Test.YtffmnldhklejcaaShOpen
namespace Go.Proofs.Ytffmnldhklejcaa
open Go.RowKit
set_option linter.unusedSimpArgs false

attribute [local go_sem ↓] keyLoad_pre keyBuild_pre shareLoad_pre

theorem range_belowB {W W' : World} {B g o : Nat} {cs : List Value} (h : W.rangeAt g o cs) (hb : Below B W W') (hg : g < B) : W'.rangeAt g o cs := fun j v hv => by
  have hc := h j v hv
  rw [hb.cell hg]
  exact hc

theorem w64u (c : UInt8) : wrap64 (u c) = u c := by have := u_lo c; have := u_hi c; unfold wrap64; omega
theorem tm5 (c : UInt8) : (u c).tmod 5 = ((c.toNat % 5 : Nat) : Int) := by rw [Int.tmod_eq_emod_of_nonneg (u_lo c)]; rfl
theorem em5 (c : UInt8) : (wrap64 (u c)).tmod 5 = ((c.toNat % 5 : Nat) : Int) := by rw [w64u, tm5]

theorem noise_step (M : List UInt8) (hM : M.length = 64) (cf : Nat → UInt8 × UInt8) (j : Nat) (hj : j < 32) (h : ∀ k, k < j → M.getD k 0 = (cf k).1 ∧ M.getD (32 + k) 0 = (cf k).2) :
    ∀ k, k < j + 1 → ((M.set j (cf j).1).set (32 + j) (cf j).2).getD k 0 = (cf k).1 ∧ ((M.set j (cf j).1).set (32 + j) (cf j).2).getD (32 + k) 0 = (cf k).2 := fun k hk => by
  have A : ∀ i, ((M.set j (cf j).1).set (32 + j) (cf j).2).getD i 0 = if 32 + j = i then (cf j).2 else if j = i then (cf j).1 else M.getD i 0 := fun i => by
    rw [getD_set (M.set j (cf j).1) (32 + j) i _ (by rw [List.length_set, hM]; omega), getD_set M j i _ (by rw [hM]; omega)]
  rw [A, A, if_neg (by omega)]
  by_cases e : k = j
  · subst e; rw [if_pos rfl, if_pos rfl]; exact ⟨rfl, rfl⟩
  · rw [if_neg (fun h => e h.symm), if_neg (by omega), if_neg (by omega)]; exact h k (by omega)
theorem conv64b (g : Nat) (z : List UInt8) (hz : z.length = 64) (W : World) (hW : W.heap[g]? = some (.cells (vals z).toArray 5 (0, 0))) :
    (convert 32 9 (.slice (some ⟨g, 0, none⟩) 64 64)).run Try.prog W = .ok (.string ⟨z.toArray⟩) W :=
  str_of_bytes g 0 64 64 z W hz.symm (fun i h => by
    rw [cell_of_row _ _ _ _ _ _ hW, Nat.zero_add, List.getElem?_toArray, List.getElem?_eq_getElem (by rw [vals_length]; exact h), vals_get _ i h])

/-- what the walk keeps: the other secret's box, two shares, three shares -/
structure FI (w W : World) (o la lb lc : List UInt8) (g oa ob g3 : Nat) : Prop where
  bo : W.heap[w.heap.size + 1]? = some (.cells (vals o).toArray 23 (0, 0))
  ra : W.rangeAt g oa (vals la)
  rb : W.rangeAt g ob (vals lb)
  lt : g < W.heap.size
  t3 : W.heap[g3]? = some (.cells (vals (la ++ (lb ++ lc))).toArray 34 (0, 0))
  b : Below w.heap.size w W
theorem FI.below {w W W' : World} {o la lb lc : List UInt8} {g oa ob g3 : Nat} (h : FI w W o la lb lc g oa ob g3) {B : Nat} (hb : Below B W W') (h1 : w.heap.size + 1 < B) (h2 : g < B) (h3 : g3 < B) : FI w W' o la lb lc g oa ob g3 :=
  ⟨(hb.block _ h1).trans h.bo, range_belowB h.ra hb h2, range_belowB h.rb hb h2, by have := hb.size; have := h.lt; omega, (hb.block _ h3).trans h.t3, h.b.trans (hb.mono (by omega))⟩

/-- with the noise that is being written -/
structure FM (w W : World) (o la lb lc : List UInt8) (g oa ob g3 gm : Nat) (M : List UInt8) : Prop where
  i : FI w W o la lb lc g oa ob g3
  m : W.heap[gm]? = some (.cells (vals M).toArray 5 (0, 0))
  l1 : w.heap.size + 1 < gm
  l2 : g < gm
  l3 : g3 < gm
theorem FM.below {w W W' : World} {o la lb lc : List UInt8} {g oa ob g3 gm : Nat} {M : List UInt8} (h : FM w W o la lb lc g oa ob g3 gm M) (hb : Below W.heap.size W W') : FM w W' o la lb lc g oa ob g3 gm M :=
  ⟨h.i.below hb (lt_of_block h.i.bo) h.i.lt (lt_of_block h.i.t3), (hb.block _ (lt_of_block h.m)).trans h.m, h.l1, h.l2, h.l3⟩
theorem FM.set {w W : World} {o la lb lc : List UInt8} {g oa ob g3 gm : Nat} {M : List UInt8} (h : FM w W o la lb lc g oa ob g3 gm M) (j : Nat) (v : UInt8) : FM w (W.setCell ⟨gm, j, none⟩ (.int .u8 (u v))) o la lb lc g oa ob g3 gm (M.set j v) :=
  ⟨h.i.below (B := gm) ((Below.refl gm W).setCell (p := ⟨gm, j, none⟩) (Nat.le_refl _) _) h.l1 h.l2 h.l3, block_set h.m v, h.l1, h.l2, h.l3⟩

set_option maxRecDepth 100000 in
set_option maxHeartbeats 1000000 in
theorem ShareFits_w (s o z : List UInt8) (p q : UInt8) (w : World) (hs : s.length = 32) (ho : o.length = 32) (hz : z.length = 64) :
    Calls Try.prog 4 #[.agg (vals s).toArray, .agg (vals o).toArray, .agg (vals z).toArray, .int .u8 (u p), .int .u8 (u q)] w fun e w' => e = .returned (.bool true) ∧ Below w.heap.size w w' := by
  obtain ⟨ia, hia⟩ : ∃ m : Nat, m = p.toNat % 5 := ⟨_, rfl⟩
  obtain ⟨ib, hib⟩ : ∃ m : Nat, m = q.toNat % 5 := ⟨_, rfl⟩
  have lta : ia < 5 := by rw [hia]; exact Nat.mod_lt _ (by decide)
  have HIA := Lib.hid lta
  have ltb : ib < 5 := by rw [hib]; exact Nat.mod_lt _ (by decide)
  have HIB := Lib.hid ltb
  have ea := em5 p
  have eb := em5 q
  rw [← hia] at ea
  rw [← hib] at eb
  have EA := Lib.hid ea
  have EB := Lib.hid eb
  have HZ := Lib.hid hz
  have HS := Lib.hid hs
  have HO := Lib.hid ho
  clear hz hs ho hia hib ea eb lta ltb
  go_enter Try.func4, Try.ntmps4
  go_wp2_with fail
  refine (SAlive_c _).mono ?_
  rintro e w1 ⟨rfl, hb1⟩
  have box1 : w1.heap[w.heap.size]? = some (.cells (vals s).toArray 23 (0, 0)) := (hb1.block _ (by simp only [World.size_alloc]; omega)).trans ((Below.heap_alloc _ _ _ (by simp only [World.size_alloc]; omega)).trans (heap_alloc2_old _ _ _))
  have box2 : w1.heap[w.heap.size + 1]? = some (.cells (vals o).toArray 23 (0, 0)) := (hb1.block _ (by simp only [World.size_alloc]; omega)).trans ((Below.heap_alloc _ _ _ (by simp only [World.size_alloc]; omega)).trans (heap_alloc2_new _ _ _))
  have box3 : w1.heap[w.heap.size + 1 + 1]? = some (.cells (vals z).toArray 31 (0, 0)) := (hb1.block _ (by simp only [World.size_alloc]; omega)).trans (heap_at _ _ _ (by simp))
  have HB := Lib.hid (((((Below.refl _ w).alloc (Nat.le_refl _) _).alloc (by simp) _).alloc (by simp; omega) _).trans (hb1.mono (by simp; omega)))
  clear hb1
  have cv1 := conv64 _ z HZ.out w1 box3
  have CV := Lib.hid (conv64 (w.heap.size + 1 + 1) z HZ.out)
  have BOX2 := Lib.hid box2
  have BOX1 := Lib.hid box1
  have BOX3 := Lib.hid box3
  have hr : w1.rangeAt w.heap.size 0 (vals s) := range_of_block _ box1
  clear box1 box2 box3
  have hu := Try.underlying23
  have hi : (Try.prog.info? 23).map (·.size) = some (vals s).length := by rw [vals_length, HS.out]; exact key_size
  have hl : (vals s).length = 32 := by rw [vals_length, HS.out]
  have h1 := vals_one s
  have HZS : Hid (bs (⟨z.toArray⟩ : ByteArray) = z) := by simp [Hid, bs]
  generalize (⟨z.toArray⟩ : ByteArray) = zstr at *
  go_wp2_with fail
  rw [EA.out, EB.out]
  go_region_held3 (fun W => W.rangeAt w.heap.size 0 (vals s) ∧ (convert 32 9 (.slice (some ⟨w.heap.size + 1 + 1, 0, none⟩) 64 64)).run Try.prog W = .ok (.string zstr) W)
    (first | exact ⟨hr, CV.out _ BOX3.out⟩ | exact ⟨range_below (W := w1.drew) hr hb2, CV.out _ ((hb2.block _ (lt_of_block BOX3.out)).trans BOX3.out)⟩)
    (first | (go_at_call 12; refine (Split_g _ _ _ s z 5 _ (by rfl) (by rfl) HZS.out HS.out (by omega) (by omega) HZ.out).mono ?_; rintro e w2 ⟨rfl, hf, hb2⟩))
  have hbw : Below w1.heap.size w1 w2 := below_of_drew hb2
  have BX2 : Hid (w2.heap[w.heap.size + 1]? = some (.cells (vals o).toArray 23 (0, 0))) := (hbw.block _ (lt_of_block BOX2.out)).trans BOX2.out
  have HB2 := Lib.hid (HB.out.trans (hbw.mono HB.out.size))
  have HF : Hid (Fill w2 (w1.heap.size + 1) 5 (flat s z 5)) := hf
  clear hr hb2 hbw hf BOX1 BOX2 BOX3 HB hi hl h1 hu CV
  generalize w1.heap.size + 1 = g at *
  clear EA EB cv1
  have a0 : (0 : Int) ≤ (ia : Int) := by omega
  have a1 : (ia : Int) < 5 := by have := HIA.out; omega
  have b0 : (0 : Int) ≤ (ib : Int) := by omega
  have b1 : (ib : Int) < 5 := by have := HIB.out; omega
  by_cases n1 : ia = ib
  · have f1 : ((ia : Int) == (ib : Int)) = true := by rw [n1]; simp
    clear n1
    go_wp2_with fail
    go_ret
    exact ⟨rfl, HB2.out⟩
  · have f1 : ((ia : Int) == (ib : Int)) = false := by simp; omega
    have N1 := Lib.hid n1
    clear n1
    go_wp2_with fail
    go_loopw [15, 16] (fun vt vi W => ∃ t i : Nat, vt = .int .i64 t ∧ vi = .int .i64 i ∧ i ≤ 5 ∧ Hid (t < 5 ∧ ∀ j, j < i → j ≠ ia → j ≠ ib → t ≠ ia ∧ t ≠ ib) ∧ W = w2) (fun vt vi _ => 5 - (intOf vi).toNat)
    case atStart => exact ⟨0, 0, rfl, rfl, by omega, ⟨by omega, fun j h => absurd h (by omega)⟩, rfl⟩
    case round =>
      obtain ⟨t, i, rfl, rfl, hi5, HT, rfl⟩ := hrel
      by_cases hlt : i < 5
      · have i0 : (0 : Int) ≤ (i : Int) := by omega
        have i1 : (i : Int) < 5 := by omega
        by_cases na : i = ia
        · have g1 : ((i : Int) != (ia : Int)) = false := by rw [na]; simp
          have NA := Lib.hid na
          clear na
          go_wp2_with fail
          go_roundw
          case rel => exact ⟨t, i + 1, rfl, by go_num, by omega, ⟨HT.out.1, fun j h h1 h2 => HT.out.2 j (by have := NA.out; omega) h1 h2⟩, by trivial⟩
          case measure => simp [intOf]; omega
        · have g1 : ((i : Int) != (ia : Int)) = true := by simp; omega
          have NA := Lib.hid na
          clear na
          by_cases nb : i = ib
          · have g2 : ((i : Int) != (ib : Int)) = false := by rw [nb]; simp
            have NB := Lib.hid nb
            clear nb
            go_wp2_with fail
            go_roundw
            case rel => exact ⟨t, i + 1, rfl, by go_num, by omega, ⟨HT.out.1, fun j h h1 h2 => HT.out.2 j (by have := NB.out; omega) h1 h2⟩, by trivial⟩
            case measure => simp [intOf]; omega
          · have g2 : ((i : Int) != (ib : Int)) = true := by simp; omega
            have NB := Lib.hid nb
            clear nb
            go_wp2_with fail
            go_roundw
            case rel => exact ⟨i, i + 1, rfl, by go_num, by omega, ⟨hlt, fun _ _ _ _ => ⟨NA.out, NB.out⟩⟩, by trivial⟩
            case measure => simp [intOf]; omega
      · have HTT : Hid (t < 5 ∧ t ≠ ia ∧ t ≠ ib) := by
          refine ⟨HT.out.1, ?_⟩
          have e0 := HT.out.2 0 (by omega)
          have e1 := HT.out.2 1 (by omega)
          have e2 := HT.out.2 2 (by omega)
          have := N1.out
          omega
        clear HT
        have hsh := HF.out.shs
        obtain ⟨_, _, e1, hra, hla⟩ := hsh.at_ ia (by rw [rows_length]; exact HIA.out)
        cases e1
        obtain ⟨_, _, e2, hrb, hlb⟩ := hsh.at_ ib (by rw [rows_length]; exact HIB.out)
        cases e2
        rw [rows_get s z 5 ia HIA.out, Nat.zero_add] at hra
        rw [rows_get s z 5 ib HIB.out, Nat.zero_add] at hrb
        have HLA := Lib.hid (row_length s z ia)
        have HLB := Lib.hid (row_length s z ib)
        have HA0 := Lib.hid (row_head s z ia)
        have HB0 := Lib.hid (row_head s z ib)
        have HGL := Lib.hid HF.out.lt
        clear hla hlb hsh
        generalize row s z ia = la at *
        generalize row s z ib = lb at *
        obtain ⟨lc, hlc⟩ : ∃ lc, lc = third o la lb (pt t) := ⟨_, rfl⟩
        have HLC : Hid (lc.length = 33) := by rw [Hid, hlc]; exact third_length _ _ _ _
        have HTC : Hid (∀ (X : Int) (W : World), X = u (pt t) → Calls Try.prog 15 #[.agg (vals o).toArray, .agg (vals la).toArray, .agg (vals lb).toArray, .int .u8 X] W fun e w' => e = .returned (.agg (vals lc).toArray) ∧ Below W.heap.size W w') := fun X W h => by rw [h, hlc]; exact Third_c o la lb (pt t) W HO.out HLA.out HLB.out
        have HFT : Hid (∀ j, j < 32 → Gf.eval [o.getD j 0, (coef [la, lb, lc] o j).1, (coef [la, lb, lc] o j).2] (pt ia) = la.getD (j + 1) 0 ∧ Gf.eval [o.getD j 0, (coef [la, lb, lc] o j).1, (coef [la, lb, lc] o j).2] (pt ib) = lb.getD (j + 1) 0) := fun j hj => by
          have h1 := HIA.out
          have h2 := HIB.out
          have h3 := HTT.out.1
          have h := coef_fits o la lb (pt t) j hj (by rw [HA0.out]; exact pt_ne ia (by omega)) (by rw [HB0.out]; exact pt_ne ib (by omega)) (by rw [HA0.out, HB0.out]; exact fun e => N1.out (pt_inj (by omega) (by omega) e)) (by rw [HA0.out]; exact fun e => HTT.out.2.1 (pt_inj (by omega) (by omega) e)) (by rw [HB0.out]; exact fun e => HTT.out.2.2 (pt_inj (by omega) (by omega) e))
          rw [← hlc, HA0.out, HB0.out] at h
          exact h
        have t0 : IntKind.i64.wrap ((t : Int) + 1) = (t : Int) + 1 := IntWalk.i64_in _ (by have := HTT.out.1; omega)
        have tx : IntKind.u8.wrap ((t : Int) + 1) = u (pt t) := by
          have h := HTT.out.1
          rw [u_pt t (by omega), IntKind.wrap_u8, Int.emod_eq_of_lt (by omega) (by omega)]
        have hro := range_of_block _ BX2.out
        have hu := Try.underlying34
        have huk := Try.underlying23
        have hia : (Try.prog.info? 34).map (·.size) = some (vals la).length := by rw [vals_length, HLA.out]; exact share_size
        have hib : (Try.prog.info? 34).map (·.size) = some (vals lb).length := by rw [vals_length, HLB.out]; exact share_size
        have hio : (Try.prog.info? 23).map (·.size) = some (vals o).length := by rw [vals_length, HO.out]; exact key_size
        clear hlc HF
        obtain rfl : i = 5 := by omega
        go_wp2_with fail
        refine wp_region_noPanic ?_
        refine wp_region_held_drew (S := fun W => Below wr.heap.size wr W) (by kernel_rfl) ((Below.refl _ _).drew) (fun hHeld => ?_)
        refine wpAnyH_take (i := 0) (v := ?_) rfl (by kernel_rfl) (by kernel_rfl) (by kernel_rfl) (fun _ _ _ h => h) (Or.inl ⟨by rfl, ?_⟩) (by assumption) ?_
        rotate_left
        · intro w hSw; go_simp; try (with_reducible rfl)
        try simp only [List.getElem_toArray, List.getElem_cons_succ, List.getElem_cons_zero, Act.put, List.setIfInBounds_toArray, List.set_cons_zero, List.set_cons_succ]
        refine wpAnyH_take (i := 1) (v := ?_) rfl (by kernel_rfl) (by kernel_rfl) (by kernel_rfl) (fun _ _ _ h => h) (Or.inl ⟨by rfl, ?_⟩) (by assumption) ?_
        rotate_left
        · intro w hSw; go_simp; try (with_reducible rfl)
        try simp only [List.getElem_toArray, List.getElem_cons_succ, List.getElem_cons_zero, Act.put, List.setIfInBounds_toArray, List.set_cons_zero, List.set_cons_succ]
        refine wpAnyH_take (i := 2) (v := ?_) rfl (by kernel_rfl) (by kernel_rfl) (by kernel_rfl) (fun _ _ _ h => h) (Or.inl ⟨by rfl, ?_⟩) (by assumption) ?_
        rotate_left
        · intro w hSw; go_simp; try (with_reducible rfl)
        try simp only [List.getElem_toArray, List.getElem_cons_succ, List.getElem_cons_zero, Act.put, List.setIfInBounds_toArray, List.set_cons_zero, List.set_cons_succ]
        refine' wpAnyH_take (i := 3) (v := _) rfl (by kernel_rfl) (by kernel_rfl) (by kernel_rfl) (fun _ _ _ h => h) (yieldsIf_load_mid (by rfl) _ _ rfl _ _ rfl _ _ (fun W hW => range_below hra hW) hu (by rfl) hia) (by assumption) ?_
        try simp only [List.getElem_toArray, List.getElem_cons_succ, List.getElem_cons_zero, Act.put, List.setIfInBounds_toArray, List.set_cons_zero, List.set_cons_succ]
        refine wpAnyH_take (i := 4) (v := ?_) rfl (by kernel_rfl) (by kernel_rfl) (by kernel_rfl) (fun _ _ _ h => h) (Or.inl ⟨by rfl, ?_⟩) (by assumption) ?_
        rotate_left
        · intro w hSw; go_simp; try (with_reducible rfl)
        try simp only [List.getElem_toArray, List.getElem_cons_succ, List.getElem_cons_zero, Act.put, List.setIfInBounds_toArray, List.set_cons_zero, List.set_cons_succ]
        refine wpAnyH_take (i := 5) (v := ?_) rfl (by kernel_rfl) (by kernel_rfl) (by kernel_rfl) (fun _ _ _ h => h) (Or.inl ⟨by rfl, ?_⟩) (by assumption) ?_
        rotate_left
        · intro w hSw; go_simp; try (with_reducible rfl)
        try simp only [List.getElem_toArray, List.getElem_cons_succ, List.getElem_cons_zero, Act.put, List.setIfInBounds_toArray, List.set_cons_zero, List.set_cons_succ]
        refine wpAnyH_take (i := 6) (v := ?_) rfl (by kernel_rfl) (by kernel_rfl) (by kernel_rfl) (fun _ _ _ h => h) (Or.inl ⟨by rfl, ?_⟩) (by assumption) ?_
        rotate_left
        · intro w hSw; go_simp; try (with_reducible rfl)
        try simp only [List.getElem_toArray, List.getElem_cons_succ, List.getElem_cons_zero, Act.put, List.setIfInBounds_toArray, List.set_cons_zero, List.set_cons_succ]
        refine' wpAnyH_take (i := 7) (v := _) rfl (by kernel_rfl) (by kernel_rfl) (by kernel_rfl) (fun _ _ _ h => h) (yieldsIf_load_mid (by rfl) _ _ rfl _ _ rfl _ _ (fun W hW => range_below hrb hW) hu (by rfl) hib) (by assumption) ?_
        try simp only [List.getElem_toArray, List.getElem_cons_succ, List.getElem_cons_zero, Act.put, List.setIfInBounds_toArray, List.set_cons_zero, List.set_cons_succ]
        refine' wpAnyH_take (i := 8) (v := _) rfl (by kernel_rfl) (by kernel_rfl) (by kernel_rfl) (fun _ _ _ h => h) (yieldsIf_load_mid (by rfl) _ _ rfl _ _ rfl _ _ (fun W hW => range_below hro hW) huk (by rfl) hio) (by assumption) ?_
        try simp only [List.getElem_toArray, List.getElem_cons_succ, List.getElem_cons_zero, Act.put, List.setIfInBounds_toArray, List.set_cons_zero, List.set_cons_succ]
        refine wpAnyH_take (i := 9) (v := ?_) rfl (by kernel_rfl) (by kernel_rfl) (by kernel_rfl) (fun _ _ _ h => h) (Or.inl ⟨by rfl, ?_⟩) (by assumption) ?_
        rotate_left
        · intro w hSw; go_simp; try (with_reducible rfl)
        try simp only [List.getElem_toArray, List.getElem_cons_succ, List.getElem_cons_zero, Act.put, List.setIfInBounds_toArray, List.set_cons_zero, List.set_cons_succ]
        refine wpAnyH_take (i := 10) (v := ?_) rfl (by kernel_rfl) (by kernel_rfl) (by kernel_rfl) (fun _ _ _ h => h) (Or.inl ⟨by rfl, ?_⟩) (by assumption) ?_
        rotate_left
        · intro w hSw; go_simp; try (with_reducible rfl)
        try simp only [List.getElem_toArray, List.getElem_cons_succ, List.getElem_cons_zero, Act.put, List.setIfInBounds_toArray, List.set_cons_zero, List.set_cons_succ]
        refine wpAnyH_take (i := 11) (v := ?_) rfl (by kernel_rfl) (by kernel_rfl) (by kernel_rfl) (fun _ _ _ h => h) (Or.inl ⟨by rfl, ?_⟩) (by assumption) ?_
        rotate_left
        · intro w hSw; go_simp; try (with_reducible rfl)
        try simp only [List.getElem_toArray, List.getElem_cons_succ, List.getElem_cons_zero, Act.put, List.setIfInBounds_toArray, List.set_cons_zero, List.set_cons_succ]
        refine' wpAnyH_take (i := 12) (v := _) rfl (by kernel_rfl) (by kernel_rfl) (by kernel_rfl) (fun _ _ _ h => h) (yieldsIf_load_mid (by rfl) _ _ rfl _ _ rfl _ _ (fun W hW => range_below hra hW) hu (by rfl) hia) (by assumption) ?_
        try simp only [List.getElem_toArray, List.getElem_cons_succ, List.getElem_cons_zero, Act.put, List.setIfInBounds_toArray, List.set_cons_zero, List.set_cons_succ]
        refine wpAnyH_take (i := 13) (v := ?_) rfl (by kernel_rfl) (by kernel_rfl) (by kernel_rfl) (fun _ _ _ h => h) (Or.inl ⟨by rfl, ?_⟩) (by assumption) ?_
        rotate_left
        · intro w hSw; go_simp; try (with_reducible rfl)
        try simp only [List.getElem_toArray, List.getElem_cons_succ, List.getElem_cons_zero, Act.put, List.setIfInBounds_toArray, List.set_cons_zero, List.set_cons_succ]
        refine wpAnyH_take (i := 14) (v := ?_) rfl (by kernel_rfl) (by kernel_rfl) (by kernel_rfl) (fun _ _ _ h => h) (Or.inl ⟨by rfl, ?_⟩) (by assumption) ?_
        rotate_left
        · intro w hSw; go_simp; try (with_reducible rfl)
        try simp only [List.getElem_toArray, List.getElem_cons_succ, List.getElem_cons_zero, Act.put, List.setIfInBounds_toArray, List.set_cons_zero, List.set_cons_succ]
        refine wpAnyH_take (i := 15) (v := ?_) rfl (by kernel_rfl) (by kernel_rfl) (by kernel_rfl) (fun _ _ _ h => h) (Or.inl ⟨by rfl, ?_⟩) (by assumption) ?_
        rotate_left
        · intro w hSw; go_simp; try (with_reducible rfl)
        try simp only [List.getElem_toArray, List.getElem_cons_succ, List.getElem_cons_zero, Act.put, List.setIfInBounds_toArray, List.set_cons_zero, List.set_cons_succ]
        refine' wpAnyH_take (i := 16) (v := _) rfl (by kernel_rfl) (by kernel_rfl) (by kernel_rfl) (fun _ _ _ h => h) (yieldsIf_load_mid (by rfl) _ _ rfl _ _ rfl _ _ (fun W hW => range_below hrb hW) hu (by rfl) hib) (by assumption) ?_
        try simp only [List.getElem_toArray, List.getElem_cons_succ, List.getElem_cons_zero, Act.put, List.setIfInBounds_toArray, List.set_cons_zero, List.set_cons_succ]
        refine wpAnyH_take (i := 17) (v := ?_) rfl (by kernel_rfl) (by kernel_rfl) (by kernel_rfl) (fun _ _ _ h => h) (Or.inl ⟨by rfl, ?_⟩) (by assumption) ?_
        rotate_left
        · intro w hSw; go_simp; try (with_reducible rfl)
        try simp only [List.getElem_toArray, List.getElem_cons_succ, List.getElem_cons_zero, Act.put, List.setIfInBounds_toArray, List.set_cons_zero, List.set_cons_succ]
        refine wpAnyH_take (i := 18) (v := ?_) rfl (by kernel_rfl) (by kernel_rfl) (by kernel_rfl) (fun _ _ _ h => h) (Or.inl ⟨by rfl, ?_⟩) (by assumption) ?_
        rotate_left
        · intro w hSw; go_simp; try (with_reducible rfl)
        try simp only [List.getElem_toArray, List.getElem_cons_succ, List.getElem_cons_zero, Act.put, List.setIfInBounds_toArray, List.set_cons_zero, List.set_cons_succ]
        refine wpAnyH_take (i := 19) (v := ?_) rfl (by kernel_rfl) (by kernel_rfl) (by kernel_rfl) (fun _ _ _ h => h) (Or.inl ⟨by rfl, ?_⟩) (by assumption) ?_
        rotate_left
        · intro w hSw; go_simp; try (with_reducible rfl)
        try simp only [List.getElem_toArray, List.getElem_cons_succ, List.getElem_cons_zero, Act.put, List.setIfInBounds_toArray, List.set_cons_zero, List.set_cons_succ]
        refine wpAnyH_ready (rs := [20]) (by kernel_rfl) (by simp) ?_
        refine AllReadyH.cons (o := _) rfl (fun K hK => ?_) ?_
        · simp only [List.getElem_toArray, List.getElem_cons_succ, List.getElem_cons_zero]
          go_simp
          go_at_call 15
          refine Calls.mono (HTC.out _ _ rfl) ?_
          rintro e w4 ⟨rfl, hb4⟩
          refine hK.out _ _ ?_ (fun hHeld => ?_)
          · exact (Below.refl _ _).drew.trans hb4
          clear hK K
          try simp only [Act.put, List.setIfInBounds_toArray, List.set_cons_zero, List.set_cons_succ]
          refine wpAnyH_ready (rs := [21]) (by kernel_rfl) (by simp) ?_
          refine AllReadyH.cons (o := _) rfl (fun K hK => ?_) ?_
          · simp only [List.getElem_toArray, List.getElem_cons_succ, List.getElem_cons_zero]
            rw [if_pos (by rfl)]
            refine wp_shares3 (.tmp 65) (.tmp 69) (.tmp 82) (by rfl) la lb lc (by rfl) (by rfl) (by rfl) HLA.out HLB.out HLC.out ?_
            refine hK.out _ _ ?_ (fun hHeld => ?_)
            · exact ((Below.refl _ _).drew.trans hb4).alloc hb4.size _
            clear hK K
            try simp only [Act.put, List.setIfInBounds_toArray, List.set_cons_zero, List.set_cons_succ]
            refine wpAnyH_take (i := 22) (v := ?_) rfl (by kernel_rfl) (by kernel_rfl) (by kernel_rfl) (fun _ _ _ h => h) (Or.inl ⟨by rfl, ?_⟩) (by assumption) ?_
            rotate_left
            · intro w hSw; go_simp; try (with_reducible rfl)
            try simp only [List.getElem_toArray, List.getElem_cons_succ, List.getElem_cons_zero, Act.put, List.setIfInBounds_toArray, List.set_cons_zero, List.set_cons_succ]
            refine wpAnyH_done (by kernel_rfl) ?_ _
            refine NoPanic.normal ?_
            have hE : Below wr.heap.size wr (w4.alloc (.cells (vals (la ++ (lb ++ lc))).toArray 34)) := ((Below.refl _ _).drew.trans hb4).alloc hb4.size _
            refine world_gen (fun W' => FI w W' o la lb lc g (ia * 33) (ib * 33) w4.heap.size) ⟨(hE.block _ (lt_of_block BX2.out)).trans BX2.out, range_below hra hE, range_below hrb hE, by have := hE.size; have := HGL.out; omega, heap_at _ _ _ rfl, HB2.out.trans (hE.mono HB2.out.size)⟩ (fun W5 hI => ?_)
            have HI := Lib.hid hI
            clear hI hE hHeld hb4 hra hrb hro hu huk hia hib hio tx t0 HTC BX2 HB2 HGL
            generalize w4.heap.size = g3 at *
            have hmk : ∀ W : World, (Instr.makeSlice 32 (.int .i64 64) (.int .i64 64)).run Try.prog W = .ok (.slice (some ⟨W.heap.size, 0, none⟩) 64 64) (W.alloc (.cells (vals (List.replicate 64 0)).toArray 5)) := bytes_make 64 (by omega)
            change ∀ W : World, (Instr.makeSlice 32 (.int .i64 64) (.int .i64 64)).run Try.prog W = .ok (.slice (some ⟨W.heap.size, 0, none⟩) 64 64) (W.alloc (.cells (vals (zs 64)).toArray 5)) at hmk
            go_wp2_with fail
            have H0 : Hid (FM w (W5.alloc (.cells (vals (zs 64)).toArray 5)) o la lb lc g (ia * 33) (ib * 33) g3 W5.heap.size (zs 64)) :=
              ⟨HI.out.below ((Below.refl _ _).alloc (Nat.le_refl _) _) (lt_of_block HI.out.bo) HI.out.lt (lt_of_block HI.out.t3), heap_at _ _ _ rfl, lt_of_block HI.out.bo, HI.out.lt, lt_of_block HI.out.t3⟩
            clear HI hmk
            generalize W5.alloc (.cells (vals (zs 64)).toArray 5) = W6 at *
            generalize W5.heap.size = gm at *
            have HCO : Hid (∀ (j : Nat) (W : World), j < 32 → W.heap[g3]? = some (.cells (vals (la ++ (lb ++ lc))).toArray 34 (0, 0)) → Calls Try.prog 16 #[.slice (some ⟨g3, 0, none⟩) 3 3, .agg (vals o).toArray, .int .i64 j] W fun e w' => e = .returned (.tuple #[.int .u8 (u (coef [la, lb, lc] o j).1), .int .u8 (u (coef [la, lb, lc] o j).2)]) ∧ Below W.heap.size W w') := fun j W hj h =>
              Coef_c (some ⟨g3, 0, none⟩) 3 3 [la, lb, lc] o j W rfl rfl (shs_of_block _ (by simp [HLA.out, HLB.out, HLC.out]) (by simpa using h)) HO.out hj
            have HCF : Hid (coef [la, lb, lc] o = coef [la, lb, lc] o) := rfl
            generalize coef [la, lb, lc] o = cf at *
            go_loopw [19] (fun vi W => ∃ (j : Nat) (M : List UInt8), j ≤ 32 ∧ vi = .int .i64 j ∧ Hid (M.length = 64) ∧ Hid (∀ k, k < j → M.getD k 0 = (cf k).1 ∧ M.getD (32 + k) 0 = (cf k).2) ∧ Hid (FM w W o la lb lc g (ia * 33) (ib * 33) g3 gm M)) (fun vi _ => 32 - (intOf vi).toNat)
            case atStart => exact ⟨0, _, Nat.zero_le _, rfl, zs_length _, fun j h => absurd h (by omega), H0⟩
            case round =>
              clear H0
              obtain ⟨j, M, hj, rfl, HML, HMV, HM⟩ := hrel
              by_cases hlt : j < 32
              · have j0 : (0 : Int) ≤ (j : Int) := by omega
                have j1 : (j : Int) < 32 := by omega
                have x3 : IntKind.i64.wrap ((32 : Int) + (j : Int)) = (32 : Int) + (j : Int) := IntWalk.i64_in _ (by omega)
                have HC := Lib.hid (HCO.out j · hlt)
                have HS2 : Hid (∀ k, k < j + 1 → ((M.set j (cf j).1).set (32 + j) (cf j).2).getD k 0 = (cf k).1 ∧ ((M.set j (cf j).1).set (32 + j) (cf j).2).getD (32 + k) 0 = (cf k).2) := noise_step M HML.out cf j hlt HMV.out
                generalize (cf j).1 = cp at *
                generalize (cf j).2 = cq at *
                go_wp2_with (refine wpList_load_row (by rfl) 23 (.tmp 6) (by rfl) (w.heap.size + 1) (by rfl) 23 (vals o).toArray (0, 0) _ HM.out.i.bo Try.underlying23 (by rfl) (by rw [List.size_toArray, vals_length, HO.out]; exact key_size) ?_)
                refine (HC.out _ HM.out.i.t3).mono ?_
                rintro e w7 ⟨rfl, hb7⟩
                have HM2 := Lib.hid (HM.out.below hb7)
                clear hb7 HM HC
                have c1 := cell_byteD HM2.out.m j (by rw [HML.out]; omega)
                have f1 := frozen_of_row w7 gm j _ _ HM2.out.m
                have c2 := cell_byteD (HM2.out.set j cp).m (32 + j) (by rw [List.length_set, HML.out]; omega)
                have f2 := frozen_of_row _ gm (32 + j) _ _ (HM2.out.set j cp).m
                go_wp2_with fail
                go_roundw
                case rel => exact ⟨j + 1, _, by omega, by go_num, by rw [Hid, List.length_set, List.length_set]; exact HML.out, HS2, (HM2.out.set j cp).set (32 + j) cq⟩
                case measure => simp [intOf]; omega
              · obtain rfl : j = 32 := by omega
                have hra2 : row o M ia = la := row_fits o M la ia HLA.out HA0.out (fun i hi => by unfold dat; rw [(HMV.out i hi).1, (HMV.out i hi).2]; exact (HFT.out i hi).1)
                have hrb2 : row o M ib = lb := row_fits o M lb ib HLB.out HB0.out (fun i hi => by unfold dat; rw [(HMV.out i hi).1, (HMV.out i hi).2]; exact (HFT.out i hi).2)
                have HRA := Lib.hid hra2
                have HRB := Lib.hid hrb2
                have cvm := conv64b gm M HML.out wr HM.out.m
                have HMS : Hid (bs (⟨M.toArray⟩ : ByteArray) = M) := by simp [Hid, bs]
                clear hra2 hrb2 HMV HFT HCO HCF HA0 HB0
                generalize (⟨M.toArray⟩ : ByteArray) = mstr at *
                go_wp2_with (refine wpList_load_row (by rfl) 23 (.tmp 6) (by rfl) (w.heap.size + 1) (by rfl) 23 (vals o).toArray (0, 0) _ HM.out.i.bo Try.underlying23 (by rfl) (by rw [List.size_toArray, vals_length, HO.out]; exact key_size) ?_)
                refine (Split_g _ _ _ o M 5 _ (by rfl) (by rfl) HMS.out HO.out (by omega) (by omega) HML.out).mono ?_
                rintro e w8 ⟨rfl, hf, hb8⟩
                have HM8 := Lib.hid (HM.out.below hb8)
                have hsh := hf.shs
                obtain ⟨_, _, e1, hqa, -⟩ := hsh.at_ ia (by rw [rows_length]; exact HIA.out)
                cases e1
                obtain ⟨_, _, e2, hqb, -⟩ := hsh.at_ ib (by rw [rows_length]; exact HIB.out)
                cases e2
                rw [rows_get o M 5 ia HIA.out, Nat.zero_add, HRA.out] at hqa
                rw [rows_get o M 5 ib HIB.out, Nat.zero_add, HRB.out] at hqb
                clear hsh hf hb8 HM cvm
                generalize wr.heap.size + 1 = g2 at *
                have k1 := fun n : Nat => shareLoad_range (W := w8.drewN n) hqa HLA.out
                have k2 := fun n : Nat => shareLoad_range (W := w8.drewN n) hqb HLB.out
                have k3 := fun n : Nat => shareLoad_range (W := w8.drewN n) HM8.out.i.ra HLA.out
                have k4 := fun n : Nat => shareLoad_range (W := w8.drewN n) HM8.out.i.rb HLB.out
                have q1 := fun W : World => share_eql la la HLA.out HLA.out W
                have q2 := fun W : World => share_eql lb lb HLB.out HLB.out W
                rw [show decide (la = la) = true from by simp] at q1
                rw [show decide (lb = lb) = true from by simp] at q2
                clear hqa hqb
                go_wp2_with fail
                go_quiet (fail)
                go_wp2
                go_ret
                exact ⟨ret_bool (by simp), below_drewN HM8.out.i.b _⟩
          exact AllReadyH.nil
        exact AllReadyH.nil

theorem ShareFits_any (v : Value) (h : IsArr 32 v) (v' : Value) (h' : IsArr 32 v') (y : Value) (hy : IsArr 64 y) (n : Int) (hn : (Lit.int .u8 n).wf = true) (m : Int) (hm : (Lit.int .u8 m).wf = true) (w : World) :
    Calls Try.prog 4 #[v, v', y, .int .u8 n, .int .u8 m] w fun e w' => e = .returned (.bool true) ∧ Below w.heap.size w w' := by
  obtain ⟨s, hs, rfl⟩ := h
  obtain ⟨o, ho, rfl⟩ := h'
  obtain ⟨z, hz, rfl⟩ := hy
  obtain ⟨p, rfl⟩ := u_wf hn
  obtain ⟨q, rfl⟩ := u_wf hm
  exact ShareFits_w s o z p q w hs ho hz

end Go.Proofs.Ytffmnldhklejcaa
