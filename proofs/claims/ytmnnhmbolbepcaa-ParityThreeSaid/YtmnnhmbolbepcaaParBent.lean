/- The walk of ParityBent. -/
import Derived.Test.YtmnnhmbolbepcaaParBentLaw
import Derived.Test.YtmnnhmbolbepcaaParJoins
namespace Go.Proofs.Ytmnnhmbolbepcaa
open Go.RowKit
set_option linter.unusedSimpArgs false

theorem wrap_u (c : UInt8) : IntKind.i64.wrap (u c) = u c := IntWalk.i64_in _ (by have := u_lo c; have := u_hi c; omega)
theorem w64u (c : UInt8) : wrap64 (u c) = u c := by have := u_lo c; have := u_hi c; unfold wrap64; omega
theorem tm5 (c : UInt8) : (u c).tmod 5 = ((c.toNat % 5 : Nat) : Int) := by rw [Int.tmod_eq_emod_of_nonneg (u_lo c)]; rfl
theorem range_below {W W' : World} {g o : Nat} {cs : List Value} (h : W.rangeAt g o cs) (hb : Below W.heap.size W W') : W'.rangeAt g o cs := fun j v hv => by
  have hc := h j v hv
  rw [hb.cell (lt_of_cell (by rw [hc]; rfl))]
  exact hc
theorem part_range {W : World} {b o : Nat} {p : Pt} (h1 : W.cell? ⟨b, o, none⟩ = some (.int .i64 p.1)) (h2 : W.cell? ⟨b, o + 1, none⟩ = some (.string p.2)) : W.rangeAt b o (pc p) := fun j v hv => by
  match j, hv with
  | 0, hv => cases hv; exact h1
  | 1, hv => cases hv; exact h2

theorem Pts.one0 {W : World} {g : Nat} {p : Pt} (h : Pts W (some ⟨g, 0, none⟩) [p]) : W.cell? ⟨g, 0, none⟩ = some (.int .i64 p.1) := by
  obtain ⟨b, o, e, h1⟩ := h (by simp)
  injection e with e
  injection e with e1 e2
  subst e1; subst e2
  exact (h1 0 Nat.zero_lt_one).1
theorem Pts.one1 {W : World} {g : Nat} {p : Pt} (h : Pts W (some ⟨g, 0, none⟩) [p]) : W.cell? ⟨g, 1, none⟩ = some (.string p.2) := by
  obtain ⟨b, o, e, h1⟩ := h (by simp)
  injection e with e
  injection e with e1 e2
  subst e1; subst e2
  exact (h1 0 Nat.zero_lt_one).2
theorem w64n (n : Nat) (h : n ≤ 100000) : wrap64 (n : Int) = (n : Int) := by unfold wrap64; omega
theorem tmodn (a n : Nat) : (a : Int).tmod (n : Int) = ((a % n : Nat) : Int) := by rw [Int.tmod_eq_emod_of_nonneg (by omega)]; rfl
theorem i64n (n : Nat) (h : n ≤ 100000) : IntKind.i64.wrap (n : Int) = (n : Int) := IntWalk.i64_in _ (by omega)
theorem r255 (c : UInt8) : (u c).tmod 255 = ((c.toNat % 255 : Nat) : Int) := by rw [Int.tmod_eq_emod_of_nonneg (u_lo c)]; rfl
theorem d255 (r : Nat) (h : r < 255) : IntKind.u8.wrap ((1 : Int) + (r : Int)) = u (UInt8.ofNat (r + 1)) ∧ UInt8.ofNat (r + 1) ≠ 0 := by
  refine ⟨?_, fun e => ?_⟩
  · rw [IntKind.wrap_u8]; unfold u; rw [UInt8.toNat_ofNat']; omega
  · have := congrArg UInt8.toNat e
    rw [UInt8.toNat_ofNat'] at this
    have e2 : (r + 1) % 256 = 0 := this
    omega
theorem bytes_frozen (W : World) (t : TypeId) (s : ByteArray) (i : Nat) (hi : i < s.size) : (Lib.bytesWorld W t s).frozen? ⟨W.heap.size, i, none⟩ = false := by
  simp [World.frozen?, Lib.bytesWorld_at_new, Lib.bytesCells]; omega
theorem bent_ne (a d : UInt8) (h : d ≠ 0) : a ^^^ d ≠ a := fun e => h (by
  have h2 : a ^^^ (a ^^^ d) = a ^^^ a := by rw [e]
  rw [← UInt8.xor_assoc, UInt8.xor_self, UInt8.zero_xor] at h2
  exact h2)
theorem five_idx (k d : Nat) (hk : k < 5) (hd : d < 5) : ∃ a : Nat, a = (k + d) % 5 ∧ a < 5 ∧ (0 : Int) ≤ (a : Int) ∧ (a : Int) < 5 ∧ wrap64 ((k : Int) + (d : Int)) = (k : Int) + (d : Int) ∧ IntKind.i64.wrap ((k : Int) + (d : Int)) = (k : Int) + (d : Int) ∧ ((k : Int) + (d : Int)).tmod 5 = (a : Int) ∧ ((k : Int) + (d : Int)) % 5 = (a : Int) := by
  have e : (k : Int) + (d : Int) = ((k + d : Nat) : Int) := (Int.natCast_add k d).symm
  refine ⟨(k + d) % 5, rfl, Nat.mod_lt _ (by decide), Int.natCast_nonneg _, Int.ofNat_lt.2 (Nat.mod_lt _ (by decide)), ?_, ?_, ?_, ?_⟩
  · rw [e]; exact w64n _ (by omega)
  · rw [e]; exact i64n _ (by omega)
  · rw [e]; exact tmodn _ 5
  · rw [e]; rfl
theorem five_ne (k : Nat) (hk : k < 5) : (k + 1) % 5 ≠ k ∧ (k + 1) % 5 ≠ (k + 2) % 5 ∧ k ≠ (k + 2) % 5 ∧ (k + 3) % 5 ≠ (k + 1) % 5 ∧ (k + 3) % 5 ≠ (k + 4) % 5 ∧ (k + 1) % 5 ≠ (k + 4) % 5 := by
  match k, hk with
  | 0, _ => decide
  | 1, _ => decide
  | 2, _ => decide
  | 3, _ => decide
  | 4, _ => decide
theorem rows_three (N : Nat) : rowsN (3 * N) = N := by unfold rowsN; omega

set_option maxRecDepth 100000 in
set_option maxHeartbeats 4000000 in
theorem ParityBent_go (S : ByteArray) (P0 P1 : UInt8) (at_ : Nat) (w : World) (N : Nat) (h3 : S.size = 3 * N) (hN1 : 1 ≤ N) (hN2 : N ≤ 1000) (hat : at_ < 65536) :
    Calls Try.prog 8 #[.string S, .agg (vals [P0, P1]).toArray, .int .u16 (at_ : Int)] w fun e w' => e = .returned (.bool true) ∧ Below w.heap.size w w' := by
  obtain ⟨k, hk⟩ : ∃ k : Nat, k = P0.toNat % 5 := ⟨_, rfl⟩
  have lk : k < 5 := by rw [hk]; exact Nat.mod_lt _ (by decide)
  have tk : (u P0).tmod 5 = (k : Int) := by rw [hk]; exact tm5 P0
  have TK := Lib.hid tk
  have LK := Lib.hid lk
  obtain ⟨m, hm⟩ : ∃ m : Nat, m = S.size := ⟨_, rfl⟩
  have hms : S.size = m := hm.symm
  have hm3 : m = 3 * N := by rw [hm, h3]
  have g1 : decide ((3000 : Int) < (m : Int)) = false := by simp; omega
  have g2 : ((m : Int) == 0) = false := by simp; omega
  have g3 : (m : Int).tmod 3 = 0 := by rw [Int.tmod_eq_emod_of_nonneg (by omega)]; omega
  have g4 : (m : Int).tdiv 3 = (N : Int) := by rw [Int.tdiv_eq_ediv_of_nonneg (by omega)]; omega
  have g5 : (m : Int) % 3 = 0 := by omega
  have g6 : (m : Int) / 3 = (N : Int) := by omega
  have HM3 := Lib.hid hm3
  have HS := Lib.hid hms
  have HN1 := Lib.hid hN1
  have HN2 := Lib.hid hN2
  have HAT := Lib.hid hat
  clear hk tk lk hm hm3 h3 hN1 hN2 hat
  go_enter Try.func8, Try.ntmps8
  go_wp2_with fail
  refine (PCut_c S _ (by rw [HS.out]; have := HM3.out; have := HN2.out; omega)).mono ?_
  rintro e w1 ⟨⟨A, cA, rfl, -, -, hp⟩, hb1⟩
  have HB1 : Hid (Below w.heap.size w w1) := ((Below.refl _ _).alloc (Nat.le_refl _) _).trans (hb1.mono (by simp))
  have box : w1.heap[w.heap.size]? = some (.cells (vals [P0, P1]).toArray 42 (0, 0)) := (hb1.block _ (by simp)).trans (heap_at _ _ _ rfl)
  have BOX := Lib.hid box
  obtain ⟨b, o, rfl, hA⟩ := pts_cut hp
  have HA := Lib.hid hA
  have c0 : w1.cell? ⟨w.heap.size, 0, none⟩ = some (.int .u8 (u P0)) := cell_byteD box 0 (by simp)
  have k1 : (wrap64 (u P0)).tmod 5 = (k : Int) := by rw [w64u]; exact TK.out
  have k2 : (IntKind.i64.wrap (u P0)).tmod 5 = (k : Int) := by rw [wrap_u]; exact TK.out
  have kk0 : (0 : Int) ≤ (k : Int) := by omega
  have kk1 : (k : Int) < 5 := by have := LK.out; omega
  obtain ⟨a1, a2⟩ := hA k LK.out
  have hsz : (strP (bs S) k).size = N := by rw [strP_size, bs_length, HS.out, HM3.out]; exact rows_three N
  have s1 : ((N : Int) != (N : Int)) = false := by simp
  have wN : wrap64 (N : Int) = (N : Int) := w64n N (Nat.le_trans HN2.out (by decide))
  have HSZ := Lib.hid hsz
  obtain ⟨bw, cp, hbw⟩ : ∃ (bw : World → World) (cp : World → Nat), ∀ W : World, (convert 9 28 (.string (strP (bs S) k))).run Try.prog W = .ok (.slice (some ⟨W.heap.size, 0, none⟩) (strP (bs S) k).size (cp W)) (bw W) ∧ Below W.heap.size W (bw W) ∧
      (∀ i, i < (strP (bs S) k).size → (bw W).cell? ⟨W.heap.size, i, none⟩ = some (.int .u8 (u ((bs (strP (bs S) k)).getD i 0))) ∧ (bw W).frozen? ⟨W.heap.size, i, none⟩ = false) := ⟨fun W => Lib.bytesWorld W 5 _, fun W => grownCap W _ 0 5, fun W => ⟨str_bytes W _, bytesWorld_below W _, fun i hi => ⟨Lib.bytesWorld_cell W _ _ i hi, bytes_frozen W _ _ i hi⟩⟩⟩
  have hcv := fun W : World => (hbw W).1
  have HBW := Lib.hid (fun W : World => (hbw W).2)
  have HSB : Hid (bs (strP (bs S) k) = partL (bs S) (UInt8.ofNat (k + 1))) := strP_bs _ _
  clear hbw hb1 hp hA box
  generalize strP (bs S) k = SK at *
  rw [hsz] at hcv
  go_wp2_with fail
  have HBQ : Hid (Below w1.heap.size w1 (bw w1)) := (HBW.out w1).1
  have HCQ : Hid (∀ i, i < N → (bw w1).cell? ⟨w1.heap.size, i, none⟩ = some (.int .u8 (u ((bs SK).getD i 0))) ∧ (bw w1).frozen? ⟨w1.heap.size, i, none⟩ = false) := by
    have h := (HBW.out w1).2
    rw [HSZ.out] at h
    exact h
  have HBX : Hid ((bw w1).heap[w.heap.size]? = some (.cells (vals [P0, P1]).toArray 42 (0, 0))) := (HBQ.out.block _ (lt_of_block BOX.out)).trans BOX.out
  have HPA : Hid (∀ i, i < 5 → (bw w1).rangeAt b (o + i * 2) (pc (Pc (bs S) i))) := fun i hi => range_below (part_range (p := Pc (bs S) i) (HA.out i hi).1 (HA.out i hi).2) HBQ.out
  have HBB : Hid (Below w.heap.size w (bw w1)) := HB1.out.trans (HBQ.out.mono HB1.out.size)
  have HGW : Hid (w.heap.size < w1.heap.size) := lt_of_block BOX.out
  have HBG : Hid (b < w1.heap.size) := lt_of_cell (p := ⟨b, o + 0 * 2, none⟩) (by rw [(HA.out 0 (by decide)).1]; rfl)
  clear hcv HBW a1 a2 c0 k1 k2 HA BOX HB1 HBQ TK g1 g2 g3 g5
  generalize bw w1 = W2 at *
  generalize w1.heap.size = g at *
  obtain ⟨j, hj⟩ : ∃ j : Nat, j = at_ % N := ⟨_, rfl⟩
  have lj : j < N := by rw [hj]; exact Nat.mod_lt _ HN1.out
  have ej : ((at_ : Int)).tmod (N : Int) = (j : Int) := by rw [hj]; exact tmodn at_ N
  have ej2 : (IntKind.i64.wrap (at_ : Int)).tmod (N : Int) = (j : Int) := by rw [i64n at_ (Nat.le_trans (Nat.le_of_lt HAT.out) (by decide))]; exact ej
  have ej3 : (wrap64 (at_ : Int)).tmod (N : Int) = (j : Int) := by rw [w64n at_ (Nat.le_trans (Nat.le_of_lt HAT.out) (by decide))]; exact ej
  have LJ := Lib.hid lj
  have j0 : (0 : Int) ≤ (j : Int) := Int.natCast_nonneg j
  have j1 : (j : Int) < (N : Int) := Int.ofNat_lt.2 lj
  have mn : ¬ N = 0 := fun e => by have h := HN1.out; rw [e] at h; exact absurd h (by decide)
  have m0 : (N : Int) ≠ 0 := fun e => mn (Int.ofNat.inj e)
  have m1 : ((N : Int) == 0) = false := by simpa using mn
  obtain ⟨r, hr⟩ : ∃ r : Nat, r = P1.toNat % 255 := ⟨_, rfl⟩
  have lr : r < 255 := by rw [hr]; exact Nat.mod_lt _ (by decide)
  have er : (u P1).tmod 255 = (r : Int) := by rw [hr]; exact r255 P1
  have er2 : u P1 % 255 = (r : Int) := by rw [hr]; rfl
  have ed2 := (d255 r lr).1
  have HD0 := Lib.hid (d255 r lr).2
  have r0 : (0 : Int) ≤ (r : Int) := Int.natCast_nonneg r
  have r1 : (r : Int) < 255 := Int.ofNat_lt.2 lr
  generalize UInt8.ofNat (r + 1) = dd at *
  have xr := xor_u ((bs SK).getD j 0) dd
  obtain ⟨c1, f1⟩ := HCQ.out j lj
  have c2 : W2.cell? ⟨w.heap.size, 1, none⟩ = some (.int .u8 (u P1)) := cell_byteD HBX.out 1 (by simp)
  clear hj lj hr lr
  generalize hold : (bs SK).getD j 0 = old at *
  have HOLD := Lib.hid hold
  clear hold
  have c1' : W2.drew.cell? ⟨g, j, none⟩ = some (.int .u8 (u old)) := c1
  have c2' : W2.drew.cell? ⟨w.heap.size, 1, none⟩ = some (.int .u8 (u P1)) := c2
  have f1' : W2.drew.frozen? ⟨g, j, none⟩ = false := f1
  go_region
  obtain ⟨Z, hZ⟩ : ∃ Z : ByteArray, Z = ⟨((bs SK).set j (old ^^^ dd)).toArray⟩ := ⟨_, rfl⟩
  have lS : (bs SK).length = N := by rw [bs_length]; exact HSZ.out
  have HZS : Hid (Z.size = N) := by
    rw [Hid, hZ]
    show ((bs SK).set j (old ^^^ dd)).toArray.size = N
    rw [List.size_toArray, List.length_set, lS]
  have HZN : Hid ((bs Z).getD j 0 ≠ (partL (bs S) (UInt8.ofNat (k + 1))).getD j 0) := by
    rw [Hid, hZ, bs_mk, getD_set _ _ _ _ (by rw [lS]; exact LJ.out), if_pos rfl, ← HSB.out, HOLD.out]
    exact bent_ne old dd HD0.out
  have hcv3 : (convert 28 9 (.slice (some ⟨g, 0, none⟩) N (cp w1))).run Try.prog (W2.setCell ⟨g, j, none⟩ (.int .u8 (u (old ^^^ dd)))).drew = .ok (.string Z) (W2.setCell ⟨g, j, none⟩ (.int .u8 (u (old ^^^ dd)))).drew := by
    rw [hZ]
    refine str_of_bytes g 0 N (cp w1) _ _ (by rw [List.length_set, lS]) fun i hi => ?_
    have hi2 : i < N := by rw [List.length_set, lS] at hi; exact hi
    rw [Nat.zero_add, List.getElem_set]
    by_cases e : j = i
    · subst e
      rw [if_pos rfl]
      exact World.cell?_setCell_same' _ _ _ (by rw [c1]; rfl)
    · rw [if_neg e]
      refine (World.cell?_setCell_other _ _ _ _ (fun h => ?_)).trans ?_
      · injection h with h1 h2; first | exact e h2.symm | exact e h2
      · rw [(HCQ.out i hi2).1, Gf.getD_eq]
  have HP3 : Hid (∀ i, i < 5 → (W2.setCell ⟨g, j, none⟩ (.int .u8 (u (old ^^^ dd)))).drew.rangeAt b (o + i * 2) (pc (Pc (bs S) i))) := fun i hi q v hv => by
    refine (World.cell?_setCell_other _ _ _ _ (fun h => ?_)).trans (HPA.out i hi q v hv)
    injection h with h1 h2
    have := HBG.out
    omega
  have HB3 : Hid (Below w.heap.size w (W2.setCell ⟨g, j, none⟩ (.int .u8 (u (old ^^^ dd)))).drew) := below_drewN (HBB.out.setCell (p := ⟨g, j, none⟩) (Nat.le_of_lt HGW.out) _) 1
  clear hZ lS c1 c2 c1' c2' f1 f1' xr HOLD HSB HCQ HBB HPA HBX ej ej2 ej3 er er2 ed2 HD0 mn m0 m1 j0 j1 r0 r1 hms g4 g6 hsz
  refine world_gen (fun W' => (convert 28 9 (.slice (some ⟨g, 0, none⟩) N (cp w1))).run Try.prog W' = .ok (.string Z) W' ∧ Hid (∀ i, i < 5 → W'.rangeAt b (o + i * 2) (pc (Pc (bs S) i))) ∧ Hid (Below w.heap.size w W')) ⟨hcv3, HP3, HB3⟩ (fun W3 hW3 => ?_)
  clear hcv3 HP3 HB3
  obtain ⟨hcv3, HP3, HB3⟩ := hW3
  obtain ⟨a, ha, la, a0, a1, aw, ai, at5, am⟩ := five_idx k 1 LK.out (by decide)
  obtain ⟨c, hc, lc, c0, c1, cw, ci, ct5, cm⟩ := five_idx k 2 LK.out (by decide)
  obtain ⟨d, hd, ld, d0, d1, dw, di, dt5, dm⟩ := five_idx k 3 LK.out (by decide)
  obtain ⟨f, hf, lf, f0, f1, fw, fi, ft5, fm⟩ := five_idx k 4 LK.out (by decide)
  have HNE := five_ne k LK.out
  rw [← ha, ← hc, ← hd, ← hf] at HNE
  have HNE := Lib.hid HNE
  have HIA := Lib.hid la
  have HIC := Lib.hid lc
  have HID := Lib.hid ld
  have HIF := Lib.hid lf
  have HS3 : Hid (S.size = 3 * N) := by rw [Hid, HS.out]; exact HM3.out
  have HS6 : Hid (S.size ≤ 65536) := by rw [Hid, HS3.out]; have := HN2.out; omega
  have HJ1 : Hid (∃ T, joinV [Pc (bs S) a, ((k : Int) + 1, Z), Pc (bs S) c] (S.size : Int) = (T, 0) ∧ T ≠ S) := bent_join S HS6.out N HS3.out a k c la LK.out lc HNE.out.1 HNE.out.2.1 HNE.out.2.2.1 Z HZS.out j LJ.out HZN.out
  have HJ2 : Hid (joinV [Pc (bs S) d, Pc (bs S) a, Pc (bs S) f] (S.size : Int) = (S, 0)) := cut_join S HS6.out d a f ld la lf HNE.out.2.2.2.1 HNE.out.2.2.2.2.1 HNE.out.2.2.2.2.2 []
  obtain ⟨T, hT, hTS⟩ := HJ1.out
  have HT := Lib.hid hT
  have HTS := Lib.hid hTS
  have HC1 : Hid (∀ (W : World) (h : Nat) (fr : Nat × Nat), W.heap[h]? = some (.cells (pcells [Pc (bs S) a, ((k : Int) + 1, Z), Pc (bs S) c]).toArray 30 fr) → Calls Try.prog 16 #[.slice (some ⟨h, 0, none⟩) 3 3, .int .i64 (S.size : Int)] W fun e w' => e = .returned (.tuple #[.string T, .int .i64 0]) ∧ Below W.heap.size W w') := fun W h fr hW => by
    have e := PJoin_c (some ⟨h, 0, none⟩) 3 3 [Pc (bs S) a, ((k : Int) + 1, Z), Pc (bs S) c] (S.size : Int) W rfl (by show 3 ≤ 1000000000; decide) (pts_of_block _ hW)
    rw [HT.out] at e
    exact e
  have HC2 : Hid (∀ (W : World) (h : Nat) (fr : Nat × Nat), W.heap[h]? = some (.cells (pcells [Pc (bs S) d, Pc (bs S) a, Pc (bs S) f]).toArray 30 fr) → Calls Try.prog 16 #[.slice (some ⟨h, 0, none⟩) 3 3, .int .i64 (S.size : Int)] W fun e w' => e = .returned (.tuple #[.string S, .int .i64 0]) ∧ Below W.heap.size W w') := fun W h fr hW => by
    have e := PJoin_c (some ⟨h, 0, none⟩) 3 3 [Pc (bs S) d, Pc (bs S) a, Pc (bs S) f] (S.size : Int) W rfl (by show 3 ≤ 1000000000; decide) (pts_of_block _ hW)
    rw [HJ2.out] at e
    exact e
  clear hT hTS ha hc hd hf la lc ld lf HJ1 HJ2 HNE HZN HZS LJ HSZ
  have w1k : wrap64 ((k : Int) + 1) = (k : Int) + 1 := aw
  have i1k : IntKind.i64.wrap ((k : Int) + 1) = (k : Int) + 1 := ai
  obtain ⟨a0, a1, c0, c1, d0, d1, f0, f1, HK2, HK3, HK4, HT1, HK1⟩ : (Hid ((0 : Int) ≤ (a : Int)) ∧ Hid ((a : Int) < 5) ∧ Hid ((0 : Int) ≤ (c : Int)) ∧ Hid ((c : Int) < 5) ∧ Hid ((0 : Int) ≤ (d : Int)) ∧ Hid ((d : Int) < 5) ∧ Hid ((0 : Int) ≤ (f : Int)) ∧ Hid ((f : Int) < 5) ∧
      Hid (wrap64 ((k : Int) + 2) = (k : Int) + 2 ∧ IntKind.i64.wrap ((k : Int) + 2) = (k : Int) + 2 ∧ ((k : Int) + 2).tmod 5 = (c : Int) ∧ ((k : Int) + 2) % 5 = (c : Int)) ∧
      Hid (wrap64 ((k : Int) + 3) = (k : Int) + 3 ∧ IntKind.i64.wrap ((k : Int) + 3) = (k : Int) + 3 ∧ ((k : Int) + 3).tmod 5 = (d : Int) ∧ ((k : Int) + 3) % 5 = (d : Int)) ∧
      Hid (wrap64 ((k : Int) + 4) = (k : Int) + 4 ∧ IntKind.i64.wrap ((k : Int) + 4) = (k : Int) + 4 ∧ ((k : Int) + 4).tmod 5 = (f : Int) ∧ ((k : Int) + 4) % 5 = (f : Int)) ∧
      Hid (((k : Int) + 1).tmod 5 = (a : Int) ∧ ((k : Int) + 1) % 5 = (a : Int)) ∧
      Hid (wrap64 ((k : Int) + 1) = (k : Int) + 1 ∧ IntKind.i64.wrap ((k : Int) + 1) = (k : Int) + 1 ∧ ((k : Int) + 1).tmod 5 = (a : Int) ∧ ((k : Int) + 1) % 5 = (a : Int))) := ⟨a0, a1, c0, c1, d0, d1, f0, f1, ⟨cw, ci, ct5, cm⟩, ⟨dw, di, dt5, dm⟩, ⟨fw, fi, ft5, fm⟩, ⟨at5, am⟩, ⟨aw, ai, at5, am⟩⟩
  clear aw ai cw ci dw di fw fi at5 ct5 dt5 ft5 am cm dm fm
  go_wp2_with fail
  have HB4 : Hid (Below w.heap.size w (W3.alloc (.cells #[.int .i64 ((k : Int) + 1), .string Z] 30))) := HB3.out.alloc HB3.out.size _
  have HP4 : Hid (∀ i, i < 5 → (W3.alloc (.cells #[.int .i64 ((k : Int) + 1), .string Z] 30)).rangeAt b (o + i * 2) (pc (Pc (bs S) i))) := fun i hi => range_below (HP3.out i hi) ((Below.refl _ _).alloc (Nat.le_refl _) _)
  have HZ4 : Hid ((W3.alloc (.cells #[.int .i64 ((k : Int) + 1), .string Z] 30)).rangeAt W3.heap.size 0 (pc ((k : Int) + 1, Z))) := fun q v hv => by
    have hbk : (W3.alloc (.cells #[.int .i64 ((k : Int) + 1), .string Z] 30)).heap[W3.heap.size]? = some (.cells #[.int .i64 ((k : Int) + 1), .string Z] 30 (0, 0)) := heap_at _ _ _ rfl
    match q, hv with
    | 0, hv => cases hv; exact (pts_of_block [((k : Int) + 1, Z)] hbk).one0
    | 1, hv => cases hv; exact (pts_of_block [((k : Int) + 1, Z)] hbk).one1
  clear HB3 HP3 hcv3
  generalize W3.alloc (.cells #[.int .i64 ((k : Int) + 1), .string Z] 30) = W4 at *
  generalize W3.heap.size = h at *
  have hu := Try.underlying30
  have R1 : Hid (W4.rangeAt b (o + a * 2) [.int .i64 ((a : Int) + 1), .string (strP (bs S) a)]) := HP4.out a HIA.out
  have R2 : Hid (W4.rangeAt h 0 [.int .i64 ((k : Int) + 1), .string Z]) := HZ4.out
  have R3 : Hid (W4.rangeAt b (o + c * 2) [.int .i64 ((c : Int) + 1), .string (strP (bs S) c)]) := HP4.out c HIC.out
  refine wp_region_noPanic ?_
  refine wp_region_held_drew (S := fun W => Below W4.heap.size W4 W) (by kernel_rfl) (Below.refl _ _).drew (fun hHeld => ?_)
  obtain ⟨t1k, m1k⟩ := HT1.out
  have b0 := a0.out
  have b1 := a1.out
  refine wpAnyH_take (i := 0) (v := ?_) rfl (by kernel_rfl) (by kernel_rfl) (by kernel_rfl) (fun _ _ _ h => h) (Or.inl ⟨by rfl, ?_⟩) (by assumption) ?_
  rotate_left
  · intro w hSw; go_simp; try (with_reducible rfl)
  try simp only [List.getElem_toArray, List.getElem_cons_succ, List.getElem_cons_zero, Act.put, List.setIfInBounds_toArray, List.set_cons_zero, List.set_cons_succ]
  refine wpAnyH_take (i := 1) (v := ?_) rfl (by kernel_rfl) (by kernel_rfl) (by kernel_rfl) (fun _ _ _ h => h) (Or.inl ⟨by rfl, ?_⟩) (by assumption) ?_
  rotate_left
  · intro w hSw; go_simp; try (with_reducible rfl)
  try simp only [List.getElem_toArray, List.getElem_cons_succ, List.getElem_cons_zero, Act.put, List.setIfInBounds_toArray, List.set_cons_zero, List.set_cons_succ]
  refine wpAnyH_take (i := 2) (v := ?_) rfl (by kernel_rfl) (by kernel_rfl) (by kernel_rfl) (fun _ _ _ h => h) (Or.inl ⟨by rfl, ?_⟩) (by assumption) ?_
  rotate_left
  · intro w hSw; go_simp; try (with_reducible rfl)
  try simp only [List.getElem_toArray, List.getElem_cons_succ, List.getElem_cons_zero, Act.put, List.setIfInBounds_toArray, List.set_cons_zero, List.set_cons_succ]
  refine wpAnyH_take (i := 3) (v := ?_) rfl (by kernel_rfl) (by kernel_rfl) (by kernel_rfl) (fun _ _ _ h => h) (Or.inl ⟨by rfl, ?_⟩) (by assumption) ?_
  rotate_left
  · intro w hSw; go_simp; try (with_reducible rfl)
  try simp only [List.getElem_toArray, List.getElem_cons_succ, List.getElem_cons_zero, Act.put, List.setIfInBounds_toArray, List.set_cons_zero, List.set_cons_succ]
  refine wpAnyH_take (i := 4) (v := ?_) rfl (by kernel_rfl) (by kernel_rfl) (by kernel_rfl) (fun _ _ _ h => h) (Or.inl ⟨by rfl, ?_⟩) (by assumption) ?_
  rotate_left
  · intro w hSw; go_simp; try (with_reducible rfl)
  try simp only [List.getElem_toArray, List.getElem_cons_succ, List.getElem_cons_zero, Act.put, List.setIfInBounds_toArray, List.set_cons_zero, List.set_cons_succ]
  refine' wpAnyH_take (i := 5) (v := _) rfl (by kernel_rfl) (by kernel_rfl) (by kernel_rfl) (fun _ _ _ h => h) (yieldsIf_load_mid (by rfl) _ _ rfl _ _ rfl _ _ (fun W hW => range_below R1.out hW) hu (by rfl) part_size) (by assumption) ?_
  try simp only [List.getElem_toArray, List.getElem_cons_succ, List.getElem_cons_zero, Act.put, List.setIfInBounds_toArray, List.set_cons_zero, List.set_cons_succ]
  refine' wpAnyH_take (i := 6) (v := _) rfl (by kernel_rfl) (by kernel_rfl) (by kernel_rfl) (fun _ _ _ h => h) (yieldsIf_load_mid (by rfl) _ _ rfl _ _ rfl _ _ (fun W hW => range_below R2.out hW) hu (by rfl) part_size) (by assumption) ?_
  try simp only [List.getElem_toArray, List.getElem_cons_succ, List.getElem_cons_zero, Act.put, List.setIfInBounds_toArray, List.set_cons_zero, List.set_cons_succ]
  clear t1k m1k b0 b1
  obtain ⟨w2k, i2k, t2k, m2k⟩ := HK2.out
  have b0 := c0.out
  have b1 := c1.out
  refine wpAnyH_take (i := 7) (v := ?_) rfl (by kernel_rfl) (by kernel_rfl) (by kernel_rfl) (fun _ _ _ h => h) (Or.inl ⟨by rfl, ?_⟩) (by assumption) ?_
  rotate_left
  · intro w hSw; go_simp; try (with_reducible rfl)
  try simp only [List.getElem_toArray, List.getElem_cons_succ, List.getElem_cons_zero, Act.put, List.setIfInBounds_toArray, List.set_cons_zero, List.set_cons_succ]
  refine wpAnyH_take (i := 8) (v := ?_) rfl (by kernel_rfl) (by kernel_rfl) (by kernel_rfl) (fun _ _ _ h => h) (Or.inl ⟨by rfl, ?_⟩) (by assumption) ?_
  rotate_left
  · intro w hSw; go_simp; try (with_reducible rfl)
  try simp only [List.getElem_toArray, List.getElem_cons_succ, List.getElem_cons_zero, Act.put, List.setIfInBounds_toArray, List.set_cons_zero, List.set_cons_succ]
  refine wpAnyH_take (i := 9) (v := ?_) rfl (by kernel_rfl) (by kernel_rfl) (by kernel_rfl) (fun _ _ _ h => h) (Or.inl ⟨by rfl, ?_⟩) (by assumption) ?_
  rotate_left
  · intro w hSw; go_simp; try (with_reducible rfl)
  try simp only [List.getElem_toArray, List.getElem_cons_succ, List.getElem_cons_zero, Act.put, List.setIfInBounds_toArray, List.set_cons_zero, List.set_cons_succ]
  refine wpAnyH_take (i := 10) (v := ?_) rfl (by kernel_rfl) (by kernel_rfl) (by kernel_rfl) (fun _ _ _ h => h) (Or.inl ⟨by rfl, ?_⟩) (by assumption) ?_
  rotate_left
  · intro w hSw; go_simp; try (with_reducible rfl)
  try simp only [List.getElem_toArray, List.getElem_cons_succ, List.getElem_cons_zero, Act.put, List.setIfInBounds_toArray, List.set_cons_zero, List.set_cons_succ]
  refine wpAnyH_take (i := 11) (v := ?_) rfl (by kernel_rfl) (by kernel_rfl) (by kernel_rfl) (fun _ _ _ h => h) (Or.inl ⟨by rfl, ?_⟩) (by assumption) ?_
  rotate_left
  · intro w hSw; go_simp; try (with_reducible rfl)
  try simp only [List.getElem_toArray, List.getElem_cons_succ, List.getElem_cons_zero, Act.put, List.setIfInBounds_toArray, List.set_cons_zero, List.set_cons_succ]
  refine' wpAnyH_take (i := 12) (v := _) rfl (by kernel_rfl) (by kernel_rfl) (by kernel_rfl) (fun _ _ _ h => h) (yieldsIf_load_mid (by rfl) _ _ rfl _ _ rfl _ _ (fun W hW => range_below R3.out hW) hu (by rfl) part_size) (by assumption) ?_
  try simp only [List.getElem_toArray, List.getElem_cons_succ, List.getElem_cons_zero, Act.put, List.setIfInBounds_toArray, List.set_cons_zero, List.set_cons_succ]
  refine wpAnyH_take (i := 14) (v := ?_) rfl (by kernel_rfl) (by kernel_rfl) (by kernel_rfl) (fun _ _ _ h => h) (Or.inl ⟨by rfl, ?_⟩) (by assumption) ?_
  rotate_left
  · intro w hSw; go_simp; try (with_reducible rfl)
  try simp only [List.getElem_toArray, List.getElem_cons_succ, List.getElem_cons_zero, Act.put, List.setIfInBounds_toArray, List.set_cons_zero, List.set_cons_succ]
  refine wpAnyH_take (i := 15) (v := ?_) rfl (by kernel_rfl) (by kernel_rfl) (by kernel_rfl) (fun _ _ _ h => h) (Or.inl ⟨by rfl, ?_⟩) (by assumption) ?_
  rotate_left
  · intro w hSw; go_simp; try (with_reducible rfl)
  try simp only [List.getElem_toArray, List.getElem_cons_succ, List.getElem_cons_zero, Act.put, List.setIfInBounds_toArray, List.set_cons_zero, List.set_cons_succ]
  refine wpAnyH_ready (rs := [13]) (by kernel_rfl) (by simp) ?_
  refine AllReadyH.cons (o := _) rfl (fun K hK => ?_) ?_
  · simp only [List.getElem_toArray, List.getElem_cons_succ, List.getElem_cons_zero]
    go_simp
    refine hK.out _ _ ?_ (fun hHeld => ?_)
    · exact (Below.refl _ _).drew.alloc (Nat.le_refl _) _
    clear hK K
    try simp only [Act.put, List.setIfInBounds_toArray, List.set_cons_zero, List.set_cons_succ]
    refine wpAnyH_ready (rs := [16]) (by kernel_rfl) (by simp) ?_
    refine AllReadyH.cons (o := _) rfl (fun K hK => ?_) ?_
    · simp only [List.getElem_toArray, List.getElem_cons_succ, List.getElem_cons_zero]
      go_simp
      go_at_call 16
      refine Calls.mono (HC1.out _ _ (0, 0) ?_) ?_
      · exact (heap_at _ _ _ rfl)
      rintro e w5 ⟨rfl, hb5⟩
      refine hK.out _ _ ?_ (fun hHeld => ?_)
      · exact ((Below.refl _ _).drew.alloc (Nat.le_refl _) _).trans (hb5.mono (by first | (simp; done) | (simp; omega)))
      clear hK K
      try simp only [Act.put, List.setIfInBounds_toArray, List.set_cons_zero, List.set_cons_succ]
      refine wpAnyH_take (i := 17) (v := ?_) rfl (by kernel_rfl) (by kernel_rfl) (by kernel_rfl) (fun _ _ _ h => h) (Or.inl ⟨by rfl, ?_⟩) (by assumption) ?_
      rotate_left
      · intro w hSw; go_simp; try (with_reducible rfl)
      try simp only [List.getElem_toArray, List.getElem_cons_succ, List.getElem_cons_zero, Act.put, List.setIfInBounds_toArray, List.set_cons_zero, List.set_cons_succ]
      refine wpAnyH_take (i := 18) (v := ?_) rfl (by kernel_rfl) (by kernel_rfl) (by kernel_rfl) (fun _ _ _ h => h) (Or.inl ⟨by rfl, ?_⟩) (by assumption) ?_
      rotate_left
      · intro w hSw; go_simp; try (with_reducible rfl)
      try simp only [List.getElem_toArray, List.getElem_cons_succ, List.getElem_cons_zero, Act.put, List.setIfInBounds_toArray, List.set_cons_zero, List.set_cons_succ]
      refine wpAnyH_take (i := 19) (v := ?_) rfl (by kernel_rfl) (by kernel_rfl) (by kernel_rfl) (fun _ _ _ h => h) (Or.inl ⟨by rfl, ?_⟩) (by assumption) ?_
      rotate_left
      · intro w hSw; go_simp; try (with_reducible rfl)
      try simp only [List.getElem_toArray, List.getElem_cons_succ, List.getElem_cons_zero, Act.put, List.setIfInBounds_toArray, List.set_cons_zero, List.set_cons_succ]
      refine wpAnyH_take (i := 20) (v := ?_) rfl (by kernel_rfl) (by kernel_rfl) (by kernel_rfl) (fun _ _ _ h => h) (Or.inl ⟨by rfl, ?_⟩) (by assumption) ?_
      rotate_left
      · intro w hSw; go_simp; try (with_reducible rfl)
      try simp only [List.getElem_toArray, List.getElem_cons_succ, List.getElem_cons_zero, Act.put, List.setIfInBounds_toArray, List.set_cons_zero, List.set_cons_succ]
      refine wpAnyH_take (i := 21) (v := ?_) rfl (by kernel_rfl) (by kernel_rfl) (by kernel_rfl) (fun _ _ _ h => h) (Or.inl ⟨by rfl, ?_⟩) (by assumption) ?_
      rotate_left
      · intro w hSw; go_simp; try (with_reducible rfl)
      try simp only [List.getElem_toArray, List.getElem_cons_succ, List.getElem_cons_zero, Act.put, List.setIfInBounds_toArray, List.set_cons_zero, List.set_cons_succ]
      refine wpAnyH_done (by kernel_rfl) ?_ _
      refine NoPanic.normal ?_
      have HB5 : Hid (Below W4.heap.size W4 w5) := ((Below.refl _ _).drew.alloc (Nat.le_refl _) _).trans (hb5.mono (by first | (simp; done) | (simp; omega)))
      have R4 : Hid (w5.rangeAt b (o + d * 2) [.int .i64 ((d : Int) + 1), .string (strP (bs S) d)]) := range_below (HP4.out d HID.out) HB5.out
      have R5 : Hid (w5.rangeAt b (o + a * 2) [.int .i64 ((a : Int) + 1), .string (strP (bs S) a)]) := range_below (HP4.out a HIA.out) HB5.out
      have R6 : Hid (w5.rangeAt b (o + f * 2) [.int .i64 ((f : Int) + 1), .string (strP (bs S) f)]) := range_below (HP4.out f HIF.out) HB5.out
      have HB6 : Hid (Below w.heap.size w w5) := HB4.out.trans (HB5.out.mono HB4.out.size)
      clear hb5 HB5 HB4 HP4 HZ4 R1 R2 R3 w1k i1k w2k i2k t2k m2k b0 b1 hHeld
      go_wp2_with fail
      refine wp_region_noPanic ?_
      refine wp_region_held_drew (S := fun W => Below w5.heap.size w5 W) (by kernel_rfl) (Below.refl _ _).drew (fun hHeld => ?_)
      obtain ⟨w3k, i3k, t3k, m3k⟩ := HK3.out
      have b0 := d0.out
      have b1 := d1.out
      refine wpAnyH_take (i := 0) (v := ?_) rfl (by kernel_rfl) (by kernel_rfl) (by kernel_rfl) (fun _ _ _ h => h) (Or.inl ⟨by rfl, ?_⟩) (by assumption) ?_
      rotate_left
      · intro w hSw; go_simp; try (with_reducible rfl)
      try simp only [List.getElem_toArray, List.getElem_cons_succ, List.getElem_cons_zero, Act.put, List.setIfInBounds_toArray, List.set_cons_zero, List.set_cons_succ]
      refine wpAnyH_take (i := 1) (v := ?_) rfl (by kernel_rfl) (by kernel_rfl) (by kernel_rfl) (fun _ _ _ h => h) (Or.inl ⟨by rfl, ?_⟩) (by assumption) ?_
      rotate_left
      · intro w hSw; go_simp; try (with_reducible rfl)
      try simp only [List.getElem_toArray, List.getElem_cons_succ, List.getElem_cons_zero, Act.put, List.setIfInBounds_toArray, List.set_cons_zero, List.set_cons_succ]
      refine wpAnyH_take (i := 2) (v := ?_) rfl (by kernel_rfl) (by kernel_rfl) (by kernel_rfl) (fun _ _ _ h => h) (Or.inl ⟨by rfl, ?_⟩) (by assumption) ?_
      rotate_left
      · intro w hSw; go_simp; try (with_reducible rfl)
      try simp only [List.getElem_toArray, List.getElem_cons_succ, List.getElem_cons_zero, Act.put, List.setIfInBounds_toArray, List.set_cons_zero, List.set_cons_succ]
      refine wpAnyH_take (i := 3) (v := ?_) rfl (by kernel_rfl) (by kernel_rfl) (by kernel_rfl) (fun _ _ _ h => h) (Or.inl ⟨by rfl, ?_⟩) (by assumption) ?_
      rotate_left
      · intro w hSw; go_simp; try (with_reducible rfl)
      try simp only [List.getElem_toArray, List.getElem_cons_succ, List.getElem_cons_zero, Act.put, List.setIfInBounds_toArray, List.set_cons_zero, List.set_cons_succ]
      refine wpAnyH_take (i := 4) (v := ?_) rfl (by kernel_rfl) (by kernel_rfl) (by kernel_rfl) (fun _ _ _ h => h) (Or.inl ⟨by rfl, ?_⟩) (by assumption) ?_
      rotate_left
      · intro w hSw; go_simp; try (with_reducible rfl)
      try simp only [List.getElem_toArray, List.getElem_cons_succ, List.getElem_cons_zero, Act.put, List.setIfInBounds_toArray, List.set_cons_zero, List.set_cons_succ]
      refine' wpAnyH_take (i := 5) (v := _) rfl (by kernel_rfl) (by kernel_rfl) (by kernel_rfl) (fun _ _ _ h => h) (yieldsIf_load_mid (by rfl) _ _ rfl _ _ rfl _ _ (fun W hW => range_below R4.out hW) hu (by rfl) part_size) (by assumption) ?_
      try simp only [List.getElem_toArray, List.getElem_cons_succ, List.getElem_cons_zero, Act.put, List.setIfInBounds_toArray, List.set_cons_zero, List.set_cons_succ]
      clear w3k i3k t3k m3k b0 b1
      obtain ⟨w1k, i1k, t1k, m1k⟩ := HK1.out
      have b0 := a0.out
      have b1 := a1.out
      refine wpAnyH_take (i := 6) (v := ?_) rfl (by kernel_rfl) (by kernel_rfl) (by kernel_rfl) (fun _ _ _ h => h) (Or.inl ⟨by rfl, ?_⟩) (by assumption) ?_
      rotate_left
      · intro w hSw; go_simp; try (with_reducible rfl)
      try simp only [List.getElem_toArray, List.getElem_cons_succ, List.getElem_cons_zero, Act.put, List.setIfInBounds_toArray, List.set_cons_zero, List.set_cons_succ]
      refine wpAnyH_take (i := 7) (v := ?_) rfl (by kernel_rfl) (by kernel_rfl) (by kernel_rfl) (fun _ _ _ h => h) (Or.inl ⟨by rfl, ?_⟩) (by assumption) ?_
      rotate_left
      · intro w hSw; go_simp; try (with_reducible rfl)
      try simp only [List.getElem_toArray, List.getElem_cons_succ, List.getElem_cons_zero, Act.put, List.setIfInBounds_toArray, List.set_cons_zero, List.set_cons_succ]
      refine wpAnyH_take (i := 8) (v := ?_) rfl (by kernel_rfl) (by kernel_rfl) (by kernel_rfl) (fun _ _ _ h => h) (Or.inl ⟨by rfl, ?_⟩) (by assumption) ?_
      rotate_left
      · intro w hSw; go_simp; try (with_reducible rfl)
      try simp only [List.getElem_toArray, List.getElem_cons_succ, List.getElem_cons_zero, Act.put, List.setIfInBounds_toArray, List.set_cons_zero, List.set_cons_succ]
      refine wpAnyH_take (i := 9) (v := ?_) rfl (by kernel_rfl) (by kernel_rfl) (by kernel_rfl) (fun _ _ _ h => h) (Or.inl ⟨by rfl, ?_⟩) (by assumption) ?_
      rotate_left
      · intro w hSw; go_simp; try (with_reducible rfl)
      try simp only [List.getElem_toArray, List.getElem_cons_succ, List.getElem_cons_zero, Act.put, List.setIfInBounds_toArray, List.set_cons_zero, List.set_cons_succ]
      refine wpAnyH_take (i := 10) (v := ?_) rfl (by kernel_rfl) (by kernel_rfl) (by kernel_rfl) (fun _ _ _ h => h) (Or.inl ⟨by rfl, ?_⟩) (by assumption) ?_
      rotate_left
      · intro w hSw; go_simp; try (with_reducible rfl)
      try simp only [List.getElem_toArray, List.getElem_cons_succ, List.getElem_cons_zero, Act.put, List.setIfInBounds_toArray, List.set_cons_zero, List.set_cons_succ]
      refine' wpAnyH_take (i := 11) (v := _) rfl (by kernel_rfl) (by kernel_rfl) (by kernel_rfl) (fun _ _ _ h => h) (yieldsIf_load_mid (by rfl) _ _ rfl _ _ rfl _ _ (fun W hW => range_below R5.out hW) hu (by rfl) part_size) (by assumption) ?_
      try simp only [List.getElem_toArray, List.getElem_cons_succ, List.getElem_cons_zero, Act.put, List.setIfInBounds_toArray, List.set_cons_zero, List.set_cons_succ]
      clear w1k i1k t1k m1k b0 b1
      obtain ⟨w4k, i4k, t4k, m4k⟩ := HK4.out
      have b0 := f0.out
      have b1 := f1.out
      refine wpAnyH_take (i := 12) (v := ?_) rfl (by kernel_rfl) (by kernel_rfl) (by kernel_rfl) (fun _ _ _ h => h) (Or.inl ⟨by rfl, ?_⟩) (by assumption) ?_
      rotate_left
      · intro w hSw; go_simp; try (with_reducible rfl)
      try simp only [List.getElem_toArray, List.getElem_cons_succ, List.getElem_cons_zero, Act.put, List.setIfInBounds_toArray, List.set_cons_zero, List.set_cons_succ]
      refine wpAnyH_take (i := 13) (v := ?_) rfl (by kernel_rfl) (by kernel_rfl) (by kernel_rfl) (fun _ _ _ h => h) (Or.inl ⟨by rfl, ?_⟩) (by assumption) ?_
      rotate_left
      · intro w hSw; go_simp; try (with_reducible rfl)
      try simp only [List.getElem_toArray, List.getElem_cons_succ, List.getElem_cons_zero, Act.put, List.setIfInBounds_toArray, List.set_cons_zero, List.set_cons_succ]
      refine wpAnyH_take (i := 14) (v := ?_) rfl (by kernel_rfl) (by kernel_rfl) (by kernel_rfl) (fun _ _ _ h => h) (Or.inl ⟨by rfl, ?_⟩) (by assumption) ?_
      rotate_left
      · intro w hSw; go_simp; try (with_reducible rfl)
      try simp only [List.getElem_toArray, List.getElem_cons_succ, List.getElem_cons_zero, Act.put, List.setIfInBounds_toArray, List.set_cons_zero, List.set_cons_succ]
      refine wpAnyH_take (i := 15) (v := ?_) rfl (by kernel_rfl) (by kernel_rfl) (by kernel_rfl) (fun _ _ _ h => h) (Or.inl ⟨by rfl, ?_⟩) (by assumption) ?_
      rotate_left
      · intro w hSw; go_simp; try (with_reducible rfl)
      try simp only [List.getElem_toArray, List.getElem_cons_succ, List.getElem_cons_zero, Act.put, List.setIfInBounds_toArray, List.set_cons_zero, List.set_cons_succ]
      refine wpAnyH_take (i := 16) (v := ?_) rfl (by kernel_rfl) (by kernel_rfl) (by kernel_rfl) (fun _ _ _ h => h) (Or.inl ⟨by rfl, ?_⟩) (by assumption) ?_
      rotate_left
      · intro w hSw; go_simp; try (with_reducible rfl)
      try simp only [List.getElem_toArray, List.getElem_cons_succ, List.getElem_cons_zero, Act.put, List.setIfInBounds_toArray, List.set_cons_zero, List.set_cons_succ]
      refine' wpAnyH_take (i := 17) (v := _) rfl (by kernel_rfl) (by kernel_rfl) (by kernel_rfl) (fun _ _ _ h => h) (yieldsIf_load_mid (by rfl) _ _ rfl _ _ rfl _ _ (fun W hW => range_below R6.out hW) hu (by rfl) part_size) (by assumption) ?_
      try simp only [List.getElem_toArray, List.getElem_cons_succ, List.getElem_cons_zero, Act.put, List.setIfInBounds_toArray, List.set_cons_zero, List.set_cons_succ]
      clear w4k i4k t4k m4k b0 b1
      refine wpAnyH_take (i := 19) (v := ?_) rfl (by kernel_rfl) (by kernel_rfl) (by kernel_rfl) (fun _ _ _ h => h) (Or.inl ⟨by rfl, ?_⟩) (by assumption) ?_
      rotate_left
      · intro w hSw; go_simp; try (with_reducible rfl)
      try simp only [List.getElem_toArray, List.getElem_cons_succ, List.getElem_cons_zero, Act.put, List.setIfInBounds_toArray, List.set_cons_zero, List.set_cons_succ]
      refine wpAnyH_take (i := 20) (v := ?_) rfl (by kernel_rfl) (by kernel_rfl) (by kernel_rfl) (fun _ _ _ h => h) (Or.inl ⟨by rfl, ?_⟩) (by assumption) ?_
      rotate_left
      · intro w hSw; go_simp; try (with_reducible rfl)
      try simp only [List.getElem_toArray, List.getElem_cons_succ, List.getElem_cons_zero, Act.put, List.setIfInBounds_toArray, List.set_cons_zero, List.set_cons_succ]
      refine wpAnyH_ready (rs := [18]) (by kernel_rfl) (by simp) ?_
      refine AllReadyH.cons (o := _) rfl (fun K hK => ?_) ?_
      · simp only [List.getElem_toArray, List.getElem_cons_succ, List.getElem_cons_zero]
        go_simp
        refine hK.out _ _ ?_ (fun hHeld => ?_)
        · exact (Below.refl _ _).drew.alloc (Nat.le_refl _) _
        clear hK K
        try simp only [Act.put, List.setIfInBounds_toArray, List.set_cons_zero, List.set_cons_succ]
        refine wpAnyH_ready (rs := [21]) (by kernel_rfl) (by simp) ?_
        refine AllReadyH.cons (o := _) rfl (fun K hK => ?_) ?_
        · simp only [List.getElem_toArray, List.getElem_cons_succ, List.getElem_cons_zero]
          go_simp
          go_at_call 16
          refine Calls.mono (HC2.out _ _ (0, 0) ?_) ?_
          · exact (heap_at _ _ _ rfl)
          rintro e w7 ⟨rfl, hb7⟩
          refine hK.out _ _ ?_ (fun hHeld => ?_)
          · exact ((Below.refl _ _).drew.alloc (Nat.le_refl _) _).trans (hb7.mono (by first | (simp; done) | (simp; omega)))
          clear hK K
          try simp only [Act.put, List.setIfInBounds_toArray, List.set_cons_zero, List.set_cons_succ]
          refine wpAnyH_take (i := 22) (v := ?_) rfl (by kernel_rfl) (by kernel_rfl) (by kernel_rfl) (fun _ _ _ h => h) (Or.inl ⟨by rfl, ?_⟩) (by assumption) ?_
          rotate_left
          · intro w hSw; go_simp; try (with_reducible rfl)
          try simp only [List.getElem_toArray, List.getElem_cons_succ, List.getElem_cons_zero, Act.put, List.setIfInBounds_toArray, List.set_cons_zero, List.set_cons_succ]
          refine wpAnyH_take (i := 23) (v := ?_) rfl (by kernel_rfl) (by kernel_rfl) (by kernel_rfl) (fun _ _ _ h => h) (Or.inl ⟨by rfl, ?_⟩) (by assumption) ?_
          rotate_left
          · intro w hSw; go_simp; try (with_reducible rfl)
          try simp only [List.getElem_toArray, List.getElem_cons_succ, List.getElem_cons_zero, Act.put, List.setIfInBounds_toArray, List.set_cons_zero, List.set_cons_succ]
          refine wpAnyH_take (i := 24) (v := ?_) rfl (by kernel_rfl) (by kernel_rfl) (by kernel_rfl) (fun _ _ _ h => h) (Or.inl ⟨by rfl, ?_⟩) (by assumption) ?_
          rotate_left
          · intro w hSw; go_simp; try (with_reducible rfl)
          try simp only [List.getElem_toArray, List.getElem_cons_succ, List.getElem_cons_zero, Act.put, List.setIfInBounds_toArray, List.set_cons_zero, List.set_cons_succ]
          refine wpAnyH_take (i := 25) (v := ?_) rfl (by kernel_rfl) (by kernel_rfl) (by kernel_rfl) (fun _ _ _ h => h) (Or.inl ⟨by rfl, ?_⟩) (by assumption) ?_
          rotate_left
          · intro w hSw; go_simp; try (with_reducible rfl)
          try simp only [List.getElem_toArray, List.getElem_cons_succ, List.getElem_cons_zero, Act.put, List.setIfInBounds_toArray, List.set_cons_zero, List.set_cons_succ]
          refine wpAnyH_take (i := 26) (v := ?_) rfl (by kernel_rfl) (by kernel_rfl) (by kernel_rfl) (fun _ _ _ h => h) (Or.inl ⟨by rfl, ?_⟩) (by assumption) ?_
          rotate_left
          · intro w hSw; go_simp; try (with_reducible rfl)
          try simp only [List.getElem_toArray, List.getElem_cons_succ, List.getElem_cons_zero, Act.put, List.setIfInBounds_toArray, List.set_cons_zero, List.set_cons_succ]
          refine wpAnyH_done (by kernel_rfl) ?_ _
          refine NoPanic.normal ?_
          have HB7 : Hid (Below w5.heap.size w5 w7) := ((Below.refl _ _).drew.alloc (Nat.le_refl _) _).trans (hb7.mono (by first | (simp; done) | (simp; omega)))
          have HB8 : Hid (Below w.heap.size w w7) := HB6.out.trans (HB7.out.mono HB6.out.size)
          have n1 : ∀ W : World, (binOp .neq 9 (.string T) (.string S)).run Try.prog W = .ok (.bool true) W := fun W => by rw [str_neq, decide_eq_false HTS.out]; rfl
          have n3 : (T.toList == S.toList) = false := by
            rw [beq_eq_false_iff_ne]
            exact fun e => HTS.out ((toList_iff _ _).1 e)
          have n4 : T.toList ≠ S.toList := fun e => HTS.out ((toList_iff _ _).1 e)
          have n2 : ∀ W : World, (binOp .eql 9 (.string S) (.string S)).run Try.prog W = .ok (.bool true) W := fun W => by rw [str_eql, decide_eq_true rfl]
          clear hb7 HB7 HB6 R4 R5 R6 hHeld
          go_wp2_with fail
          refine (Fixed_c _).mono ?_
          rintro e w9 ⟨rfl, hb9⟩
          have HB9 := Lib.hid (HB8.out.trans (hb9.mono HB8.out.size))
          clear hb9
          go_wp2
          go_ret
          exact ⟨rfl, HB9.out⟩
        exact AllReadyH.nil
      exact AllReadyH.nil
    exact AllReadyH.nil
  exact AllReadyH.nil

set_option maxRecDepth 100000 in
set_option maxHeartbeats 1000000 in
theorem ParityBent_out (S : ByteArray) (v : Value) (x : Int) (w : World) (h : 3000 < S.size ∨ S.size = 0 ∨ S.size % 3 ≠ 0) (l : List UInt8) (hvl : v = .agg (vals l).toArray) :
    Calls Try.prog 8 #[.string S, v, .int .u16 x] w fun e w' => e = .returned (.bool true) ∧ Below w.heap.size w w' := by
  subst hvl
  obtain ⟨m, hm⟩ : ∃ m : Nat, m = S.size := ⟨_, rfl⟩
  rw [← hm] at h
  have hms : S.size = m := hm.symm
  clear hm
  by_cases h1 : 3000 < m
  · have g1 : decide ((3000 : Int) < (m : Int)) = true := by simp; omega
    clear h h1
    go_enter Try.func8, Try.ntmps8
    go_wp2_with fail
    refine (Fixed_c _).mono ?_
    rintro e w1 ⟨rfl, hb1⟩
    go_wp2
    go_ret
    exact ⟨rfl, ((Below.refl _ _).alloc (Nat.le_refl _) _).trans (hb1.mono (by simp))⟩
  · have g1 : decide ((3000 : Int) < (m : Int)) = false := by simp; omega
    by_cases h2 : m = 0
    · subst h2
      clear h h1
      go_enter Try.func8, Try.ntmps8
      go_wp2_with fail
      refine (Fixed_c _).mono ?_
      rintro e w1 ⟨rfl, hb1⟩
      go_wp2
      go_ret
      exact ⟨rfl, ((Below.refl _ _).alloc (Nat.le_refl _) _).trans (hb1.mono (by simp))⟩
    · have g2 : ((m : Int) == 0) = false := by simp; omega
      have h3 : m % 3 ≠ 0 := by omega
      have g3 : ((m : Int).tmod 3 != 0) = true := by rw [show (m : Int).tmod 3 = ((m % 3 : Nat) : Int) from tmodn m 3]; simp; omega
      have g5 : ((m : Int) % 3 != 0) = true := by simp; omega
      clear h h1 h2 h3
      go_enter Try.func8, Try.ntmps8
      go_wp2_with fail
      refine (Fixed_c _).mono ?_
      rintro e w1 ⟨rfl, hb1⟩
      go_wp2
      go_ret
      exact ⟨rfl, ((Below.refl _ _).alloc (Nat.le_refl _) _).trans (hb1.mono (by simp))⟩

theorem ParityBent_any (v : Value) (h : ∃ s : ByteArray, v = .string s) (v' : Value) (h' : IsArr 2 v') (n : Int) (hn : (Lit.int .u16 n).wf = true) (w : World) :
    Calls Try.prog 8 #[v, v', .int .u16 n] w fun e w' => e = .returned (.bool true) ∧ Below w.heap.size w w' := by
  obtain ⟨S, rfl⟩ := h
  obtain ⟨l, hl, rfl⟩ := h'
  by_cases h1 : 3000 < S.size ∨ S.size = 0 ∨ S.size % 3 ≠ 0
  · exact ParityBent_out S _ n w h1 l rfl
  · match l, hl with
    | [P0, P1], _ =>
      have hr : 0 ≤ n ∧ n < 65536 := by
        simp [Lit.wf] at hn
        have e1 : IntKind.u16.min = 0 := by kernel_rfl
        have e2 : IntKind.u16.max = 65535 := by kernel_rfl
        omega
      obtain ⟨k, rfl⟩ : ∃ k : Nat, n = (k : Int) := ⟨n.toNat, by omega⟩
      exact ParityBent_go S P0 P1 k w (S.size / 3) (by omega) (by omega) (by omega) (by omega)

end Go.Proofs.Ytmnnhmbolbepcaa
