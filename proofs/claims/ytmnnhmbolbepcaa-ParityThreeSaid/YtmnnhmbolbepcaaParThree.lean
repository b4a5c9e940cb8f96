/- The walk of ParityThree. -/
import Derived.Test.YtmnnhmbolbepcaaParKeep
import Derived.Test.YtmnnhmbolbepcaaParOpen2
namespace Go.Proofs.Ytmnnhmbolbepcaa
open Go.RowKit
set_option linter.unusedSimpArgs false

attribute [local go_sem ↓] partLoad_pre

theorem none_own (A : Option Addr) : ∀ (g : Nat) (ad : Addr), (Value.slice none 0 0).ownBlock = some g → A = some ad → ad.block ≠ g := fun g ad h => by simp [Value.ownBlock] at h
theorem three_less (i : Nat) (h : i < 3) : 3 - (intOf (Value.int IntKind.i64 ((i + 1 : Nat) : Int))).toNat < 3 - (intOf (Value.int IntKind.i64 (i : Int))).toNat := by
  show 3 - ((i + 1 : Nat) : Int).toNat < 3 - ((i : Nat) : Int).toNat
  rw [Int.toNat_natCast, Int.toNat_natCast]
  omega
theorem pick_rem (c : UInt8) (nl : Nat) : (u c).tmod (nl : Int) = ((c.toNat % nl : Nat) : Int) := by rw [Int.tmod_eq_emod_of_nonneg (u_lo c)]; rfl

set_option maxRecDepth 100000 in
set_option maxHeartbeats 4000000 in
theorem ParityThree_go (S : ByteArray) (P0 P1 P2 : UInt8) (B : Option Addr) (LB : List Pt) (cB : Nat) (w : World) (h3 : S.size ≤ 3000) (hlb : LB.length ≤ 10) (hL : Pts w B LB) :
    Calls Try.prog 7 #[.string S, .agg (vals [P0, P1, P2]).toArray, .slice B LB.length cB] w fun e w' => e = .returned (.bool true) ∧ Below w.heap.size w w' := by
  have g1 : decide ((3000 : Int) < (S.size : Int)) = false := by simp; omega
  have g2 : decide ((10 : Int) < (LB.length : Int)) = false := by simp; omega
  have HS6 : Hid (S.size ≤ 65536) := Nat.le_trans h3 (by decide)
  have HS5 := Lib.hid h3
  have HLB := Lib.hid hlb
  have HL := Lib.hid hL
  clear h3 hlb hL
  go_enter Try.func7, Try.ntmps7
  go_wp2_with fail
  refine (PCut_c S _ (by have := HS5.out; omega)).mono ?_
  rintro e w1 ⟨⟨A, cA, rfl, hc5, -, hp⟩, hb1⟩
  have HB1 : Hid (Below w.heap.size w w1) := ((Below.refl _ _).alloc (Nat.le_refl _) _).trans (hb1.mono (by simp))
  have BOX : Hid (w1.heap[w.heap.size]? = some (.cells (vals [P0, P1, P2]).toArray 40 (0, 0))) := (hb1.block _ (by simp)).trans (heap_at _ _ _ rfl)
  have HP0 : Hid (Pts w1 A ([0, 1, 2, 3, 4].map (Pc (bs S)))) := by rw [Hid, ← cut_map]; exact hp
  have HL1 : Hid (Pts w1 B LB) := HL.out.below HB1.out
  have HCA : Hid (5 ≤ cA) := hc5
  clear hc5 hp hb1 HL
  go_wp2_with fail
  go_loopw [7, 8, 29] (fun vl vt vi W => ∃ (i nl : Nat) (acc rem : List Nat) (A : Option Addr) (c : Nat), i ≤ 3 ∧ i + nl = 5 ∧ vl = .slice A nl c ∧ vi = .int .i64 i ∧ Hid (acc.length = i) ∧ Hid (rem.length = nl) ∧ Hid (nl ≤ c) ∧ Hid ((acc ++ rem).Perm [0, 1, 2, 3, 4]) ∧ Hid (Pts W A (rem.map (Pc (bs S)))) ∧
      Hid (OwnP W w1.heap.size vt (acc.map (Pc (bs S)))) ∧ Hid (∀ g ad, vt.ownBlock = some g → A = some ad → ad.block ≠ g) ∧ Hid (Below w1.heap.size w1 W)) (fun _ _ vi _ => 3 - (intOf vi).toNat)
  case atStart => exact ⟨0, 5, [], [0, 1, 2, 3, 4], A, cA, by omega, rfl, rfl, rfl, rfl, rfl, HCA.out, List.Perm.refl _, HP0.out, OwnP.nil _ _, none_own A, Below.refl _ _⟩
  case round =>
    clear HP0 HCA
    obtain ⟨i, nl, acc, rem, A, c, hi, hin, rfl, rfl, HAL, HRL, HC, HPM, HPR, HOT, HNE, HW⟩ := hrel
    by_cases hlt : i < 3
    · have i0 : (0 : Int) ≤ (i : Int) := Int.natCast_nonneg i
      have i1 : (i : Int) < 3 := by omega
      have nl2 : 2 < nl := by omega
      obtain ⟨q, hq⟩ : ∃ q, q = [P0, P1, P2].getD i 0 := ⟨_, rfl⟩
      have c0 : wr.cell? ⟨w.heap.size, i, none⟩ = some (.int .u8 (u q)) := by
        rw [hq]
        exact cell_byteD ((HW.out.block _ (lt_of_block BOX.out)).trans BOX.out) i hlt
      obtain ⟨k, hk⟩ : ∃ k, k = q.toNat % nl := ⟨_, rfl⟩
      have lk : k < nl := by rw [hk]; exact Nat.mod_lt _ (by omega)
      have k1 : (u q).tmod (nl : Int) = (k : Int) := by rw [hk]; exact pick_rem q nl
      have k2 : (wrap64 (u q)).tmod (nl : Int) = (k : Int) := by rw [w64u]; exact k1
      have k3 : (IntKind.i64.wrap (u q)).tmod (nl : Int) = (k : Int) := by rw [wrap_u]; exact k1
      have kk0 : (0 : Int) ≤ (k : Int) := Int.natCast_nonneg k
      have kk1 : (k : Int) < (nl : Int) := Int.ofNat_lt.2 lk
      have mn : ¬ nl = 0 := fun e => by rw [e] at nl2; exact absurd nl2 (by decide)
      have m0 : (nl : Int) ≠ 0 := fun e => mn (Int.ofNat.inj e)
      have m1 : ((nl : Int) == 0) = false := by simpa using mn
      have HLK := Lib.hid lk
      have HIN := Lib.hid hin
      have HLT := Lib.hid hlt
      have hrk : k < rem.length := by rw [HRL.out]; exact lk
      have HRK := Lib.hid hrk
      obtain ⟨b, o, rfl, hcs⟩ := HPR.out (fun e => by have := congrArg List.length e; rw [List.length_map, HRL.out] at this; exact mn this)
      obtain ⟨h1, h2⟩ := hcs k (by rw [List.length_map]; exact hrk)
      rw [List.getElem_map] at h1 h2
      obtain ⟨x, hx⟩ : ∃ x, x = rem[k]'hrk := ⟨_, rfl⟩
      have HX : Hid (x = rem[k]'HRK.out) := hx
      rw [← hx] at h1 h2
      have HBL : Hid (b < wr.heap.size) := lt_of_cell (p := ⟨b, o + k * 2, none⟩) (by rw [h1]; rfl)
      have k4 := partLoad_at (W := wr) h1 h2
      have HZ : Hid (w1.heap.size ≤ wr.heap.size) := HW.out.size
      clear hcs h1 h2 hk hq hi hin hlt nl2 lk hx
      obtain ⟨pi, pd, hpp⟩ : ∃ pi pd, Pc (bs S) x = (pi, pd) := ⟨_, _, rfl⟩
      have HPP := Lib.hid hpp
      rw [hpp] at k4
      replace k4 : (partLoad (.pointer (some ⟨b, o + k * 2, none⟩))).run Try.prog wr = .ok (.agg #[.int .i64 pi, .string pd]) wr := k4
      clear hpp
      have HOA : Hid (acc.length ≤ 3) := by rw [Hid, HAL.out]; have := HLT.out; omega
      have HWB : Hid (w1.heap.size ≤ wr.heap.size + 1) := Nat.le_succ_of_le HZ.out
      go_wp2_with (refine wpList_append_part _ (by rfl) (.tmp 39) (.tmp 44) (by rfl) w1.heap.size _ (acc.map (Pc (bs S))) (by rfl) (HOT.out.alloc _) _ 1 1 [(pi, pd)] (by rfl) (by rfl) (src_of_block (heap_at _ _ _ rfl)) (by rw [List.length_map]; simp; have := HOA.out; omega) (by rw [World.size_alloc]; exact HWB.out) ?_; intro v' w' hown' hg' hat')
      have hwa : Below w1.heap.size w1 (wr.alloc (.cells #[.int .i64 pi, .string pd] 30)) := HW.out.alloc HZ.out _
      have HWA : Hid (Below w1.heap.size w1 w') := hwa.trans (below_grown (HOT.out.alloc _) hg' (by rw [World.size_alloc]; exact HWB.out))
      have HPR2 : Hid (Pts w' (some ⟨b, o, none⟩) (rem.map (Pc (bs S)))) := (HPR.out.below ((Below.refl _ _).alloc (Nat.le_refl _) _)).grown hg' (fun ad e h => by
        injection e with e
        subst e
        exact HNE.out b _ h.symm rfl rfl)
      have HOT2 : Hid (OwnP w' w1.heap.size v' ((acc ++ [x]).map (Pc (bs S)))) := by
        rw [Hid, List.map_append, List.map_cons, List.map_nil, HPP.out]
        exact hown'
      have HVL : Hid (∀ g, v'.ownBlock = some g → g < w'.heap.size) := fun g hg => (World.ownsRow.lt hown' g hg).2
      have HZ2 : Hid (w1.heap.size ≤ w'.heap.size) := HWA.out.size
      clear hwa hown' hg' hat' HPR HOT HNE HW HWB HZ HBL c0 k1 k2 k3 k4 m0 m1 mn HPP i0 i1
      have kc : k ≤ c := Nat.le_trans (Nat.le_of_lt HLK.out) HC.out
      have kc2 : (k : Int) ≤ (c : Int) := Int.ofNat_le.2 kc
      have w1k : wrap64 ((k : Int) + 1) = (k : Int) + 1 := w64n (k + 1) (by have := HLK.out; have := HIN.out; omega)
      have i1k : IntKind.i64.wrap ((k : Int) + 1) = (k : Int) + 1 := i64n (k + 1) (by have := HLK.out; have := HIN.out; omega)
      have kb0 : (0 : Int) ≤ (k : Int) + 1 := Int.le_add_one kk0
      have kb1 : (k : Int) + 1 ≤ (nl : Int) := kk1
      obtain ⟨AD, hAD⟩ : ∃ AD : Option Addr, (if c = k + 1 then some (⟨b, o, none⟩ : Addr) else some ⟨b, o + (k + 1) * 2, none⟩) = AD := ⟨_, rfl⟩
      have HPT : Hid (Pts w' (some ⟨b, o, none⟩) ((rem.take k).map (Pc (bs S)))) := by
        have h := pts_take HPR2.out k
        rw [← List.map_take] at h
        exact h
      have HPD : Hid (Pts w' AD ((rem.drop (k + 1)).map (Pc (bs S)))) := by
        by_cases hc : c = k + 1
        · have hnil : rem.drop (k + 1) = [] := List.drop_eq_nil_of_le (by have h1 := HRL.out; have h2 := HC.out; omega)
          rw [Hid, hnil]
          exact Pts.nil _ _
        · rw [if_neg hc] at hAD
          have h := pts_drop HPR2.out (k + 1)
          rw [hAD, ← List.map_drop] at h
          exact h
      have HTL : Hid ((rem.take k).length = k) := by rw [Hid, List.length_take]; have := HRK.out; omega
      have HDL : Hid ((rem.drop (k + 1)).length = nl - (k + 1)) := by rw [Hid, List.length_drop, HRL.out]
      have HN5 : Hid (nl ≤ 5 ∧ k ≤ 5) := ⟨by have := HIN.out; omega, by have := HIN.out; have := HLK.out; omega⟩
      refine wp_region_noPanic ?_
      refine wp_region_held_drew (S := fun W => Below w'.heap.size w' W) (by kernel_rfl) (Below.refl _ _).drew (fun hHeld => ?_)
      refine wpAnyH_take (i := 1) (v := ?_) rfl (by kernel_rfl) (by kernel_rfl) (by kernel_rfl) (fun _ _ _ h => h) (Or.inl ⟨by rfl, ?_⟩) (by assumption) ?_
      rotate_left
      · intro w hSw; go_simp; try (with_reducible rfl)
      try simp only [List.getElem_toArray, List.getElem_cons_succ, List.getElem_cons_zero, Act.put, List.setIfInBounds_toArray, List.set_cons_zero, List.set_cons_succ]
      refine wpAnyH_take (i := 2) (v := ?_) rfl (by kernel_rfl) (by kernel_rfl) (by kernel_rfl) (fun _ _ _ h => h) (Or.inl ⟨by rfl, ?_⟩) (by assumption) ?_
      rotate_left
      · intro w hSw; go_simp; try (with_reducible rfl)
      try simp only [List.getElem_toArray, List.getElem_cons_succ, List.getElem_cons_zero, Act.put, List.setIfInBounds_toArray, List.set_cons_zero, List.set_cons_succ]
      refine wpAnyH_take (i := 3) (v := ?_) rfl (by kernel_rfl) (by kernel_rfl) (by kernel_rfl) (fun _ _ _ h => h) (Or.inl ⟨by rfl, ?_⟩) (by assumption) ?_
      rotate_left
      · intro w hSw; go_simp; try (with_reducible rfl)
      try simp only [List.getElem_toArray, List.getElem_cons_succ, List.getElem_cons_zero, Act.put, List.setIfInBounds_toArray, List.set_cons_zero, List.set_cons_succ]
      refine wpAnyH_take (i := 5) (v := ?_) rfl (by kernel_rfl) (by kernel_rfl) (by kernel_rfl) (fun _ _ _ h => h) (Or.inl ⟨by rfl, ?_⟩) (by assumption) ?_
      rotate_left
      · intro w hSw; go_simp; try (with_reducible rfl)
      try simp only [List.getElem_toArray, List.getElem_cons_succ, List.getElem_cons_zero, Act.put, List.setIfInBounds_toArray, List.set_cons_zero, List.set_cons_succ]
      refine wpAnyH_take (i := 6) (v := ?_) rfl (by kernel_rfl) (by kernel_rfl) (by kernel_rfl) (fun _ _ _ h => h) (Or.inl ⟨by rfl, ?_⟩) (by assumption) ?_
      rotate_left
      · intro w hSw; go_simp; try (with_reducible rfl)
      try simp only [List.getElem_toArray, List.getElem_cons_succ, List.getElem_cons_zero, Act.put, List.setIfInBounds_toArray, List.set_cons_zero, List.set_cons_succ]
      refine wpAnyH_take (i := 7) (v := ?_) rfl (by kernel_rfl) (by kernel_rfl) (by kernel_rfl) (fun _ _ _ h => h) (Or.inl ⟨by rfl, ?_⟩) (by assumption) ?_
      rotate_left
      · intro w hSw; go_simp; try (with_reducible rfl)
      try simp only [List.getElem_toArray, List.getElem_cons_succ, List.getElem_cons_zero, Act.put, List.setIfInBounds_toArray, List.set_cons_zero, List.set_cons_succ]
      refine wpAnyH_take (i := 8) (v := ?_) rfl (by kernel_rfl) (by kernel_rfl) (by kernel_rfl) (fun _ _ _ h => h) (Or.inl ⟨by rfl, ?_⟩) (by assumption) ?_
      rotate_left
      · intro w hSw; go_simp; try (with_reducible rfl)
      try simp only [List.getElem_toArray, List.getElem_cons_succ, List.getElem_cons_zero, Act.put, List.setIfInBounds_toArray, List.set_cons_zero, List.set_cons_succ]
      refine wpAnyH_ready (rs := [0]) (by kernel_rfl) (by simp) ?_
      refine AllReadyH.cons (o := _) rfl (fun K hK => ?_) ?_
      · simp only [List.getElem_toArray, List.getElem_cons_succ, List.getElem_cons_zero]
        go_simp
        refine hK.out _ _ ?_ (fun hHeld => ?_)
        · exact (Below.refl _ _).drew.alloc (Nat.le_refl _) _
        clear hK K
        try simp only [Act.put, List.setIfInBounds_toArray, List.set_cons_zero, List.set_cons_succ]
        refine wpAnyH_ready (rs := [4]) (by kernel_rfl) (by simp) ?_
        refine AllReadyH.cons (o := _) rfl (fun K hK => ?_) ?_
        · simp only [List.getElem_toArray, List.getElem_cons_succ, List.getElem_cons_zero]
          rw [if_pos (by rfl)]
          refine wp_append_parts _ (.tmp 46) (.tmp 49) (by rfl) w'.heap.size _ [] (by rfl) (OwnP.lit0 w'.drew _ (Nat.le_refl _)) _ _ _ ((rem.take k).map (Pc (bs S))) (by rfl) (by rw [List.length_map, HTL.out]) (HPT.out.below ((Below.refl _ _).drew.alloc (Nat.le_refl _) _)) (by rw [List.length_map, HTL.out]; simp; have := HN5.out; omega) (by simp) ?_
          intro v2 w2 hown2 hg2 hat2
          have HG2 : Hid (Below w'.heap.size w' w2) := ((Below.refl _ _).drew.alloc (Nat.le_refl _) _).trans (below_grown (OwnP.lit0 w'.drew _ (Nat.le_refl _)) hg2 (by simp))
          refine hK.out _ _ ?_ (fun hHeld => ?_)
          · exact HG2.out
          clear hK K
          try simp only [Act.put, List.setIfInBounds_toArray, List.set_cons_zero, List.set_cons_succ]
          refine wpAnyH_ready (rs := [9]) (by kernel_rfl) (by simp) ?_
          refine AllReadyH.cons (o := _) rfl (fun K hK => ?_) ?_
          · simp only [List.getElem_toArray, List.getElem_cons_succ, List.getElem_cons_zero]
            rw [if_pos (by rfl)]
            refine wp_append_parts _ (.tmp 50) (.tmp 54) (by rfl) w'.heap.size _ _ (by rfl) hown2 _ _ _ ((rem.drop (k + 1)).map (Pc (bs S))) (by rfl) (by rw [List.length_map, HDL.out]) (HPD.out.below HG2.out) (by rw [List.nil_append, List.length_map, List.length_map, HTL.out, HDL.out]; have := HN5.out; omega) HG2.out.size ?_
            intro v4 w4 hown4 hg4 hat4
            have HG4 : Hid (Below w'.heap.size w' w4) := HG2.out.trans (below_grown hown2 hg4 HG2.out.size)
            have HO4 : Hid (OwnP w4 w'.heap.size v4 ((rem.take k ++ rem.drop (k + 1)).map (Pc (bs S)))) := by
              rw [List.nil_append, ← List.map_append] at hown4
              exact hown4
            refine hK.out _ _ ?_ (fun hHeld => ?_)
            · exact HG4.out
            clear hK K hown2 hg2 hat2 hown4 hg4 hat4
            try simp only [Act.put, List.setIfInBounds_toArray, List.set_cons_zero, List.set_cons_succ]
            refine wpAnyH_take (i := 10) (v := ?_) rfl (by kernel_rfl) (by kernel_rfl) (by kernel_rfl) (fun _ _ _ h => h) (Or.inl ⟨by rfl, ?_⟩) (by assumption) ?_
            rotate_left
            · intro w hSw; go_simp; try (with_reducible rfl)
            try simp only [List.getElem_toArray, List.getElem_cons_succ, List.getElem_cons_zero, Act.put, List.setIfInBounds_toArray, List.set_cons_zero, List.set_cons_succ]
            refine wpAnyH_done (by kernel_rfl) ?_ _
            refine NoPanic.normal ?_
            have HO5 : Hid (OwnP w4 w1.heap.size v' ((acc ++ [x]).map (Pc (bs S)))) := HOT2.out.below HG4.out
            have HLL : Hid (((rem.take k ++ rem.drop (k + 1)).map (Pc (bs S))).length = nl - 1) := by
              rw [Hid, List.length_map, List.length_append, HTL.out, HDL.out]
              have := HLK.out
              omega
            have HPM2 : Hid (((acc ++ [x]) ++ (rem.take k ++ rem.drop (k + 1))).Perm [0, 1, 2, 3, 4]) := by
              rw [HX.out]
              exact (perm_round acc rem k HRK.out).trans HPM.out
            have HB4 : Hid (Below w1.heap.size w1 w4) := HWA.out.trans (HG4.out.mono HWA.out.size)
            have HNB : Hid (∀ g ad, v'.ownBlock = some g → v4.ownBlock = some ad → ad ≠ g) := fun g ad hg ha => by
              have h1 := HVL.out g hg
              have h2 := (World.ownsRow.lt HO4.out ad ha).1
              omega
            obtain ⟨A4, c4, rfl, hle4, -, hpt4⟩ := HO4.out.form
            rw [HLL.out] at hle4 ⊢
            have HPT4 := Lib.hid hpt4
            have HC4 := Lib.hid hle4
            have HIN2 : Hid (i + 1 ≤ 3 ∧ i + 1 + (nl - 1) = 5 ∧ ((nl - 1 : Nat) : Int) = ((nl - 1 : Nat) : Int)) := ⟨by have := HLT.out; omega, by have := HIN.out; have := HLK.out; omega, rfl⟩
            generalize nl - 1 = n4 at *
            clear hle4 hpt4 HO4 HG4 HG2 HPT HPD HTL HDL HOT2 HVL HWA HPR2 HRL HC kc kc2 w1k i1k kb0 kb1 kk0 kk1 hHeld hAD
            go_wp2_with fail
            have HRL2 : Hid ((rem.take k ++ rem.drop (k + 1)).length = n4) := by
              have h := HLL.out
              rw [List.length_map] at h
              exact h
            have HAL2 : Hid ((acc ++ [x]).length = i + 1) := by rw [Hid, List.length_append, HAL.out]; rfl
            have HNE2 : Hid (∀ (g : Nat) (ad : Addr), v'.ownBlock = some g → A4 = some ad → ad.block ≠ g) := fun g ad hg ha => HNB.out g ad.block hg (by rw [ha]; rfl)
            have wi : wrap64 ((i : Int) + 1) = ((i + 1 : Nat) : Int) := w64n (i + 1) (Nat.le_trans HIN2.out.1 (by decide))
            rw [wi]
            exact ⟨⟨i + 1, n4, acc ++ [x], rem.take k ++ rem.drop (k + 1), A4, c4, HIN2.out.1, HIN2.out.2.1, rfl, rfl, HAL2, HRL2, HC4, HPM2, HPT4, HO5, HNE2, HB4⟩, three_less i HLT.out⟩
          exact AllReadyH.nil
        exact AllReadyH.nil
      exact AllReadyH.nil
    · obtain rfl : i = 3 := by omega
      obtain ⟨x, y, z, rfl, hx, hy, hz, hxy, hxz, hyz⟩ := three_picked acc rem HAL.out HPM.out
      obtain ⟨g, cap, rfl, -, -⟩ := World.ownsRow.form HOT.out (by simp)
      have HJ1 : Hid (joinV ([Pc (bs S) x, Pc (bs S) y, Pc (bs S) z] ++ LB) (S.size : Int) = (S, 0)) := cut_join S HS6.out x y z hx hy hz hxy hxz hyz LB
      have HJ2 : Hid (joinV [Pc (bs S) x, Pc (bs S) y] (S.size : Int) = (ByteArray.empty, 4)) := two_short S HS6.out x y hx hy hxy
      have HO : Hid (OwnP wr w1.heap.size (.slice (some ⟨g, 0, none⟩) 3 cap) [Pc (bs S) x, Pc (bs S) y, Pc (bs S) z]) := HOT.out
      have HLW : Hid (Pts wr B LB) := HL1.out.below HW.out
      have HZ : Hid (w1.heap.size ≤ wr.heap.size) := HW.out.size
      have HCP : Hid (3 ≤ cap) := by
        obtain ⟨A5, c5, e5, h5, -, -⟩ := HO.out.form
        injection e5 with e1 e2 e3
        rw [e3]
        exact h5
      clear HOT HAL HRL HC HPM HPR HNE hx hy hz hxy hxz hyz hi hin hlt
      have cp2 : (2 : Int) ≤ (cap : Int) := by have := HCP.out; omega
      go_wp2_with (refine wpList_append_keep _ (by rfl) (.tmp 58) (.tmp 59) (by rfl) w1.heap.size g 3 cap [Pc (bs S) x, Pc (bs S) y, Pc (bs S) z] (by rfl) rfl HO.out B LB.length cB LB (by rfl) rfl HLW.out (by have := HLB.out; simp; omega) HZ.out ?_; intro v2 w2 hown2 hg2 hkeep2)
      obtain ⟨A2, c2, rfl, -, -, hpt2⟩ := hown2.form
      have HW2 : Hid (Below w1.heap.size w1 w2) := HW.out.trans (below_grown HO.out hg2 HZ.out)
      refine (PJoin_c A2 _ c2 ([Pc (bs S) x, Pc (bs S) y, Pc (bs S) z] ++ LB) (S.size : Int) w2 rfl (by have := HLB.out; rw [List.length_append]; show 3 + LB.length ≤ 1000000000; omega) hpt2).mono ?_
      rw [HJ1.out]
      rintro e w3 ⟨rfl, hb3⟩
      have HP3 : Hid (Pts w3 (some ⟨g, 0, none⟩) [Pc (bs S) x, Pc (bs S) y]) := (pts_take hkeep2 2).below hb3
      have HW3 : Hid (Below w1.heap.size w1 w3) := HW2.out.trans (hb3.mono HW2.out.size)
      clear hpt2 hown2 hg2 hkeep2 hb3 HW HO HLW HZ HCP
      go_wp2_with fail
      refine (PJoin_c (some ⟨g, 0, none⟩) 2 cap [Pc (bs S) x, Pc (bs S) y] (S.size : Int) w3 rfl (by show 2 ≤ 1000000000; decide) HP3.out).mono ?_
      rw [HJ2.out]
      rintro e w4 ⟨rfl, hb4⟩
      have HW4 : Hid (Below w1.heap.size w1 w4) := HW3.out.trans (hb4.mono HW3.out.size)
      have HW5 : Hid (Below w.heap.size w w4) := HB1.out.trans (HW4.out.mono HB1.out.size)
      have n2 : ∀ W : World, (binOp .eql 9 (.string S) (.string S)).run Try.prog W = .ok (.bool true) W := fun W => by rw [str_eql, decide_eq_true rfl]
      clear hb4 HP3
      go_wp2_with fail
      refine (Fixed_c _).mono ?_
      rintro e w9 ⟨rfl, hb9⟩
      have HB9 := Lib.hid (HW5.out.trans (hb9.mono HW5.out.size))
      clear hb9
      go_wp2
      go_ret
      exact ⟨rfl, HB9.out⟩

set_option maxRecDepth 100000 in
set_option maxHeartbeats 1000000 in
theorem ParityThree_out (S : ByteArray) (v : Value) (B : Option Addr) (n cB : Nat) (w : World) (h : 3000 < S.size ∨ 10 < n) (l : List UInt8) (hvl : v = .agg (vals l).toArray) :
    Calls Try.prog 7 #[.string S, v, .slice B n cB] w fun e w' => e = .returned (.bool true) ∧ Below w.heap.size w w' := by
  subst hvl
  by_cases h1 : 3000 < S.size
  · have g1 : decide ((3000 : Int) < (S.size : Int)) = true := by simp; omega
    clear h h1
    go_enter Try.func7, Try.ntmps7
    go_wp2_with fail
    refine (Fixed_c _).mono ?_
    rintro e w1 ⟨rfl, hb1⟩
    go_wp2
    go_ret
    exact ⟨rfl, ((Below.refl _ _).alloc (Nat.le_refl _) _).trans (hb1.mono (by simp))⟩
  · have g1 : decide ((3000 : Int) < (S.size : Int)) = false := by simp; omega
    have g2 : decide ((10 : Int) < (n : Int)) = true := by simp; omega
    clear h h1
    go_enter Try.func7, Try.ntmps7
    go_wp2_with fail
    refine (Fixed_c _).mono ?_
    rintro e w1 ⟨rfl, hb1⟩
    go_wp2
    go_ret
    exact ⟨rfl, ((Below.refl _ _).alloc (Nat.le_refl _) _).trans (hb1.mono (by simp))⟩

theorem ParityThree_any (v : Value) (h : ∃ s : ByteArray, v = .string s) (v' : Value) (h' : IsArr 3 v') (v2 : Value) {w : World} (h2 : IsPts w v2) (_ : World := w) :
    Calls Try.prog 7 #[v, v', v2] w fun e w' => e = .returned (.bool true) ∧ Below w.heap.size w w' := by
  obtain ⟨S, rfl⟩ := h
  obtain ⟨l, hl, rfl⟩ := h'
  obtain ⟨B, LB, cB, rfl, _, _, hL⟩ := h2
  by_cases h1 : 3000 < S.size ∨ 10 < LB.length
  · exact ParityThree_out S _ B _ cB w h1 l rfl
  · match l, hl with
    | [P0, P1, P2], _ => exact ParityThree_go S P0 P1 P2 B LB cB w (by omega) (by omega) hL

end Go.Proofs.Ytmnnhmbolbepcaa
