/- The walk of the reference's Coefficients. -/
import Derived.Test.YtffmnldhklejcaaShFitLaw
namespace Go.Proofs.Ytffmnldhklejcaa
open Go.RowKit
set_option linter.unusedSimpArgs false

set_option maxRecDepth 100000 in
set_option maxHeartbeats 1000000 in
theorem Coef_c (A : Option Addr) (n c : Nat) (L : List (List UInt8)) (s : List UInt8) (i : Nat) (w : World) (hn : n = L.length) (h3 : L.length = 3) (hL : Shs w A L) (hs : s.length = 32) (hi : i < 32) :
    Calls Try.prog 16 #[.slice A n c, .agg (vals s).toArray, .int .i64 i] w fun e w' => e = .returned (.tuple #[.int .u8 (u (coef L s i).1), .int .u8 (u (coef L s i).2)]) ∧ Below w.heap.size w w' := by
  have hcf : ∀ k1 k2 si : UInt8, (keyAt L 1).getD i 0 = k1 → (keyAt L 2).getD i 0 = k2 → s.getD i 0 = si → coef L s i = ((k1 ^^^ si) ^^^ Gf.mul ((k1 ^^^ si) ^^^ Gf.mul (k2 ^^^ si) (Gf.inv 2)) (Gf.inv 3), Gf.mul ((k1 ^^^ si) ^^^ Gf.mul (k2 ^^^ si) (Gf.inv 2)) (Gf.inv 3)) := by
    rintro _ _ _ rfl rfl rfl; rfl
  have HS := Lib.hid hs
  have HN := Lib.hid hn
  have H3 := Lib.hid h3
  have HL := Lib.hid hL
  have i0 : (0 : Int) ≤ (i : Int) := by omega
  have i1 : (i : Int) < 32 := by omega
  obtain ⟨K1, hK1⟩ : ∃ K, K = keyAt L 1 := ⟨_, rfl⟩
  obtain ⟨K2, hK2⟩ : ∃ K, K = keyAt L 2 := ⟨_, rfl⟩
  have hl1 : K1.length = 32 := by rw [hK1]; exact keyAt_length _ _
  have hl2 : K2.length = 32 := by rw [hK2]; exact keyAt_length _ _
  have x1 := fun W : World => key_index K1 hl1 i (by omega) W
  have x2 := fun W : World => key_index K2 hl2 i (by omega) W
  have HCF := Lib.hid (hcf K1[i] K2[i] (s.getD i 0) (by rw [← hK1, Gf.getD_eq]) (by rw [← hK2, Gf.getD_eq]) rfl)
  have HC1 : Hid (∀ W : World, Below w.heap.size w W → Calls Try.prog 26 #[.slice A n c, .int .u8 1] W fun e w' => e = .returned (.agg (vals K1).toArray) ∧ Below W.heap.size W w') := fun W hb => by
    rw [hK1]; exact RKey_c A n c L 1 1 W HN.out H3.out (by rfl) (HL.out.below hb)
  have HC2 : Hid (∀ W : World, Below w.heap.size w W → Calls Try.prog 26 #[.slice A n c, .int .u8 2] W fun e w' => e = .returned (.agg (vals K2).toArray) ∧ Below W.heap.size W w') := fun W hb => by
    rw [hK2]; exact RKey_c A n c L 2 2 W HN.out H3.out (by rfl) (HL.out.below hb)
  generalize K1[i] = k1 at *
  generalize K2[i] = k2 at *
  clear hcf hK1 hK2 hn h3 hL hl1 hl2
  generalize hsi : s.getD i 0 = si at *
  have HSI := Lib.hid hsi
  clear hsi
  have z1 := xor_u k1 si
  have z2 := xor_u k2 si
  obtain ⟨one, hone⟩ : ∃ o, o = k1 ^^^ si := ⟨_, rfl⟩
  obtain ⟨tw, htw⟩ : ∃ o, o = k2 ^^^ si := ⟨_, rfl⟩
  rw [← hone] at z1
  rw [← htw] at z2
  obtain ⟨iv, hiv⟩ : ∃ o, o = Gf.inv 2 := ⟨_, rfl⟩
  obtain ⟨two, htwo⟩ : ∃ o, o = Gf.mul tw iv := ⟨_, rfl⟩
  have z3 := xor_u one two
  obtain ⟨i3, hi3⟩ : ∃ o, o = Gf.inv 3 := ⟨_, rfl⟩
  obtain ⟨d, hd⟩ : ∃ o, o = one ^^^ two := ⟨_, rfl⟩
  rw [← hd] at z3
  obtain ⟨q, hq⟩ : ∃ o, o = Gf.mul d i3 := ⟨_, rfl⟩
  have z4 := xor_u one q
  have HR : Hid (coef L s i = (one ^^^ q, q)) := by rw [Hid, HCF.out, hq, hd, hi3, htwo, hiv, htw, hone]
  have HM1 : Hid (∀ W : World, Calls Try.prog 28 #[.int .u8 2] W fun e w' => e = .returned (.int .u8 (u iv)) ∧ W = w') := fun W => by rw [hiv]; exact RInv_c 2 2 W (by rfl)
  have HM2 : Hid (∀ W : World, Calls Try.prog 27 #[.int .u8 (u tw), .int .u8 (u iv)] W fun e w' => e = .returned (.int .u8 (u two)) ∧ W = w') := fun W => by rw [htwo]; exact RMul_c _ _ tw iv W rfl rfl
  have HM3 : Hid (∀ W : World, Calls Try.prog 28 #[.int .u8 3] W fun e w' => e = .returned (.int .u8 (u i3)) ∧ W = w') := fun W => by rw [hi3]; exact RInv_c 3 3 W (by rfl)
  have HM4 : Hid (∀ W : World, Calls Try.prog 27 #[.int .u8 (u d), .int .u8 (u i3)] W fun e w' => e = .returned (.int .u8 (u q)) ∧ W = w') := fun W => by rw [hq]; exact RMul_c _ _ d i3 W rfl rfl
  clear HCF hone htw hiv htwo hi3 hd hq
  go_enter Try.func16, Try.ntmps16
  go_wp2_with fail
  have HB : Hid (Below w.heap.size w (w.alloc (.cells (vals s).toArray 23)) ∧ (w.alloc (.cells (vals s).toArray 23)).heap[w.heap.size]? = some (.cells (vals s).toArray 23 (0, 0))) := ⟨(Below.refl _ w).alloc (Nat.le_refl _) _, heap_at _ _ _ rfl⟩
  generalize w.alloc (.cells (vals s).toArray 23) = W1 at *
  have HKP : Hid (∀ W, Below W1.heap.size W1 W → W.cell? ⟨w.heap.size, i, none⟩ = some (.int .u8 (u si))) := fun W hb => by
    rw [← HSI.out]
    exact cell_byteD ((hb.block _ (lt_of_block HB.out.2)).trans HB.out.2) i (by rw [HS.out]; omega)
  have k0 := HKP.out W1 (Below.refl _ _)
  go_region_held3 (fun W => W.cell? ⟨w.heap.size, i, none⟩ = some (.int .u8 (u si)))
    (first
      | exact HKP.out _ (Below.refl _ _).drew
      | exact HKP.out _ ((Below.refl _ _).drew.trans (by assumption)))
    (first | (go_at_call 26; refine (HC1.out _ (HB.out.1.drew)).mono ?_; rintro e w' ⟨rfl, hb2⟩))
  have hb3 : Below W1.heap.size W1 w' := (Below.refl _ _).drew.trans hb2
  have HBB : Hid (Below w.heap.size w w' ∧ w'.heap[w.heap.size]? = some (.cells (vals s).toArray 23 (0, 0))) := ⟨HB.out.1.trans (hb3.mono HB.out.1.size), (hb3.block _ (lt_of_block HB.out.2)).trans HB.out.2⟩
  clear hb2 hb3 HKP HB k0
  have HKP : Hid (∀ W, Below w'.heap.size w' W → W.cell? ⟨w.heap.size, i, none⟩ = some (.int .u8 (u si))) := fun W hb => by
    rw [← HSI.out]
    exact cell_byteD ((hb.block _ (lt_of_block HBB.out.2)).trans HBB.out.2) i (by rw [HS.out]; omega)
  have k0 := HKP.out w' (Below.refl _ _)
  go_wp2_with fail
  go_region_held3 (fun W => W.cell? ⟨w.heap.size, i, none⟩ = some (.int .u8 (u si)))
    (first
      | exact HKP.out _ (Below.refl _ _).drew
      | exact HKP.out _ ((Below.refl _ _).drew.trans (by assumption)))
    (first
      | (go_at_call 26; refine (HC2.out _ (HBB.out.1.drew)).mono ?_; rintro e w5 ⟨rfl, hb5⟩)
      | (go_at_call 28; refine (HM1.out _).mono ?_; rintro e w6 ⟨rfl, rfl⟩)
      | (go_at_call 27; refine (HM2.out _).mono ?_; rintro e w7 ⟨rfl, rfl⟩))
  all_goals
    have HF : Hid (Below w.heap.size w w5) := HBB.out.1.trans (((Below.refl _ _).drew.trans hb5).mono HBB.out.1.size)
    clear hb5 k0 HKP HBB
    go_wp2_with (first
      | (go_at_call 28; refine (HM3.out _).mono ?_; rintro e w6 ⟨rfl, rfl⟩)
      | (go_at_call 27; refine (HM4.out _).mono ?_; rintro e w7 ⟨rfl, rfl⟩))
    go_ret2
    exact ⟨by rw [HR.out]; rfl, HF.out⟩

end Go.Proofs.Ytffmnldhklejcaa
