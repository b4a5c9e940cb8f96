/- The walks of Same and ShareMore. -/
import Derived.Test.YtffmnldhklejcaaShSame
namespace Go.Proofs.Ytffmnldhklejcaa
open Go.RowKit

set_option maxRecDepth 100000 in
set_option maxHeartbeats 1000000 in
theorem ShareMore_w (s z : List UInt8) (n m : UInt8) (w : World) (hs : s.length = 32) (hz : z.length = 64) :
    Calls Try.prog 6 #[.agg (vals s).toArray, .agg (vals z).toArray, .int .u8 (u n), .int .u8 (u m)] w fun e w' => e = .returned (.bool true) ∧ Below w.heap.size w w' := by
  obtain ⟨a, ha⟩ : ∃ a : Nat, a = 3 + n.toNat % 100 := ⟨_, rfl⟩
  obtain ⟨b, hb⟩ : ∃ b : Nat, b = a + m.toNat % 100 := ⟨_, rfl⟩
  have hn0 := u_lo n
  have hn1 := u_hi n
  have hm0 := u_lo m
  have hm1 := u_hi m
  have HZ := Lib.hid hz
  have HS := Lib.hid hs
  have ea : (3 : Int) + u n % 100 = (a : Int) := by rw [ha]; unfold u; omega
  have eb : (a : Int) + u m % 100 = (b : Int) := by rw [hb]; unfold u; omega
  have EA := Lib.hid ea
  have EB := Lib.hid eb
  have HA := Lib.hid ha
  have HB0 := Lib.hid hb
  clear hz hs ea eb ha hb
  go_enter Try.func6, Try.ntmps6
  go_wp2_with fail
  refine (SAlive_c _).mono ?_
  rintro e w1 ⟨rfl, hb1⟩
  have box1 : w1.heap[w.heap.size]? = some (.cells (vals s).toArray 23 (0, 0)) := (hb1.block _ (by simp only [World.size_alloc]; omega)).trans (heap_alloc2_old _ _ _)
  have box2 : w1.heap[w.heap.size + 1]? = some (.cells (vals z).toArray 31 (0, 0)) := (hb1.block _ (by simp only [World.size_alloc]; omega)).trans (heap_alloc2_new _ _ _)
  have HB := Lib.hid ((((Below.refl _ w).alloc (Nat.le_refl _) _).alloc (by simp) _).trans (hb1.mono (by simp; omega)))
  clear hb1
  have cv : ∀ W : World, W.heap[w.heap.size + 1]? = some (.cells (vals z).toArray 31 (0, 0)) →
      (convert 32 9 (.slice (some ⟨w.heap.size + 1, 0, none⟩) 64 64)).run Try.prog W = .ok (.string ⟨z.toArray⟩) W := fun W hW =>
    str_of_bytes (w.heap.size + 1) 0 64 64 z W HZ.out.symm (fun i h => by
      rw [cell_of_row _ _ _ _ _ _ hW, Nat.zero_add, List.getElem?_toArray, List.getElem?_eq_getElem (by rw [vals_length]; exact h), vals_get _ i h])
  have cv1 := cv w1 box2
  have CV := Lib.hid cv
  have BOX2 := Lib.hid box2
  have BOX1 := Lib.hid box1
  clear cv box2
  have hr : w1.rangeAt w.heap.size 0 (vals s) := range_of_block _ box1
  clear box1
  have hu := Try.underlying23
  have hi : (Try.prog.info? 23).map (·.size) = some (vals s).length := by rw [vals_length, HS.out]; exact key_size
  have hl : (vals s).length = 32 := by rw [vals_length, HS.out]
  have h1 := vals_one s
  have HZS : Hid (bs (⟨z.toArray⟩ : ByteArray) = z) := by simp [Hid, bs]
  generalize (⟨z.toArray⟩ : ByteArray) = zs at *
  go_wp2_with fail
  rw [EA.out, EB.out]
  go_region_held3 (fun W => W.rangeAt w.heap.size 0 (vals s) ∧ (convert 32 9 (.slice (some ⟨w.heap.size + 1, 0, none⟩) 64 64)).run Try.prog W = .ok (.string zs) W)
    (first | exact ⟨hr, CV.out _ BOX2.out⟩ | exact ⟨range_below (W := w1.drew) hr hb2, CV.out _ ((hb2.block _ (lt_of_block BOX2.out)).trans BOX2.out)⟩)
    (first | (go_at_call 12; refine (Split_g _ _ _ s z a _ (by rfl) (by rfl) HZS.out HS.out (by have := HA.out; omega) (by have := HA.out; omega) HZ.out).mono ?_; rintro e w2 ⟨rfl, hf, hb2⟩))
  have hbw : Below w1.heap.size w1 w2 := below_of_drew hb2
  have hr2 := range_below hr hbw
  have BX2 : Hid (w2.heap[w.heap.size + 1]? = some (.cells (vals z).toArray 31 (0, 0))) := (hb2.block _ (lt_of_block BOX2.out)).trans BOX2.out
  have HB2 := Lib.hid (HB.out.trans (hbw.mono HB.out.size))
  have HF := Lib.hid hf
  clear hr hb2 hbw hf BOX2 HB
  go_wp2_with fail
  go_region_held3 (fun W => W.rangeAt w.heap.size 0 (vals s) ∧ (convert 32 9 (.slice (some ⟨w.heap.size + 1, 0, none⟩) 64 64)).run Try.prog W = .ok (.string zs) W)
    (first | exact ⟨hr2, CV.out _ BX2.out⟩ | exact ⟨range_below (W := w2.drew) hr2 hb3, CV.out _ ((hb3.block _ (lt_of_block BX2.out)).trans BX2.out)⟩)
    (first | (go_at_call 12; refine (Split_g _ _ _ s z b _ (by rfl) (by rfl) HZS.out HS.out (by have := HA.out; have := HB0.out; omega) (by have := HA.out; have := HB0.out; omega) HZ.out).mono ?_; rintro e w3 ⟨rfl, hf3, hb3⟩))
  have hbw : Below w2.heap.size w2 w3 := below_of_drew hb3
  have HB3 := Lib.hid (HB2.out.trans (hbw.mono HB2.out.size))
  have HF2 := Lib.hid (HF.out.keepb hbw)
  have HF3 := Lib.hid hf3
  clear hr2 hb3 hbw hf3 HF HB2
  have hab : (a : Int) ≤ (b : Int) := by have := HB0.out; omega
  have ta : ((a : Int) == (a : Int)) = true := by simp
  have tb : ((b : Int) == (b : Int)) = true := by simp
  go_wp2_with fail
  refine (Same_c _ _ _ _ _ _ (rows s z a) (rows s z a) _ (by simp [rows_length]) (by simp [rows_length]) (HF3.out.shs_take a (by omega)) (HF2.out.shs_take a (Nat.le_refl _)) (by have := HA.out; rw [rows_length]; omega)).mono ?_
  rintro e w4 ⟨rfl, ⟨nd, rfl⟩⟩
  go_wp2_with fail
  go_ret
  exact ⟨ret_bool (by simp), below_drewN HB3.out _⟩

end Go.Proofs.Ytffmnldhklejcaa
