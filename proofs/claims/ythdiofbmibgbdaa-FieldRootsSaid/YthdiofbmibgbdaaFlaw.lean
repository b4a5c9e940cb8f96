/- The walks of the field's laws: each returns true. -/
import Derived.Test.YthdiofbmibgbdaaRef2
namespace Go.Proofs.Ythdiofbmibgbdaa
open Go.RowKit

theorem add_zero_block (g j : Nat) : (⟨g, 0, none⟩ : Addr).add j = ⟨g, j, none⟩ := by unfold Addr.add; split <;> simp_all
/-- a block of bytes, known whole -/
theorem bytes_of_block {W : World} {g : Nat} {t : TypeId} {fr : Nat × Nat} (l : List UInt8) (h : W.heap[g]? = some (.cells (l.map (fun a => Value.int .u8 (u a))).toArray t fr)) : Bytes W (some ⟨g, 0, none⟩) l := by
  intro j hj
  refine ⟨_, rfl, ?_⟩
  rw [add_zero_block, cell_of_row W g j _ t fr h]
  simp [hj]

theorem heap_at (w : World) (o : Obj) (n : Nat) (h : n = w.heap.size) : (w.alloc o).heap[n]? = some o := by rw [h]; exact heap_alloc_new w o

theorem alive_29 : u (Gf.mul 2 128) = 29 := by decide +kernel
theorem alive_142 : u (Gf.inv 2) = 142 := by decide +kernel
theorem alive_7 : u (Gf.eval [1, 2] 3) = 7 := by decide +kernel
theorem alive_5 : Gf.atS [1, 2] [5, 5] 9 = (5, true) := by rw [Gf.atS_yes (xs := [1, 2]) (ys := [5, 5]) 9 rfl (by decide)]; decide +kernel

set_option maxRecDepth 100000 in
set_option maxHeartbeats 1000000 in
theorem Alive_c (w : World) : Calls Try.prog 9 #[] w fun e w' => e = .returned (.bool true) ∧ Below w.heap.size w w' := by
  have e29 := alive_29
  have e142 := alive_142
  have e7 := alive_7
  go_enter Try.func9, Try.ntmps9
  go_wp2_with fail
  refine (At_c _ _ _ _ _ _ _ [1, 2] [5, 5] 9 _ rfl rfl (by decide) rfl (bytes_of_block (t := 5) (fr := (0, 0)) [1, 2] (heap_alloc2_old _ _ _)) (bytes_of_block (t := 5) (fr := (0, 0)) [5, 5] (heap_alloc2_new _ _ _))).mono ?_
  rintro e w' ⟨rfl, rfl⟩
  rw [alive_5]
  go_wp2_with fail
  refine (Mul_c _ _ 2 128 _ rfl rfl).mono ?_
  rintro e w' ⟨rfl, rfl⟩
  go_wp2_with fail
  refine (Inv_c _ 2 _ rfl).mono ?_
  rintro e w' ⟨rfl, rfl⟩
  go_wp2_with fail
  refine (Eval_c _ _ _ _ [1, 2] 3 _ rfl (by decide) rfl (bytes_of_block (t := 5) (fr := (0, 0)) [1, 2] (heap_at _ _ _ (by simp)))).mono ?_
  rintro e w' ⟨rfl, ⟨nd, rfl⟩⟩
  go_wp2_with fail
  go_ret
  exact ⟨by first | rfl | decide +kernel, below_drewN ((((Below.refl _ _).alloc (Nat.le_refl _) _).alloc (by simp) _).alloc (by simp; omega) _) nd⟩

set_option maxRecDepth 100000 in
set_option maxHeartbeats 1000000 in
theorem FieldMuls_w (a b : UInt8) (w : World) : Calls Try.prog 3 #[.int .u8 (u a), .int .u8 (u b)] w fun e w' => e = .returned (.bool true) ∧ Below w.heap.size w w' := by
  go_enter Try.func3, Try.ntmps3
  go_wp2_with fail
  refine (Alive_c _).mono ?_
  rintro e w1 ⟨rfl, hb⟩
  go_wp2_with fail
  refine (Mul_c _ _ a b _ rfl rfl).mono ?_
  rintro e w' ⟨rfl, rfl⟩
  go_wp2_with fail
  refine (RMul_c _ _ a b _ rfl rfl).mono ?_
  rintro e w' ⟨rfl, rfl⟩
  have t1 : (u (Gf.mul a b) == u (Gf.mul a b)) = true := by simp
  go_wp2_with fail
  refine (Inv_c _ a _ rfl).mono ?_
  rintro e w' ⟨rfl, rfl⟩
  go_wp2_with fail
  refine (RInv_c _ a _ rfl).mono ?_
  rintro e w' ⟨rfl, rfl⟩
  have t2 : (u (Gf.inv a) == u (Gf.inv a)) = true := by simp
  go_wp2_with fail
  go_ret
  exact ⟨rfl, hb⟩

theorem FieldMuls_any (x : Int) (hx : (Lit.int .u8 x).wf = true) (y : Int) (hy : (Lit.int .u8 y).wf = true) (w : World) :
    Calls Try.prog 3 #[.int .u8 x, .int .u8 y] w fun e w' => e = .returned (.bool true) ∧ Below w.heap.size w w' := by
  obtain ⟨a, rfl⟩ := u_wf hx
  obtain ⟨b, rfl⟩ := u_wf hy
  exact FieldMuls_w a b w

end Go.Proofs.Ythdiofbmibgbdaa
