/- Words for bytes in values and in memory: no statement of the seat is proved here. -/
import Derived.Test.YtmnnhmbolbepcaaProg
import Derived.Test.YtmnnhmbolbepcaaGf
import Derived.Below
import Derived.Deep.Draws
import Derived.OwnWalk
import Derived.Laws.BytesArg
import Derived.Laws.MakeOwn
import Derived.Laws.OwnMore
import Derived.Deep.OwnRows
import Derived.Tactics
import Derived.Lib.ConvBytes
import Derived.Lib.Hide
import Derived.Laws.Slices
import Derived.WalkKit
import Derived.KernelRfl
import Derived.RowKit3
import Derived.Deep.LoopGhost
import Derived.Deep.QuietTactic
import Derived.BigQuiet
import Derived.WideLaws
import Derived.Deep.DeepCutAuto
import Derived.Deep.CutBlock
import Derived.Deep.RegionHeld3
import Derived.Laws.Rows
import Derived.ArgAppend
import Derived.Laws.BitsLemmas
import Derived.RowKit
namespace Go.Proofs.Ytmnnhmbolbepcaa
open Go.RowKit

/-- a byte as a whole number -/
def u (a : UInt8) : Int := (a.toNat : Int)
theorem u_lo (a : UInt8) : 0 ≤ u a := Int.natCast_nonneg _
theorem u_hi (a : UInt8) : u a < 256 := by have := a.toNat_lt; unfold u; omega
theorem u_inj {a b : UInt8} (h : u a = u b) : a = b := UInt8.toNat_inj.1 (Int.ofNat.inj h)
theorem u_of (x : Int) (h0 : 0 ≤ x) (h1 : x < 256) : ∃ a, x = u a := by
  refine ⟨UInt8.ofNat x.toNat, ?_⟩
  show x = ((UInt8.ofNat x.toNat).toNat : Int)
  rw [UInt8.toNat_ofNat']
  omega
theorem u_wf {x : Int} (h : (Lit.int .u8 x).wf = true) : ∃ a, x = u a := by
  simp [Lit.wf, IntKind.min, IntKind.max, IntKind.bits, IntKind.signed] at h
  exact u_of x (by omega) (by omega)
theorem wf_u (a : UInt8) : (Lit.int .u8 (u a)).wf = true := by
  have := u_lo a
  have := u_hi a
  simp [Lit.wf, IntKind.min, IntKind.max, IntKind.bits, IntKind.signed]; omega
theorem u_zero : u 0 = 0 := rfl
theorem u_one : u 1 = 1 := rfl

theorem xor_u (a b : UInt8) : Go.bits .xor .u8 (u a) (u b) = u (a ^^^ b) := by
  rw [u, u, u8_xor_nat _ _ a.toNat_lt b.toNat_lt]; show _ = ((a ^^^ b).toNat : Int); rw [UInt8.toNat_xor]
theorem and1_u (b : UInt8) : Go.bits .and .u8 (u b) 1 = u (b &&& 1) := by
  have h := u8_and_nat b.toNat 1 b.toNat_lt (by decide)
  show Go.bits .and .u8 (b.toNat : Int) ((1 : Nat) : Int) = _
  rw [h]; show _ = ((b &&& 1).toNat : Int); rw [UInt8.toNat_and]; rfl
theorem dbl_all : ∀ a : UInt8, (u a * (2 : Int)) % (256 : Int) = u (a <<< 1) ∧ (u a / (128 : Int)) * (29 : Int) = u ((a >>> 7) * 29) ∧ u a / (2 : Int) = u (a >>> 1) := Gf.all256 (by decide +kernel)
theorem dbl_u (a : UInt8) : Go.bits .xor .u8 ((u a * (2 : Int)) % (256 : Int)) ((u a / (128 : Int)) * (29 : Int)) = u (Gf.dbl a) := by
  rw [(dbl_all a).1, (dbl_all a).2.1, xor_u]; rfl
theorem half_u (a : UInt8) : u a / (2 : Int) = u (a >>> 1) := (dbl_all a).2.2

/-- a byte as a value -/
def B (a : UInt8) : Value := .int .u8 (u a)

/-- a slice's cells are these bytes -/
def Bytes (w : World) (A : Option Addr) (l : List UInt8) : Prop := ∀ (j : Nat) (h : j < l.length), ∃ ad, A = some ad ∧ w.cell? (ad.add j) = some (.int .u8 (u l[j]))

theorem Bytes.nil (w : World) (A : Option Addr) : Bytes w A [] := fun j h => by simp at h
theorem Bytes.of_same {w w' : World} {A : Option Addr} {l : List UInt8} (h : Bytes w A l) (hk : ∀ p : Addr, w'.cell? p = w.cell? p) : Bytes w' A l := fun j hj => by
  obtain ⟨ad, e, hc⟩ := h j hj
  exact ⟨ad, e, by rw [hk, hc]⟩
theorem Bytes.drewN {w : World} {A : Option Addr} {l : List UInt8} (h : Bytes w A l) (n : Nat) : Bytes (w.drewN n) A l := h
theorem Bytes.drew {w : World} {A : Option Addr} {l : List UInt8} (h : Bytes w A l) : Bytes w.drew A l := h

/-- the world but for draws -/
structure Drawn (w w' : World) : Prop where mk :: (out : ∃ n, w' = w.drewN n)
theorem Drawn.refl (w : World) : Drawn w w := ⟨⟨0, rfl⟩⟩
theorem Drawn.step {w w' : World} (h : Drawn w w') (n : Nat) : Drawn w (w'.drewN n) := by
  obtain ⟨m, rfl⟩ := h.out
  exact ⟨⟨m + n, by rw [World.drewN_drewN]⟩⟩
theorem below_drewN {B : Nat} {a w : World} (h : Below B a w) (n : Nat) : Below B a (w.drewN n) := ⟨h.os, h.tape, h.output, h.size, h.block⟩
theorem Drawn.below {w w' : World} (h : Drawn w w') (b : Nat) : Below b w w' := by
  obtain ⟨m, rfl⟩ := h.out
  exact below_drewN (Below.refl _ _) m

theorem ne_false' {a b : Int} (h : a = b) : (a != b) = false := by rw [h]; simp
theorem ret_u8 {a b : Int} (h : a = b) : Ending.returned (.int .u8 a) = .returned (.int .u8 b) := by rw [h]
theorem ret_bool {a b : Bool} (h : a = b) : Ending.returned (.bool a) = .returned (.bool b) := by rw [h]

theorem add_zero_block (g j : Nat) : (⟨g, 0, none⟩ : Addr).add j = ⟨g, j, none⟩ := by unfold Addr.add; split <;> simp_all
/-- a block of bytes, known whole -/
theorem bytes_of_block {W : World} {g : Nat} {t : TypeId} {fr : Nat × Nat} (l : List UInt8) (h : W.heap[g]? = some (.cells (l.map (fun a => Value.int .u8 (u a))).toArray t fr)) : Bytes W (some ⟨g, 0, none⟩) l := by
  intro j hj
  refine ⟨_, rfl, ?_⟩
  rw [add_zero_block, cell_of_row W g j _ t fr h]
  simp [hj]

theorem heap_at (w : World) (o : Obj) (n : Nat) (h : n = w.heap.size) : (w.alloc o).heap[n]? = some o := by rw [h]; exact heap_alloc_new w o

end Go.Proofs.Ytmnnhmbolbepcaa
