/- How the arguments of the laws are opened: each to bytes. -/
import Derived.Test.YtmnnhmbolbepcaaOwn
import Derived.WalkKit
import Derived.ProofKit
import Derived.OpenShut
import Derived.ShutString
import Derived.ChangeOld
import Derived.Below
namespace Go.Proofs.Ytmnnhmbolbepcaa
open Go.ChangeShapes Go.WideShapes Go.ChangeAt Go.RowKit
open Go.ChangeMaps (open_string shut_string)

/-- an argument that is a slice of bytes -/
def IsBytes (w : World) (v : Value) : Prop := ∃ (A : Option Addr) (l : List UInt8) (c : Nat), v = .slice A l.length c ∧ l.length ≤ c ∧ c ≤ maxLen ∧ Bytes w A l

theorem nums_bytes : ∀ zs : List Int, (∀ n ∈ zs, (Lit.int .u8 n).wf = true) → ∃ l : List UInt8, zs = l.map u := by
  intro zs
  induction zs with
  | nil => exact fun _ => ⟨[], rfl⟩
  | cons z zs ih =>
    intro h
    obtain ⟨b, hb⟩ := u_wf (h z (by simp))
    obtain ⟨l, hl⟩ := ih (fun n hn => h n (by simp [hn]))
    exact ⟨b :: l, by rw [hb, hl]; rfl⟩

section
variable {H : Type} {enc : TypeId × Value → H} {W : World}

theorem open_bytes {v : Value} {d : DataW H} {p : List MemPlace} {base : Nat} (hv : Value.okWide Try.prog W .any base 28 v) (h : DataW.Trod enc Try.prog W 0 (fun _ => true) true 28 v d p) : IsBytes W v := by
  obtain ⟨a0, len0, cap0, rfl⟩ := okWide_slice Try.underlying28 hv
  obtain ⟨fuel, hf⟩ := h
  rcases open_ints Try.underlying28 Try.underlying5 (by kernel_rfl) hf with ⟨hcs, _⟩ | ⟨x, len, c, zs, hcs, _, hl, hm, hz, _, hc, hwz⟩
  · simp [Value.cells] at hcs
    obtain ⟨rfl, rfl, rfl⟩ := hcs
    exact ⟨none, [], 0, rfl, Nat.le_refl _, by decide, Bytes.nil _ _⟩
  · simp [Value.cells] at hcs
    obtain ⟨rfl, rfl, rfl⟩ := hcs
    obtain ⟨l, rfl⟩ := nums_bytes zs hwz
    have hlen : l.length = cap0 := by simpa using hz
    have e : len0 = (l.take len0).length := by simp; omega
    refine ⟨some x, l.take len0, cap0, by rw [← e], by simp; omega, hm, fun j hj => ⟨x, rfl, ?_⟩⟩
    have hj' : j < l.length := by simp at hj; omega
    rw [hc j (by simpa using hj')]
    simp [List.getD_eq_getElem?_getD, hj']
end

end Go.Proofs.Ytmnnhmbolbepcaa
