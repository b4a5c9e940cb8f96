/- The walks of the laws of shares, over any arguments that open. -/
import Derived.Test.YtffmnldhklejcaaShOpen
import Derived.Test.YtffmnldhklejcaaShMore
namespace Go.Proofs.Ytffmnldhklejcaa
open Go.RowKit

theorem ShareMore_any (v : Value) (h : IsArr 32 v) (v' : Value) (h' : IsArr 64 v') (n : Int) (hn : (Lit.int .u8 n).wf = true) (m : Int) (hm : (Lit.int .u8 m).wf = true) (w : World) :
    Calls Try.prog 6 #[v, v', .int .u8 n, .int .u8 m] w fun e w' => e = .returned (.bool true) ∧ Below w.heap.size w w' := by
  obtain ⟨s, hs, rfl⟩ := h
  obtain ⟨z, hz, rfl⟩ := h'
  obtain ⟨a, rfl⟩ := u_wf hn
  obtain ⟨b, rfl⟩ := u_wf hm
  exact ShareMore_w s z a b w hs hz

end Go.Proofs.Ytffmnldhklejcaa
