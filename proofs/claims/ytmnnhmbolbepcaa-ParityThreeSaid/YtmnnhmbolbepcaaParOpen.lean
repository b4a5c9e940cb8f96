/- How the arguments of the parity laws are opened: strings, arrays of bytes. -/
import Derived.Test.YtmnnhmbolbepcaaOpen
import Derived.Test.YtmnnhmbolbepcaaParPart
import Derived.Deep.Slices
namespace Go.Proofs.Ytmnnhmbolbepcaa
open Go.ChangeShapes Go.WideShapes Go.ChangeAt Go.RowKit Go.Deep

/-- an argument that is an array of n bytes -/
def IsArr (n : Nat) (v : Value) : Prop := ∃ l : List UInt8, l.length = n ∧ v = .agg (vals l).toArray

section
variable {H : Type} {enc : TypeId × Value → H} {P : Program} {W : World} {base : Nat} {spare : Nat → Bool} {held : Bool}

/-- cells that are all bytes are a list of bytes -/
theorem bytes_of_each : ∀ cs : List Value, (∀ i (hi : i < cs.length), ∃ a : UInt8, cs[i] = .int .u8 (u a)) → ∃ l : List UInt8, l.length = cs.length ∧ cs = vals l
  | [], _ => ⟨[], rfl, rfl⟩
  | c :: cs, hb => by
    obtain ⟨a, ha⟩ := hb 0 (by simp)
    obtain ⟨l, hl, hcs⟩ := bytes_of_each cs (fun i hi => by
      obtain ⟨b, hbb⟩ := hb (i + 1) (by simpa using hi)
      exact ⟨b, by simpa using hbb⟩)
    refine ⟨a :: l, by simp [hl], ?_⟩
    have e : c = .int .u8 (u a) := ha
    rw [e]
    show _ :: cs = _ :: vals l
    rw [← hcs]

/-- cells that read as an array of bytes are bytes -/
theorem trod_bytes {t e : TypeId} {n fuel : Nat} {cs : List Value} {x : DataW H × List MemPlace} (ht : P.underlying t = some (.array n e)) (he : P.underlying e = some (.int .u8)) (hc : P.cellsOf e = 1) (hn : P.cellsOf t = n)
    (h : DataW.trod enc P W base spare held fuel t cs = some x) : ∃ l : List UInt8, l.length = n ∧ cs = vals l := by
  obtain ⟨xs, m, _, _, hlen, hxs, hel⟩ := DataW.trod_array ht h
  rw [hn] at hlen
  have hb : ∀ i (hi : i < cs.length), ∃ a : UInt8, cs[i] = .int .u8 (u a) := by
    intro i hi
    have h1 := hel i (by omega)
    rw [hc, Nat.mul_one] at h1
    have h2 : (cs.drop i).take 1 = [cs[i]] := by rw [List.drop_eq_getElem_cons hi]; rfl
    rw [h2] at h1
    have hx : xs[i]? = some (xs[i]'(by omega)) := List.getElem?_eq_getElem (by omega)
    rw [hx] at h1
    obtain ⟨k, e1, _, e3⟩ := DataW.trod_int he h1
    obtain ⟨a, ha⟩ := u_wf e3
    injection e1 with e1 _
    exact ⟨a, by rw [e1, ha]⟩
  obtain ⟨l, hl, hcs⟩ := bytes_of_each cs hb
  exact ⟨l, by omega, hcs⟩

theorem okWide_arr {t e : TypeId} {n : Nat} {r : Reach} {b0 : Nat} {v : Value} (ht : P.underlying t = some (.array n e)) (hv : Value.okWide P W r b0 t v) : ∃ cs, v = .agg cs := by
  simp only [Value.okWide, ht] at hv
  obtain ⟨cs, h1, _⟩ := hv
  exact ⟨cs, h1⟩

theorem open_arr {t e : TypeId} {n b0 : Nat} {r : Reach} {v : Value} {d : DataW H} {p : List MemPlace} (ht : P.underlying t = some (.array n e)) (he : P.underlying e = some (.int .u8)) (hc : P.cellsOf e = 1) (hn : P.cellsOf t = n)
    (hv : Value.okWide P W r b0 t v) (h : DataW.Trod enc P W base spare held t v d p) : IsArr n v := by
  obtain ⟨cs, rfl⟩ := okWide_arr ht hv
  obtain ⟨fuel, hf⟩ := h
  obtain ⟨l, hl, hcs⟩ := trod_bytes ht he hc hn hf
  refine ⟨l, hl, ?_⟩
  congr 1
  apply Array.ext'
  exact hcs

end

section
variable {H : Type} {enc : TypeId × Value → H} {W : World} {base : Nat}

theorem open_arr3 {v : Value} {d : DataW H} {p : List MemPlace} (hv : Value.okWide Try.prog W .any base 40 v) (h : DataW.Trod enc Try.prog W 0 (fun _ => true) true 40 v d p) : IsArr 3 v :=
  open_arr Try.underlying40 Try.underlying5 (by kernel_rfl) (by kernel_rfl) hv h
theorem open_arr2 {v : Value} {d : DataW H} {p : List MemPlace} (hv : Value.okWide Try.prog W .any base 42 v) (h : DataW.Trod enc Try.prog W 0 (fun _ => true) true 42 v d p) : IsArr 2 v :=
  open_arr Try.underlying42 Try.underlying5 (by kernel_rfl) (by kernel_rfl) hv h
theorem open_str {v : Value} {d : DataW H} {p : List MemPlace} (hv : Value.okWide Try.prog W .any base 9 v) (h : DataW.Trod enc Try.prog W 0 (fun _ => true) true 9 v d p) : ∃ s : ByteArray, v = .string s := by
  obtain ⟨s, rfl, _⟩ := Go.ChangeMaps.open_string Try.underlying9 hv h
  exact ⟨s, rfl⟩

end

end Go.Proofs.Ytmnnhmbolbepcaa
