/- How the arguments of the share laws are opened: keys, arrays of bytes, shares, slices of shares: each to bytes. -/
import Derived.Test.YtffmnldhklejcaaOpen
import Derived.Test.YtffmnldhklejcaaShSame
import Derived.Deep.Slices
namespace Go.Proofs.Ytffmnldhklejcaa
open Go.ChangeShapes Go.WideShapes Go.ChangeAt Go.RowKit Go.Deep

/-- an argument that is an array of n bytes -/
def IsArr (n : Nat) (v : Value) : Prop := ∃ l : List UInt8, l.length = n ∧ v = .agg (vals l).toArray

section
variable {H : Type} {enc : TypeId × Value → H} {P : Program} {W : World} {base : Nat} {spare : Nat → Bool} {held : Bool}

/-- cells that are all bytes are a list of bytes -/
theorem bytes_of_each : ∀ cs : List Value, (∀ i (hi : i < cs.length), ∃ a : UInt8, cs[i] = .int .u8 (u a)) → ∃ l : List UInt8, l.length = cs.length ∧ cs = vals l
  | [], _ => ⟨[], rfl, rfl⟩
  | c :: cs, hb => by
    obtain ⟨a, ha⟩ := hb 0 (by simp)
    obtain ⟨l, hl, hcs⟩ := bytes_of_each cs (fun i hi => by
      obtain ⟨b, hbb⟩ := hb (i + 1) (by simpa using hi)
      exact ⟨b, by simpa using hbb⟩)
    refine ⟨a :: l, by simp [hl], ?_⟩
    have e : c = .int .u8 (u a) := ha
    rw [e]
    show _ :: cs = _ :: vals l
    rw [← hcs]

/-- cells that read as an array of bytes are bytes -/
theorem trod_bytes {t e : TypeId} {n fuel : Nat} {cs : List Value} {x : DataW H × List MemPlace} (ht : P.underlying t = some (.array n e)) (he : P.underlying e = some (.int .u8)) (hc : P.cellsOf e = 1) (hn : P.cellsOf t = n)
    (h : DataW.trod enc P W base spare held fuel t cs = some x) : ∃ l : List UInt8, l.length = n ∧ cs = vals l := by
  obtain ⟨xs, m, _, _, hlen, hxs, hel⟩ := DataW.trod_array ht h
  rw [hn] at hlen
  have hb : ∀ i (hi : i < cs.length), ∃ a : UInt8, cs[i] = .int .u8 (u a) := by
    intro i hi
    have h1 := hel i (by omega)
    rw [hc, Nat.mul_one] at h1
    have h2 : (cs.drop i).take 1 = [cs[i]] := by rw [List.drop_eq_getElem_cons hi]; rfl
    rw [h2] at h1
    have hx : xs[i]? = some (xs[i]'(by omega)) := List.getElem?_eq_getElem (by omega)
    rw [hx] at h1
    obtain ⟨k, e1, _, e3⟩ := DataW.trod_int he h1
    obtain ⟨a, ha⟩ := u_wf e3
    injection e1 with e1 _
    exact ⟨a, by rw [e1, ha]⟩
  obtain ⟨l, hl, hcs⟩ := bytes_of_each cs hb
  exact ⟨l, by omega, hcs⟩

theorem okWide_arr {t e : TypeId} {n : Nat} {r : Reach} {b0 : Nat} {v : Value} (ht : P.underlying t = some (.array n e)) (hv : Value.okWide P W r b0 t v) : ∃ cs, v = .agg cs := by
  simp only [Value.okWide, ht] at hv
  obtain ⟨cs, h1, _⟩ := hv
  exact ⟨cs, h1⟩

theorem open_arr {t e : TypeId} {n b0 : Nat} {r : Reach} {v : Value} {d : DataW H} {p : List MemPlace} (ht : P.underlying t = some (.array n e)) (he : P.underlying e = some (.int .u8)) (hc : P.cellsOf e = 1) (hn : P.cellsOf t = n)
    (hv : Value.okWide P W r b0 t v) (h : DataW.Trod enc P W base spare held t v d p) : IsArr n v := by
  obtain ⟨cs, rfl⟩ := okWide_arr ht hv
  obtain ⟨fuel, hf⟩ := h
  obtain ⟨l, hl, hcs⟩ := trod_bytes ht he hc hn hf
  refine ⟨l, hl, ?_⟩
  congr 1
  apply Array.ext'
  exact hcs

/-- cells that read as a struct of a byte and an array of bytes are bytes -/
theorem trod_shareB {t k e : TypeId} {n fuel : Nat} {f0 f1 : Field} {cs : List Value} {x : DataW H × List MemPlace} (ht : P.underlying t = some (.struct #[f0, f1])) (h0 : f0.type = e ∧ f0.offset = 0) (h1 : f1.type = k ∧ f1.offset = 1)
    (hk : P.underlying k = some (.array n e)) (he : P.underlying e = some (.int .u8)) (hc : P.cellsOf e = 1) (hn : P.cellsOf k = n) (hs : P.cellsOf t = n + 1)
    (h : DataW.trod enc P W base spare held fuel t cs = some x) : ∃ l : List UInt8, l.length = n + 1 ∧ cs = vals l := by
  obtain ⟨xs, m, _, _, hlen, hxs, hf⟩ := DataW.trod_struct ht h
  have hxs' : xs.length = 2 := hxs
  rw [hs] at hlen
  have g0 := hf 0 f0 rfl
  have g1 := hf 1 f1 rfl
  rw [h0.1, h0.2, hc] at g0
  rw [h1.1, h1.2, hn] at g1
  match cs, hlen with
  | c :: cs, hlen =>
    have hl : cs.length = n := by simpa using hlen
    have e0 : ((c :: cs).drop 0).take 1 = [c] := rfl
    have e1 : ((c :: cs).drop 1).take n = cs := by rw [List.drop_succ_cons, List.drop_zero]; exact List.take_of_length_le (by omega)
    rw [e0, List.getElem?_eq_getElem (by omega)] at g0
    rw [e1, List.getElem?_eq_getElem (by omega)] at g1
    obtain ⟨q, q1, _, q3⟩ := DataW.trod_int he g0
    obtain ⟨a, ha⟩ := u_wf q3
    obtain ⟨l, hll, hcs⟩ := trod_bytes hk he hc hn g1
    injection q1 with q1 _
    exact ⟨a :: l, by simp [hll], by rw [q1, ha, hcs]; rfl⟩
end

section
variable {H : Type} {enc : TypeId × Value → H} {W : World} {base : Nat}

theorem open_key {v : Value} {d : DataW H} {p : List MemPlace} (hv : Value.okWide Try.prog W .any base 23 v) (h : DataW.Trod enc Try.prog W 0 (fun _ => true) true 23 v d p) : IsArr 32 v :=
  open_arr Try.underlying23 Try.underlying5 (by kernel_rfl) (by kernel_rfl) hv h
theorem open_arr64 {v : Value} {d : DataW H} {p : List MemPlace} (hv : Value.okWide Try.prog W .any base 31 v) (h : DataW.Trod enc Try.prog W 0 (fun _ => true) true 31 v d p) : IsArr 64 v :=
  open_arr Try.underlying31 Try.underlying5 (by kernel_rfl) (by kernel_rfl) hv h
theorem open_arr3 {v : Value} {d : DataW H} {p : List MemPlace} (hv : Value.okWide Try.prog W .any base 47 v) (h : DataW.Trod enc Try.prog W 0 (fun _ => true) true 47 v d p) : IsArr 3 v :=
  open_arr Try.underlying47 Try.underlying5 (by kernel_rfl) (by kernel_rfl) hv h
theorem open_share {v : Value} {d : DataW H} {p : List MemPlace} (hv : Value.okWide Try.prog W .any base 34 v) (h : DataW.Trod enc Try.prog W 0 (fun _ => true) true 34 v d p) : IsArr 33 v := by
  obtain ⟨cs, rfl, _⟩ := okWide_struct Try.underlying34 hv
  obtain ⟨fuel, hf⟩ := h
  obtain ⟨l, hl, hcs⟩ := trod_shareB Try.underlying34 ⟨rfl, rfl⟩ ⟨rfl, rfl⟩ Try.underlying23 Try.underlying5 (by kernel_rfl) (by kernel_rfl) (by kernel_rfl) hf
  refine ⟨l, hl, ?_⟩
  congr 1
  apply Array.ext'
  exact hcs
theorem open_str {v : Value} {d : DataW H} {p : List MemPlace} (hv : Value.okWide Try.prog W .any base 9 v) (h : DataW.Trod enc Try.prog W 0 (fun _ => true) true 9 v d p) : ∃ s : ByteArray, v = .string s := by
  obtain ⟨s, rfl, _⟩ := Go.ChangeMaps.open_string Try.underlying9 hv h
  exact ⟨s, rfl⟩

/-- an argument that is a slice of shares -/
def IsShs (w : World) (v : Value) : Prop := ∃ (A : Option Addr) (L : List (List UInt8)) (c : Nat), v = .slice A L.length c ∧ L.length ≤ c ∧ c ≤ maxLen ∧ Shs w A L
end

end Go.Proofs.Ytffmnldhklejcaa
