/- A slice of shares as an argument. -/
import Derived.Test.YtffmnldhklejcaaShOpen
import Derived.Test.YtffmnldhklejcaaShJoinsW
namespace Go.Proofs.Ytffmnldhklejcaa
open Go.ChangeShapes Go.WideShapes Go.ChangeAt Go.RowKit Go.Deep
section
variable {H : Type} {enc : TypeId × Value → H} {W : World} {base : Nat}
theorem spot_none {W : World} {a : Addr} {v : Value} (h : W.cell? ((a.add (0 * 33)).add 0) = some v) : a = ⟨a.block, a.off, none⟩ := by
  have e : (a.add (0 * 33)).add 0 = a := by simp [Addr.add]
  rw [e] at h
  cases a with
  | mk b o sp =>
    cases sp with
    | none => rfl
    | some x =>
      simp only [World.cell?] at h
      split at h
      · simp at h
      · cases h
theorem open_shares {v : Value} {d : DataW H} {p : List MemPlace} (hv : Value.okWide Try.prog W .any base 25 v) (h : DataW.Trod enc Try.prog W 0 (fun _ => true) true 25 v d p) : IsShs W v := by
  obtain ⟨a0, len0, cap0, rfl⟩ := okWide_slice Try.underlying25 hv
  obtain ⟨fuel, hf⟩ := h
  have hc : Try.prog.cellsOf 34 = 33 := by kernel_rfl
  rcases Go.Deep.open_slice Try.underlying25 hf with ⟨hcs, _⟩ | ⟨a, len, cap, m, n, D, Pl, hcs, _, hl, hm, hmm, _, hx⟩
  · simp [Value.cells] at hcs
    obtain ⟨rfl, rfl, rfl⟩ := hcs
    exact ⟨none, [], 0, rfl, Nat.le_refl _, by decide, Shs.nil _ _⟩
  · simp [Value.cells] at hcs
    obtain ⟨rfl, rfl, rfl⟩ := hcs
    rw [hc] at hx
    have hle : len0 ≤ m := by rw [hmm]; split <;> omega
    have hx2 : ∀ i, i < len0 → ∃ l : List UInt8, l.length = 33 ∧ W.cells? 0 (a.add (i * 33)) 33 = some (vals l) := fun i hi => by
      obtain ⟨cs', h1, h2⟩ := hx i (by omega)
      obtain ⟨l, hl1, rfl⟩ := trod_shareB Try.underlying34 ⟨rfl, rfl⟩ ⟨rfl, rfl⟩ Try.underlying23 Try.underlying5 (by kernel_rfl) (by kernel_rfl) (by kernel_rfl) h2
      exact ⟨l, hl1, h1⟩
    obtain ⟨f, hf2⟩ := Go.Deep.choose_lt hx2
    refine ⟨some a, (List.range len0).map f, cap0, by simp, by simpa using hl, hm, ?_, fun hne => ?_⟩
    · intro x hx
      obtain ⟨i, hi, rfl⟩ := List.mem_map.1 hx
      exact (hf2 i (by simpa using hi)).1
    · have hcell : ∀ i, i < len0 → ∀ j, j < 33 → W.cell? ((a.add (i * 33)).add j) = (vals (f i))[j]? := fun i hi j hj => (World.cells?_some (hf2 i hi).2).2.2 j hj
      have h0 : 0 < len0 := by
        rcases Nat.eq_zero_or_pos len0 with e | e
        · subst e; simp at hne
        · exact e
      have hs : a = ⟨a.block, a.off, none⟩ := by
        have hc0 := hcell 0 h0 0 (by omega)
        rw [List.getElem?_eq_getElem (by rw [vals_length, (hf2 0 h0).1]; omega)] at hc0
        exact spot_none hc0
      refine ⟨a.block, a.off, by rw [← hs], fun i hi j v hv => ?_⟩
      have hi' : i < len0 := by simpa using hi
      have hj : j < 33 := by
        have := (List.getElem?_eq_some_iff.1 hv).1
        rw [vals_length] at this
        simp only [List.getElem_map, List.getElem_range] at this
        rwa [(hf2 i hi').1] at this
      have h1 := hcell i hi' j hj
      rw [hs, Addr.add_mid, Addr.add_mid] at h1
      rw [h1, ← hv]
      simp
end

theorem ShareJoins_any (v : Value) {w0 : World} (h : IsShs w0 v) (_ : World := w0) :
    Calls Try.prog 8 #[v] w0 fun e w' => e = .returned (.bool true) ∧ Below w0.heap.size w0 w' := by
  obtain ⟨A, L, c, rfl, _, _, hL⟩ := h
  by_cases h10 : L.length ≤ 10
  · by_cases hg : Good L
    · exact ShareJoins_good A _ c L w0 h10 rfl hL hg
    · exact ShareJoins_bad A _ c L w0 h10 rfl hL hg
  · exact ShareJoins_long A _ c w0 (by omega)

end Go.Proofs.Ytffmnldhklejcaa
