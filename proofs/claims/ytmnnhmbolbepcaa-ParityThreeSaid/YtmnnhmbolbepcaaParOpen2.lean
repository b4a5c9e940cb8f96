/- A slice of parts as an argument. -/
import Derived.Test.YtmnnhmbolbepcaaParOpen
import Derived.Test.YtmnnhmbolbepcaaParJoins
namespace Go.Proofs.Ytmnnhmbolbepcaa
open Go.ChangeShapes Go.WideShapes Go.ChangeAt Go.RowKit Go.Deep

/-- an argument that is a slice of parts -/
def IsPts (w : World) (v : Value) : Prop := ∃ (A : Option Addr) (L : List Pt) (c : Nat), v = .slice A L.length c ∧ L.length ≤ c ∧ c ≤ maxLen ∧ Pts w A L

section
variable {H : Type} {enc : TypeId × Value → H} {W : World} {base : Nat}
theorem trod_partG {P : Program} {spare : Nat → Bool} {held : Bool} {t k e : TypeId} {fuel : Nat} {f0 f1 : Field} {cs : List Value} {x : DataW H × List MemPlace} (ht : P.underlying t = some (.struct #[f0, f1])) (h0 : f0.type = e ∧ f0.offset = 0) (h1 : f1.type = k ∧ f1.offset = 1)
    (hk : P.underlying k = some .string) (he : P.underlying e = some (.int .i64)) (hc : P.cellsOf e = 1) (hn : P.cellsOf k = 1) (hs : P.cellsOf t = 2)
    (h : DataW.trod enc P W base spare held fuel t cs = some x) : ∃ p : Pt, cs = pc p := by
  obtain ⟨xs, m, _, _, hlen, hxs, hf⟩ := DataW.trod_struct ht h
  have hxs' : xs.length = 2 := hxs
  rw [hs] at hlen
  have g0 := hf 0 f0 rfl
  have g1 := hf 1 f1 rfl
  rw [h0.1, h0.2, hc] at g0
  rw [h1.1, h1.2, hn] at g1
  match cs, hlen with
  | [a, b], _ =>
    have e0 : ([a, b].drop 0).take 1 = [a] := rfl
    have e1 : ([a, b].drop 1).take 1 = [b] := rfl
    rw [e0, List.getElem?_eq_getElem (by omega)] at g0
    rw [e1, List.getElem?_eq_getElem (by omega)] at g1
    obtain ⟨q, q1, _, _⟩ := DataW.trod_int he g0
    obtain ⟨s, s1, _, _⟩ := DataW.trod_string hk g1
    injection q1 with q1 _
    injection s1 with s1 _
    exact ⟨(q, s), by rw [q1, s1]; rfl⟩
theorem trod_part {fuel : Nat} {cs : List Value} {x : DataW H × List MemPlace} (h : DataW.trod enc Try.prog W 0 (fun _ => true) true fuel 30 cs = some x) : ∃ p : Pt, cs = pc p :=
  trod_partG Try.underlying30 ⟨rfl, rfl⟩ ⟨rfl, rfl⟩ Try.underlying9 Try.underlying3 (by kernel_rfl) (by kernel_rfl) (by kernel_rfl) h
theorem spot_none {W : World} {a : Addr} {v : Value} {n : Nat} (h : W.cell? ((a.add (0 * n)).add 0) = some v) : a = ⟨a.block, a.off, none⟩ := by
  have e : (a.add (0 * n)).add 0 = a := by simp [Addr.add]
  rw [e] at h
  cases a with
  | mk b o sp =>
    cases sp with
    | none => rfl
    | some x =>
      simp only [World.cell?] at h
      split at h
      · simp at h
      · cases h
theorem open_parts {v : Value} {d : DataW H} {p : List MemPlace} (hv : Value.okWide Try.prog W .any base 24 v) (h : DataW.Trod enc Try.prog W 0 (fun _ => true) true 24 v d p) : IsPts W v := by
  obtain ⟨a0, len0, cap0, rfl⟩ := okWide_slice Try.underlying24 hv
  obtain ⟨fuel, hf⟩ := h
  have hc : Try.prog.cellsOf 30 = 2 := by kernel_rfl
  rcases Go.Deep.open_slice Try.underlying24 hf with ⟨hcs, _⟩ | ⟨a, len, cap, m, n, D, Pl, hcs, _, hl, hm, hmm, _, hx⟩
  · simp [Value.cells] at hcs
    obtain ⟨rfl, rfl, rfl⟩ := hcs
    exact ⟨none, [], 0, rfl, Nat.le_refl _, by decide, Pts.nil _ _⟩
  · simp [Value.cells] at hcs
    obtain ⟨rfl, rfl, rfl⟩ := hcs
    rw [hc] at hx
    have hle : len0 ≤ m := by rw [hmm]; split <;> omega
    have hx2 : ∀ i, i < len0 → ∃ q : Pt, W.cells? 0 (a.add (i * 2)) 2 = some (pc q) := fun i hi => by
      obtain ⟨cs', h1, h2⟩ := hx i (by omega)
      obtain ⟨q, rfl⟩ := trod_part h2
      exact ⟨q, h1⟩
    obtain ⟨f, hf2⟩ := Go.Deep.choose_lt hx2
    refine ⟨some a, (List.range len0).map f, cap0, by simp, by simpa using hl, hm, fun hne => ?_⟩
    have hcell : ∀ i, i < len0 → ∀ j, j < 2 → W.cell? ((a.add (i * 2)).add j) = (pc (f i))[j]? := fun i hi j hj => (World.cells?_some (hf2 i hi)).2.2 j hj
    have h0 : 0 < len0 := by
      rcases Nat.eq_zero_or_pos len0 with e | e
      · subst e; simp at hne
      · exact e
    have hs : a = ⟨a.block, a.off, none⟩ := spot_none (n := 2) (v := .int .i64 (f 0).1) (hcell 0 h0 0 (by omega))
    refine ⟨a.block, a.off, by rw [← hs], fun i hi => ?_⟩
    have hi' : i < len0 := by simpa using hi
    have h1 := hcell i hi' 0 (by omega)
    have h2 := hcell i hi' 1 (by omega)
    rw [hs, Addr.add_mid, Addr.add_mid] at h1 h2
    simp only [List.getElem_map, List.getElem_range]
    exact ⟨h1, h2⟩
end

theorem ParityJoins_any (v : Value) {w0 : World} (h : IsPts w0 v) (n : Int) (_ : (Lit.int .i64 n).wf = true) (_ : World := w0) :
    Calls Try.prog 6 #[v, .int .i64 n] w0 fun e w' => e = .returned (.bool true) ∧ Below w0.heap.size w0 w' := by
  obtain ⟨A, L, c, rfl, _, _, hL⟩ := h
  by_cases h1 : 12 < L.length ∨ (1800 < n ∧ n ≤ 65536)
  · exact ParityJoins_out A _ c n w0 h1
  · exact ParityJoins_in A c L n w0 h1 hL

end Go.Proofs.Ytmnnhmbolbepcaa
