/- A range over a function whose iterator keeps cells of its own: the law, and parity.along, parity.at. -/
import Derived.Test.YtmnnhmbolbepcaaParBase
import Derived.RangeFuncNested
import Derived.RangeFuncBound
import Derived.RangeFuncCalls
import Derived.RangeFuncLeaves
import Derived.Shelf.Abstract
import Derived.Shelf.RegionOpen
import Derived.WalkKit
import Derived.OwnWalkIn
import Derived.TacticsInMore
import Derived.LoopNIn
import Derived.LoopIn
namespace Go.Proofs.Ytmnnhmbolbepcaa
open Go.RowKit Go.Shelf
set_option linter.unusedSimpArgs false
attribute [local go_sem] Oper.semAt_some

/-- whatever lies in blocks other than X and l lies as it lay -/
structure But (X l : Nat) (W W' : World) : Prop where
  size : W.heap.size ≤ W'.heap.size
  same : ∀ k, k < W.heap.size → k ≠ X → k ≠ l → W'.heap[k]? = W.heap[k]?
theorem But.refl (X l : Nat) (W : World) : But X l W W := ⟨Nat.le_refl _, fun _ _ _ _ => rfl⟩
theorem But.trans {X l : Nat} {A C D : World} (h : But X l A C) (k : But X l C D) : But X l A D :=
  ⟨Nat.le_trans h.size k.size, fun i hi h1 h2 => (k.same i (Nat.lt_of_lt_of_le hi h.size) h1 h2).trans (h.same i hi h1 h2)⟩
theorem But.put {X l : Nat} (W : World) (o : Obj) : But X l W (W.putObj l o) := ⟨by simp, fun k _ _ h => World.putObj_heap_other h⟩
theorem But.set {X l : Nat} (W : World) (j : Nat) (v : Value) : But X l W (W.setCell ⟨X, j, none⟩ v) :=
  ⟨by show W.heap.size ≤ (W.heap.modify _ _).size; rw [Array.size_modify]; exact Nat.le_refl _, fun k _ h _ => Below.heap_setCell _ _ _ _ h⟩

/-- what an iterator promises: N rounds, the k-th is handed encs k; it changes no block that lay when it was called, and wants every block kept but X and the loop's record -/
def Iter (F : Fence) (n : Nat) (P : Program) (g : Nat) (lb : Array Value) (encs : Nat → Array Value) (N X : Nat) (w : World) : Prop :=
  ∀ (l : Nat) (J : Nat → World → Prop) (W : World), Below w.heap.size w W → w.heap.size ≤ l → l < W.heap.size →
    (∀ k W1 W2, J k W1 → Below W.heap.size W1 W2 → J k W2) →
    (∀ k W1, k < N → J k W1 → YieldAt F (n - 1) P l (encs k) W1 fun e W' => e = .returned (.bool true) ∧ J (k + 1) W' ∧ But X l W1 W') →
    J 0 W → CallsIn F n P g (#[.func (.yield l) #[] #[]] ++ lb) W fun e W' => (∃ v, e = .returned v) ∧ J N W'

/-- how a round's body must be left -/
def iterPost (X : Nat) (I : Nat → World → Prop) (k : Nat) (W : World) : Exit → Act → World → Prop
  | .normal, _, W' => (W.heap.size ≤ W'.heap.size ∧ ∀ i, i < W.heap.size → i ≠ X → W'.heap[i]? = W.heap[i]?) ∧ I (k + 1) W'
  | _, _, _ => False

theorem below_put {W : World} {B l : Nat} (hl : B ≤ l) (o : Obj) : Below B W (W.putObj l o) := ⟨rfl, rfl, rfl, by simp, fun k hk => World.putObj_heap_other (by omega)⟩

/-- THE LAW of a loop over such an iterator -/
theorem wpIn_iter {F : Fence} {n : Nat} {P : Program} {g : Operand} {ps : Array Tmp} {assign body : Code} {Q : Exit → Act → World → Prop} {a : Act} {w : World}
    (hro : F.round = none) (h1 : 1 ≤ n) {gf : Nat} {lb : Array Value} (hg : a.eval g = .func (.func gf) #[] lb) (hFg : F.fn gf) (eg : ∀ args w, (callFunc gf args).run P w = .ok (.enter gf args) w)
    {encs : Nat → Array Value} {N X : Nat} (hX : X < w.heap.size) (hseq : Iter F (n - 1) P gf lb encs N X w) (hps : ∀ x, (encs x).size = ps.size)
    (I : Nat → World → Prop) (hI : ∀ k W1 W2, I k W1 → Below w.heap.size W1 W2 → I k W2) (h0 : I 0 w) (a₁ : Nat → Act)
    (hassign : ∀ (l x : Nat) (W : World) (K : Act → World → Prop), K (a₁ x) W →
      assign.wpIn (F.inRound l) (n - 1 - 1) P (Exit.then K (fun _ _ _ => False)) { tmps := (ps.zip (encs x)).foldl (fun t (p, v) => t.setIfInBounds p v) a.tmps, defers := [] } W)
    (hbody : ∀ (l k : Nat) (W : World), I k W → k < N → body.wpIn (F.inRound l) (n - 1 - 1) P (iterPost X I k W) (a₁ k) W)
    (hdone : ∀ (D : Nat) (W : World), w.heap.size ≤ D → I N W → W.heap[D]? = some (.deferred (some [])) → Q .normal { a with defers := { target := .collected D, args := #[] } :: a.defers } W) :
    (Code.rangeFunc g ps assign body).wpIn F n P Q a w := by
  refine wpIn_rangeFunc ?_
  intro fn hfn
  rw [hro]
  obtain ⟨rec, hrec⟩ : ∃ rec : LoopState → Option Code → Loop, rec = fun st pe => { state := st, pending := pe, fn, tmps := a.tmps, params := ps, assign, body, defers := w.heap.size } := ⟨_, rfl⟩
  obtain ⟨W1, hW1⟩ : ∃ W1, (w.alloc (.deferred (some []))).alloc (.loop (rec .ready none)) = W1 := ⟨_, rfl⟩
  have hL1 : W1.heap[w.heap.size + 1]? = some (.loop (rec .ready none)) := by rw [← hW1]; exact heap_at _ _ _ (by simp)
  have hK1 : W1.heap[w.heap.size]? = some (.deferred (some [])) := by rw [← hW1]; exact (Below.heap_alloc _ _ _ (by simp)).trans (World.alloc_heap_new w _)
  have hb1 : Below w.heap.size w W1 := by rw [← hW1]; exact ((Below.refl _ w).alloc (Nat.le_refl _) _).alloc (by simp) _
  have hs1 : W1.heap.size = w.heap.size + 1 + 1 := by rw [← hW1]; simp
  refine ⟨w.heap.size + 1, [{ target := .collected w.heap.size, args := #[] }], W1, { target := .fn (.func gf) lb, args := #[.func (.yield (w.heap.size + 1)) #[] #[]] }, W1, gf,
    #[.func (.yield (w.heap.size + 1)) #[] #[]] ++ lb, W1, ?_, ?_, ?_, ?_, fun _ => h1, ?_⟩
  · rw [← hW1, hrec]; exact run_enterLoop_outer _ _ _ _ _
  · simp only [resolve, hg]; simp [go_sem]
  · intro f' hf'; simp [Target.leads] at hf'; subst hf'; exact hFg
  · simp [invoke, go_sem, eg]
  · refine (hseq (w.heap.size + 1) (fun k W => I k W ∧ W.heap[w.heap.size + 1]? = some (.loop (rec .ready none)) ∧ W.heap[w.heap.size]? = some (.deferred (some []))) W1 hb1 (Nat.le_succ _) (by omega)
      (fun k A C hs hb => ⟨hI k A C hs.1 (hb.mono (by omega)), (hb.block _ (by omega)).trans hs.2.1, (hb.block _ (by omega)).trans hs.2.2⟩) ?_ ⟨hI 0 w W1 h0 hb1, hL1, hK1⟩).mono ?_
    · rintro k W hkN ⟨hi, hl, hk⟩
      have hlt : w.heap.size + 1 < W.heap.size := lt_of_block hl
      have hy := run_yield (P := P) (args := encs k) hl (by rw [hrec]; exact hps k)
      rw [hrec] at hy
      refine ⟨fn, _, assign, body, hy, roundIn_of_wpIn hfn (hassign _ k W _ ⟨_, run_beginRound hl (by rw [hrec]), ?_⟩)⟩
      obtain ⟨W2, hW2⟩ : ∃ W2, W2 = W.putObj (w.heap.size + 1) (.loop { rec .ready none with state := .busy }) := ⟨_, rfl⟩
      have hl2 : W2.heap[w.heap.size + 1]? = some (.loop { rec .ready none with state := .busy }) := by rw [hW2]; exact World.putObj_heap_same hlt
      have hk2 : W2.heap[w.heap.size]? = some (.deferred (some [])) := by rw [hW2]; exact (World.putObj_heap_other (by omega)).trans hk
      have hi2 : I k W2 := by rw [hW2]; exact hI k W _ hi (below_put (by omega) _)
      have hs2 : W2.heap.size = W.heap.size := by rw [hW2]; simp
      have hbt : But X (w.heap.size + 1) W W2 := by rw [hW2]; exact But.put _ _
      rw [← hW2]
      refine wpIn_mono (hbody _ k W2 hi2 hkN) ?_
      rintro e a3 W3 hp
      cases e with
      | normal =>
        obtain ⟨⟨hsz, hsame⟩, hi3⟩ := hp
        have hl3 := (hsame _ (lt_of_block hl2) (by omega)).trans hl2
        have hk3 := (hsame _ (lt_of_block hk2) (by omega)).trans hk2
        have hr := run_endRound (P := P) none hl3
        refine ⟨_, _, hr, rfl, ⟨hI _ W3 _ hi3 (below_put (by omega) _), ?_, (World.putObj_heap_other (by omega)).trans hk3⟩, ?_⟩
        · rw [World.putObj_heap_same (lt_of_block hl3), hrec]; rfl
        · exact (hbt.trans ⟨hsz, fun i h1 h2 _ => hsame i h1 h2⟩).trans (But.put _ _)
      | ret => exact hp.elim
      | exit id => exact hp.elim
      | goto t => exact hp.elim
      | panic ch => exact hp.elim
      | outgrown => exact hp.elim
    · rintro e W2 ⟨⟨v, rfl⟩, hi, hl, hk⟩
      refine ⟨none, _, by have := run_endLoop (P := P) hl (by rw [hrec]; simp); rw [hrec] at this; exact this, hdone _ _ (Nat.le_refl _) (hI _ W2 _ hi (below_put (by omega) _)) ((World.putObj_heap_other (by omega)).trans hk)⟩

end Go.Proofs.Ytmnnhmbolbepcaa
