/- The walk of the reference's At of shares. -/
import Derived.Test.YtffmnldhklejcaaShSums
namespace Go.Proofs.Ytffmnldhklejcaa
open Go.RowKit

/-- the places of shares, and their bytes at an index -/
def xsOf (L : List (List UInt8)) : List UInt8 := L.map (·.getD 0 0)
def ysOf (L : List (List UInt8)) (i : Nat) : List UInt8 := L.map (·.getD (i + 1) 0)
/-- the key that shares tell at a place -/
noncomputable def keyAt (L : List (List UInt8)) (x : UInt8) : List UInt8 := (List.range 32).map fun i => (Gf.atS (xsOf L) (ysOf L i) x).1
theorem keyAt_length (L : List (List UInt8)) (x : UInt8) : (keyAt L x).length = 32 := by simp [keyAt]

theorem results_cell_tmp {P : Program} {fn : Func} {p q : Tmp} {ty : TypeId} (h : fn.results = #[.cell p ty, .tmp q]) (tmps : Array Value) (w : World) (g : Nat) (t : TypeId) (cs : Array Value) (fr : Nat × Nat) (d : TypeDesc)
    (hp : tmps.getD p undef = .pointer (some ⟨g, 0, none⟩)) (hg : w.heap[g]? = some (.cells cs t fr))
    (hu : P.underlying ty = some d) (hd : (match d with | .struct _ | .array _ _ => true | _ => false) = true) (hi : (P.info? ty).map (·.size) = some cs.size) :
    (results fn tmps).run P w = .ok (.tuple #[.agg cs, tmps.getD q undef]) w := by
  have hp' : tmps[p]?.getD undef = .pointer (some ⟨g, 0, none⟩) := by simpa using hp
  simp [results, h, hp', asAddr, run_loadVar_row w g t ty cs fr d hg hu hd hi]

/-- three shares in memory, byte by byte -/
theorem Shs.three {W : World} {A : Option Addr} {L : List (List UInt8)} (h : Shs W A L) (h3 : L.length = 3) : ∃ b o l0 l1 l2, A = some ⟨b, o, none⟩ ∧ L = [l0, l1, l2] ∧ l0.length = 33 ∧ l1.length = 33 ∧ l2.length = 33 ∧
    (∀ i, i < 33 → W.cell? ⟨b, o + i, none⟩ = some (.int .u8 (u (l0.getD i 0)))) ∧ (∀ i, i < 33 → W.cell? ⟨b, o + 33 + i, none⟩ = some (.int .u8 (u (l1.getD i 0)))) ∧ (∀ i, i < 33 → W.cell? ⟨b, o + 66 + i, none⟩ = some (.int .u8 (u (l2.getD i 0)))) := by
  match L, h3 with
  | [l0, l1, l2], _ =>
    obtain ⟨b, o, e, hc⟩ := h.2 (by simp)
    have k : ∀ j (hj : j < 3) i, i < 33 → W.cell? ⟨b, o + j * 33 + i, none⟩ = some (.int .u8 (u (([l0, l1, l2][j]'(by simpa using hj)).getD i 0))) := fun j hj i hi => by
      have hl : ([l0, l1, l2][j]'(by simpa using hj)).length = 33 := h.1 _ (List.getElem_mem _)
      have := hc j (by simpa using hj) i (.int .u8 (u (([l0, l1, l2][j]'(by simpa using hj)).getD i 0))) (by
        rw [List.getElem?_eq_getElem (by rw [vals_length, hl]; exact hi), vals_get _ i (by rw [hl]; exact hi), Gf.getD_eq (by rw [hl]; exact hi)])
      exact this
    exact ⟨b, o, l0, l1, l2, e, rfl, h.1 _ (by simp), h.1 _ (by simp), h.1 _ (by simp), fun i hi => by simpa using k 0 (by omega) i hi, fun i hi => by simpa using k 1 (by omega) i hi, fun i hi => by simpa using k 2 (by omega) i hi⟩

/-- a walk goes on in a world of which only so much is known -/
theorem world_gen {Q : Exit → Act → World → Prop} {x : Exit} {a : Act} {W : World} (p : World → Prop) (hp : p W) (h : ∀ W', p W' → Q x a W') : Q x a W := h W hp

theorem below_setRow {B : Nat} {w W : World} (h : Below B w W) {g : Nat} (hg : B ≤ g) (cs : Array Value) : Below B w (W.setRow g cs) :=
  h.trans ⟨rfl, rfl, rfl, by simp, fun k hk => setRow_other W g k cs (by omega)⟩

/-- what the walk keeps: the key so far -/
structure RaI (w W : World) (K : List UInt8) : Prop where
  r0 : W.heap[w.heap.size]? = some (.cells (vals (zs 32)).toArray 23 (0, 0))
  key : W.heap[w.heap.size + 1]? = some (.cells (vals K).toArray 23 (0, 0))
  b : Below w.heap.size w W
theorem RaI.below {w W W' : World} {K : List UInt8} (h : RaI w W K) (hb : Below W.heap.size W W') : RaI w W' K :=
  ⟨(hb.block _ (lt_of_block h.r0)).trans h.r0, (hb.block _ (lt_of_block h.key)).trans h.key, h.b.trans (hb.mono h.b.size)⟩
theorem RaI.two {w W : World} {K : List UInt8} (h : RaI w W K) (X Y : Obj) (n : Nat) : RaI w (((W.alloc X).alloc Y).drewN n) K :=
  h.below (below_drewN (((Below.refl W.heap.size W).alloc (Nat.le_refl _) _).alloc (by simp) _) _)
theorem RaI.set {w W : World} {K : List UInt8} (h : RaI w W K) (i : Nat) (a : UInt8) : RaI w (W.setCell ⟨w.heap.size + 1, i, none⟩ (.int .u8 (u a))) (K.set i a) :=
  ⟨(Below.heap_setCell _ _ _ _ (by simp)).trans h.r0, block_set h.key a, h.b.setCell (p := ⟨w.heap.size + 1, i, none⟩) (by simp) _⟩

set_option maxRecDepth 100000 in
set_option maxHeartbeats 1000000 in
theorem RKey_c (A : Option Addr) (n c : Nat) (L : List (List UInt8)) (x : Int) (a : UInt8) (w : World) (hn : n = L.length) (h3 : L.length = 3) (hx : x = u a) (hL : Shs w A L) :
    Calls Try.prog 26 #[.slice A n c, .int .u8 x] w fun e w' => e = .returned (.agg (vals (keyAt L a)).toArray) ∧ Below w.heap.size w w' := by
  subst hx
  obtain ⟨b, o, l0, l1, l2, rfl, rfl, h0, h1, h2, c0, c1, c2⟩ := hL.three h3
  obtain rfl : n = 3 := hn
  clear h3 hL h0 h1 h2
  go_enter Try.func26, Try.ntmps26
  go_wp2_with (refine wpList_alloc_run (by rfl) 23 (by rfl) _ (key_alloc _) ?_)
  have H0 : Hid (RaI w ((w.alloc (.cells (vals (zs 32)).toArray 23)).alloc (.cells (vals (zs 32)).toArray 23)) (zs 32)) := ⟨heap_alloc2_old _ _ _, heap_alloc2_new _ _ _, ((Below.refl _ w).alloc (Nat.le_refl _) _).alloc (by simp) _⟩
  go_loopw [6] (fun vi W => ∃ (i : Nat) (K : List UInt8), i ≤ 32 ∧ vi = .int .i64 i ∧ Hid (K.length = 32) ∧ Hid (∀ j, j < i → K.getD j 0 = (Gf.atS (xsOf [l0, l1, l2]) (ysOf [l0, l1, l2] j) a).1) ∧ RaI w W K) (fun vi _ => 32 - (intOf vi).toNat)
  case atStart => exact ⟨0, _, Nat.zero_le _, rfl, zs_length _, fun j h => absurd h (by omega), H0.out⟩
  case round =>
    clear H0
    obtain ⟨i, K, hi, rfl, HK, HV, hI⟩ := hrel
    by_cases hlt : i < 32
    · have i0 : (0 : Int) ≤ (i : Int) := by omega
      have i1 : (i : Int) < 32 := by omega
      have d0 := c0 0 (by omega)
      have d1 := c1 0 (by omega)
      have d2 := c2 0 (by omega)
      have e0 := c0 (i + 1) (by omega)
      have e1 := c1 (i + 1) (by omega)
      have e2 := c2 (i + 1) (by omega)
      have HI := Lib.hid hI
      clear c0 c1 c2 hI
      have hbl := lt_of_block HI.out.key
      have b0 := lt_of_cell (w := w) (p := ⟨b, o + 0, none⟩) (by rw [d0]; rfl)
      have keep : ∀ W', Below wr.heap.size wr W' → W'.cell? ⟨b, o, none⟩ = some (.int .u8 (u (l0.getD 0 0))) ∧ W'.cell? ⟨b, o + 33, none⟩ = some (.int .u8 (u (l1.getD 0 0))) ∧ W'.cell? ⟨b, o + 66, none⟩ = some (.int .u8 (u (l2.getD 0 0))) ∧
          W'.cell? ⟨b, o + 1 + i, none⟩ = some (.int .u8 (u (l0.getD (i + 1) 0))) ∧ W'.cell? ⟨b, o + 33 + 1 + i, none⟩ = some (.int .u8 (u (l1.getD (i + 1) 0))) ∧ W'.cell? ⟨b, o + 66 + 1 + i, none⟩ = some (.int .u8 (u (l2.getD (i + 1) 0))) := fun W' hb => by
        have hb2 : Below w.heap.size w W' := HI.out.b.trans (hb.mono HI.out.b.size)
        have k : ∀ j v, w.cell? ⟨b, j, none⟩ = some v → W'.cell? ⟨b, j, none⟩ = some v := fun j v hv => (hb2.cell (lt_of_cell (by rw [hv]; rfl))).trans hv
        exact ⟨k _ _ d0, k _ _ d1, k _ _ d2, by rw [show o + 1 + i = o + (i + 1) from by omega]; exact k _ _ e0, by rw [show o + 33 + 1 + i = o + 33 + (i + 1) from by omega]; exact k _ _ e1, by rw [show o + 66 + 1 + i = o + 66 + (i + 1) from by omega]; exact k _ _ e2⟩
      have HKP := Lib.hid keep
      have hst := keep wr (Below.refl _ _)
      have HAT : Hid ((Gf.atS (xsOf [l0, l1, l2]) (ysOf [l0, l1, l2] i) a) = Gf.atS [l0.getD 0 0, l1.getD 0 0, l2.getD 0 0] [l0.getD (i + 1) 0, l1.getD (i + 1) 0, l2.getD (i + 1) 0] a) := rfl
      obtain ⟨s0, s1, s2, s3, s4, s5⟩ := hst
      clear d0 d1 d2 e0 e1 e2 keep
      generalize l0.getD 0 0 = p0 at *
      generalize l1.getD 0 0 = p1 at *
      generalize l2.getD 0 0 = p2 at *
      generalize l0.getD (i + 1) 0 = q0 at *
      generalize l1.getD (i + 1) 0 = q1 at *
      generalize l2.getD (i + 1) 0 = q2 at *
      go_wp2_with fail
      go_region_held3 (fun W => W.cell? ⟨b, o, none⟩ = some (.int .u8 (u p0)) ∧ W.cell? ⟨b, o + 33, none⟩ = some (.int .u8 (u p1)) ∧ W.cell? ⟨b, o + 66, none⟩ = some (.int .u8 (u p2)) ∧
          W.cell? ⟨b, o + 1 + i, none⟩ = some (.int .u8 (u q0)) ∧ W.cell? ⟨b, o + 33 + 1 + i, none⟩ = some (.int .u8 (u q1)) ∧ W.cell? ⟨b, o + 66 + 1 + i, none⟩ = some (.int .u8 (u q2)))
        (first
          | exact HKP.out _ (Below.refl _ _).drew
          | exact HKP.out _ ((Below.refl _ _).drew.alloc (Nat.le_refl _) _)
          | exact HKP.out _ (((Below.refl _ _).drew.alloc (Nat.le_refl _) _).alloc (by simp) _)
          | exact HKP.out _ (below_drewN (((Below.refl _ _).alloc (Nat.le_refl _) _).alloc (by simp) _) _))
        (first | (go_at_call 25; refine (RAt_c _ _ _ _ _ _ _ [p0, p1, p2] [q0, q1, q2] a _ (by rfl) (by rfl) (by simp) (by rfl)
          (by first | exact Bytes.drew (bytes_of_block (t := 5) (fr := (0, 0)) [p0, p1, p2] (heap_alloc2_old _ _ _)) | exact Bytes.drew (bytes_of_block (t := 5) (fr := (0, 0)) [p0, p1, p2] (heap_alloc2_new _ _ _)))
          (by first | exact Bytes.drew (bytes_of_block (t := 5) (fr := (0, 0)) [q0, q1, q2] (heap_alloc2_old _ _ _)) | exact Bytes.drew (bytes_of_block (t := 5) (fr := (0, 0)) [q0, q1, q2] (heap_alloc2_new _ _ _)))).mono ?_; rintro e w' ⟨rfl, ⟨nd, rfl⟩⟩))
      all_goals
        refine world_gen (fun W => RaI w W K) (HI.out.two _ _ _) (fun W2 hI2 => ?_)
        have c3 := cell_byteD hI2.key i (by rw [HK.out]; exact hlt)
        have f3 := frozen_of_row W2 (w.heap.size + 1) i _ _ hI2.key
        have HI2 := Lib.hid hI2
        have HV2 : Hid (∀ j, j < i + 1 → (K.set i (Gf.atS [p0, p1, p2] [q0, q1, q2] a).1).getD j 0 = (Gf.atS (xsOf [l0, l1, l2]) (ysOf [l0, l1, l2] j) a).1) := fun j hj => by
          rw [getD_set _ _ _ _ (by rw [HK.out]; exact hlt)]
          split
          · rename_i e; rw [← e, HAT.out]
          · exact HV.out j (by omega)
        clear s0 s1 s2 s3 s4 s5 HKP HI hI2 HV
        go_wp2
        go_roundw
        case rel => exact ⟨i + 1, _, by omega, by go_num, by rw [Hid, List.length_set]; exact HK.out, HV2, HI2.out.set _ _⟩
        case measure => simp [intOf]; omega
    · have hi32 : i = 32 := by omega
      subst hi32
      have hK : K = keyAt [l0, l1, l2] a := by
        refine List.ext_getElem (by rw [HK.out, keyAt_length]) fun j h1 h2 => ?_
        have := HV.out j (by rw [← HK.out]; exact h1)
        rw [Gf.getD_eq h1] at this
        rw [this]
        simp [keyAt]
      have HI := Lib.hid hI
      have HKE := Lib.hid hK
      clear hI c0 c1 c2 hK
      go_wp2_with (first
        | refine wpList_load_row (by rfl) 23 (.tmp 5) (by rfl) (w.heap.size + 1) (by rfl) 23 (vals K).toArray (0, 0) _ HI.out.key Try.underlying23 (by rfl) (by rw [List.size_toArray, vals_length, HK.out]; exact key_size) ?_
        | refine wpList_store_row (by rfl) 23 (.tmp 4) (.tmp 53) (by rfl) w.heap.size (vals K).toArray (by rfl) (by rfl) 23 (vals (zs 32)).toArray HI.out.r0 (by rw [List.size_toArray, vals_length, HK.out]; exact key_size) (by simp [vals_length, zs_length, HK.out]) (u8_all K) ?_)
      refine bodyPost_ret (results_cell_row (by rfl) _ _ w.heap.size 23 (vals K).toArray (0, 0) _ (by rfl) (setRow_heap _ _ _ _ _ _ HI.out.r0) Try.underlying23 (by rfl) (by rw [List.size_toArray, vals_length, HK.out]; exact key_size)) rfl ⟨by rw [HKE.out], below_setRow HI.out.b (Nat.le_refl _) _⟩

end Go.Proofs.Ytffmnldhklejcaa
