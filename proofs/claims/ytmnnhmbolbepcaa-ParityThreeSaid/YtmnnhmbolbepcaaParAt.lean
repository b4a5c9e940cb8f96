/- parity.along, parity.at: what they hand back. -/
import Derived.Test.YtmnnhmbolbepcaaParIter
namespace Go.Proofs.Ytmnnhmbolbepcaa
open Go.RowKit Go.Shelf
set_option linter.unusedSimpArgs false
attribute [local go_sem] Oper.semAt_some

/-- bytes that lie in blocks of which P holds -/
def BytesN (P : Nat → Prop) (w : World) (A : Option Addr) (l : List UInt8) : Prop := ∀ (j : Nat) (h : j < l.length), ∃ ad, A = some ad ∧ P ad.block ∧ w.cell? (ad.add j) = some (.int .u8 (u l[j]))
theorem BytesN.bytes {P : Nat → Prop} {w : World} {A : Option Addr} {l : List UInt8} (h : BytesN P w A l) : Bytes w A l := fun j hj => let ⟨ad, e, _, hc⟩ := h j hj; ⟨ad, e, hc⟩
theorem cell_same {W W' : World} {a : Addr} (h : W'.heap[a.block]? = W.heap[a.block]?) : W'.cell? a = W.cell? a := by simp only [World.cell?, h]
theorem BytesN.keep {P : Nat → Prop} {W W' : World} {A : Option Addr} {l : List UInt8} (h : BytesN P W A l) (hk : ∀ k, P k → W'.heap[k]? = W.heap[k]?) : BytesN P W' A l := fun j hj => by
  obtain ⟨ad, e, hp, hc⟩ := h j hj
  exact ⟨ad, e, hp, (cell_same (by rw [block_of_add]; exact hk _ hp)).trans hc⟩

/-- what along's closure reads: the boxes of rows, xs, x; the rows -/
structure AI (P : Nat → Prop) (W : World) (bR bX bx rb ro rc n : Nat) (A : Nat → Option Addr) (c : Nat → Nat) (L : Nat → List UInt8) (AX : Option Addr) (cX : Nat) (xs : List UInt8) (x : UInt8) : Prop where
  pR : P bR
  pX : P bX
  px : P bx
  prb : P rb
  hR : W.cell? ⟨bR, 0, none⟩ = some (.slice (some ⟨rb, ro, none⟩) 3 rc)
  hX : W.cell? ⟨bX, 0, none⟩ = some (.slice AX 3 cX)
  hx : W.cell? ⟨bx, 0, none⟩ = some (.int .u8 (u x))
  row : ∀ t, t < 3 → W.cell? ⟨rb, ro + t, none⟩ = some (.slice (A t) n (c t))
  len : ∀ t, t < 3 → (L t).length = n
  rows : ∀ t, t < 3 → BytesN P W (A t) (L t)
  xsl : xs.length = 3
  xsb : BytesN P W AX xs
theorem AI.keep {P : Nat → Prop} {W W' : World} {bR bX bx rb ro rc n : Nat} {A : Nat → Option Addr} {c : Nat → Nat} {L : Nat → List UInt8} {AX : Option Addr} {cX : Nat} {xs : List UInt8} {x : UInt8}
    (h : AI P W bR bX bx rb ro rc n A c L AX cX xs x) (hk : ∀ k, P k → W'.heap[k]? = W.heap[k]?) : AI P W' bR bX bx rb ro rc n A c L AX cX xs x :=
  ⟨h.pR, h.pX, h.px, h.prb, (cell_same (hk _ h.pR)).trans h.hR, (cell_same (hk _ h.pX)).trans h.hX, (cell_same (hk _ h.px)).trans h.hx, fun t ht => (cell_same (hk _ h.prb)).trans (h.row t ht), h.len, fun t ht => (h.rows t ht).keep hk, h.xsl, h.xsb.keep hk⟩
/-- a byte of a row -/
theorem AI.byte {P : Nat → Prop} {W : World} {bR bX bx rb ro rc n : Nat} {A : Nat → Option Addr} {c : Nat → Nat} {L : Nat → List UInt8} {AX : Option Addr} {cX : Nat} {xs : List UInt8} {x : UInt8}
    (h : AI P W bR bX bx rb ro rc n A c L AX cX xs x) (t k : Nat) (ht : t < 3) (hk : k < n) : ∃ ad, A t = some ad ∧ W.cell? (ad.add k) = some (.int .u8 (u ((L t).getD k 0))) := by
  have hl : k < (L t).length := by rw [h.len t ht]; exact hk
  obtain ⟨ad, e, _, hc⟩ := h.rows t ht k hl
  exact ⟨ad, e, by rw [Gf.getD_eq hl]; exact hc⟩

/-- the k-th value -/
noncomputable def atV (xs : List UInt8) (L : Nat → List UInt8) (x : UInt8) (k : Nat) : UInt8 := (Gf.atS xs [(L 0).getD k 0, (L 1).getD k 0, (L 2).getD k 0] x).1

set_option maxRecDepth 100000 in
set_option maxHeartbeats 2000000 in
theorem Along1_i (m : Nat) (P : Nat → Prop) (X : Nat) (w0 : World) (hP : ∀ k, P k → k < w0.heap.size ∧ k ≠ X) (hXl : X < w0.heap.size) (bR bX bx rb ro rc n : Nat) (A : Nat → Option Addr) (c : Nat → Nat) (L : Nat → List UInt8) (AX : Option Addr) (cX : Nat) (xs : List UInt8) (x : UInt8)
    (h : AI P w0 bR bX bx rb ro rc n A c L AX cX xs x) (hn : n ≤ 100000) (hm : 1 ≤ m) :
    Iter Fence.wide m Try.prog 28 #[.pointer (some ⟨bR, 0, none⟩), .pointer (some ⟨bX, 0, none⟩), .pointer (some ⟨bx, 0, none⟩)] (fun k => #[.int .i64 (k : Int), .int .u8 (u (atV xs L x k))]) n X w0 := fun l J W hW hl hl2 hJ hY h0 => by
  have HA : Hid (AI P W bR bX bx rb ro rc n A c L AX cX xs x) := h.keep (fun k hk => hW.block k (hP k hk).1)
  have HP := Lib.hid hP
  have HJ := Lib.hid hJ
  have HY := Lib.hid hY
  have HW := Lib.hid hW
  have hmk : ∀ W : World, (Instr.makeSlice 28 (.int .i64 3) (.int .i64 3)).run Try.prog W = .ok (.slice (some ⟨W.heap.size, 0, none⟩) 3 3) (W.alloc (.cells (vals (zs 3)).toArray 5)) := bytes_make 3 (by omega)
  clear h hP hJ hY hW
  refine callsIn_of_wp Try.func28 rfl trivial ?_ rfl
  simp only [Try.ntmps28, List.size_toArray, List.length_cons, List.length_nil, Nat.reduceAdd, Nat.reduceSub, Array.replicate_succ, Array.replicate_zero, List.push_toArray, List.append_toArray, List.nil_append, List.cons_append]
  have r1 := HA.out.hR
  have r2 := HA.out.row 0 (by omega)
  rw [Nat.add_zero] at r2
  have HA1 : Hid (AI P (W.alloc (.cells (vals (zs 3)).toArray 5)) bR bX bx rb ro rc n A c L AX cX xs x) := HA.out.keep (fun k hk => Below.heap_alloc _ _ _ (Nat.lt_of_lt_of_le (HP.out k hk).1 HW.out.size))
  have q1 := HA1.out.hR
  have q2 := HA1.out.row 0 (by omega)
  rw [Nat.add_zero] at q2
  gi_wp2
  have hXW : X < W.heap.size := Nat.lt_of_lt_of_le hXl HW.out.size
  have HXW := Lib.hid hXW
  have HL2 := Lib.hid hl2
  have HL := Lib.hid hl
  have HWS := Lib.hid HW.out.size
  have HJ1 : Hid (J 0 (W.alloc (.cells (vals (zs 3)).toArray 5))) := HJ.out 0 W _ h0 ((Below.refl _ _).alloc (Nat.le_refl _) _)
  have HY1 : Hid ((W.alloc (.cells (vals (zs 3)).toArray 5)).heap[W.heap.size]? = some (.cells (vals (zs 3)).toArray 5 (0, 0))) := heap_at _ _ _ rfl
  clear r1 r2 q1 q2 HA h0 hXl hl hl2 HW hmk hXW
  generalize W.alloc (.cells (vals (zs 3)).toArray 5) = W1 at *
  generalize W.heap.size = y at *
  gi_loopw [17] (fun i wr => ∃ (k : Nat) (Y : List UInt8), k ≤ n ∧ i = .int .i64 k ∧ Hid (Y.length = 3) ∧ Hid (J k wr) ∧ Hid (AI P wr bR bX bx rb ro rc n A c L AX cX xs x) ∧ Hid (wr.heap[y]? = some (.cells (vals Y).toArray 5 (0, 0)))) (fun i _ => n - (intOf i).toNat)
  case atStart => exact ⟨0, zs 3, Nat.zero_le _, rfl, zs_length _, HJ1, HA1, HY1⟩
  case round =>
    clear HJ1 HA1 HY1
    obtain ⟨k, Y, hk, rfl, HYL, HJk, HAk, HYk⟩ := hrel
    by_cases hlt : k < n
    · have k0 : (0 : Int) ≤ (k : Int) := by omega
      have k1 : (k : Int) < (n : Int) := by omega
      have r1 := HAk.out.hR
      gi_wp2
      clear r1
      gi_loopw [22] (fun i wr2 => ∃ (t : Nat) (Y : List UInt8), t ≤ 3 ∧ i = .int .i64 t ∧ Hid (Y.length = 3) ∧ Hid (∀ s, s < t → Y.getD s 0 = (L s).getD k 0) ∧ Hid (J k wr2) ∧ Hid (AI P wr2 bR bX bx rb ro rc n A c L AX cX xs x) ∧ Hid (wr2.heap[y]? = some (.cells (vals Y).toArray 5 (0, 0)))) (fun i _ => 3 - (intOf i).toNat)
      case atStart => exact ⟨0, Y, Nat.zero_le _, rfl, HYL, fun s hs => absurd hs (by omega), HJk, HAk, HYk⟩
      case round =>
        clear HYL HYk HAk HJk Y
        obtain ⟨t, Y, ht, rfl, HYL, HYV, HJk, HAk, HYk⟩ := hrel
        by_cases hlt2 : t < 3
        · have t0 : (0 : Int) ≤ (t : Int) := by omega
          have t1 : (t : Int) < 3 := by omega
          have r1 := HAk.out.hR
          have r2 := HAk.out.row t hlt2
          obtain ⟨ad, e, hb⟩ := HAk.out.byte t k hlt2 hlt
          rw [e] at r2
          have c3 := cell_byteD HYk.out t (by rw [HYL.out]; exact hlt2)
          have f3 := frozen_of_row wr y t _ _ HYk.out
          have HV2 : Hid (∀ s, s < t + 1 → (Y.set t ((L t).getD k 0)).getD s 0 = (L s).getD k 0) := fun s hs => by
            rw [getD_set _ _ _ _ (by rw [HYL.out]; exact hlt2)]
            by_cases e : t = s
            · rw [if_pos e, e]
            · rw [if_neg e]; exact HYV.out s (by omega)
          clear e
          generalize (L t).getD k 0 = q at *
          gi_wp2
          go_roundw
          case rel => exact ⟨t + 1, Y.set t q, by omega, by go_num, by rw [Hid, List.length_set]; exact HYL.out, HV2, HJ.out k wr _ HJk.out ((Below.refl y wr).setCell (p := ⟨y, t, none⟩) (Nat.le_refl _) _),
            HAk.out.keep (fun i hi => Below.heap_setCell _ _ _ _ (fun e => by have h1 := (HP.out i hi).1; have h2 := HWS.out; have h3 : i = y := e; omega)), block_set HYk.out q⟩
          case measure => simp [intOf]; omega
        · obtain rfl : t = 3 := by omega
          have hYE : Y = [(L 0).getD k 0, (L 1).getD k 0, (L 2).getD k 0] := by
            refine List.ext_getElem (by rw [HYL.out]; rfl) fun j h1 h2 => ?_
            have := HYV.out j (by rw [HYL.out] at h1; exact h1)
            rw [Gf.getD_eq h1] at this
            rw [this]
            match j, h2 with
            | 0, _ => rfl
            | 1, _ => rfl
            | 2, _ => rfl
          have HAV : Hid (atV xs L x k = (Gf.atS xs Y x).1) := by rw [Hid, atV, ← hYE]
          have HYB : Hid (Bytes wr (some ⟨y, 0, none⟩) Y) := bytes_of_block (t := 5) (fr := (0, 0)) Y HYk.out
          have r3 := HAk.out.hX
          have r4 := HAk.out.hx
          obtain ⟨fn, tmps, assign, body, hy, hR⟩ := HY.out k wr hlt HJk.out
          rw [HAV.out] at hy
          clear hYE HYV
          gi_wp2_with (refine ⟨trivial, ?_⟩; gi_at_call 15; refine (callsIn_wide.2 (At_c _ _ _ _ _ _ _ xs Y x _ HAk.out.xsl.symm HYL.out.symm (by rw [HAk.out.xsl]; omega) rfl HAk.out.xsb.bytes HYB.out)).mono ?_; rintro e w' ⟨rfl, rfl⟩)
          refine hR.mono ?_
          rintro e W3 ⟨rfl, hJ3, hb3⟩
          have HJ3 := Lib.hid hJ3
          have HA3 : Hid (AI P W3 bR bX bx rb ro rc n A c L AX cX xs x) := HAk.out.keep (fun i hi => hb3.same i (by have h1 := (HP.out i hi).1; have h2 := HWS.out; have h3 := lt_of_block HYk.out; omega) (HP.out i hi).2 (fun e => by have h1 := (HP.out i hi).1; have h2 := HL.out; omega))
          have HY3 : Hid (W3.heap[y]? = some (.cells (vals Y).toArray 5 (0, 0))) := (hb3.same y (lt_of_block HYk.out) (fun e => by have := HXW.out; omega) (fun e => by have := HL2.out; omega)).trans HYk.out
          clear hJ3 hb3 HJk HAk HYk HYB HAV r3 r4 hR hy
          gi_wp2
          go_roundw
          case rel => exact ⟨k + 1, Y, by omega, by go_num, HYL, HJ3, HA3, HY3⟩
          case measure => simp [intOf]; omega
    · obtain rfl : k = n := by omega
      gi_wp2
      go_end0
      exact ⟨⟨_, rfl⟩, HJk.out⟩

set_option maxRecDepth 100000 in
set_option maxHeartbeats 1000000 in
theorem Along_c (AX : Option Addr) (nX cX : Nat) (R : Option Addr) (nR cR : Nat) (x : UInt8) (w : World) :
    Calls Try.prog 24 #[.slice AX nX cX, .slice R nR cR, .int .u8 (u x)] w fun e w' => e = .returned (.func (.func 28) #[] #[.pointer (some ⟨w.heap.size + 1, 0, none⟩), .pointer (some ⟨w.heap.size, 0, none⟩), .pointer (some ⟨w.heap.size + 1 + 1, 0, none⟩)]) ∧
      w' = ((w.alloc (.cells #[.slice AX nX cX] 28)).alloc (.cells #[.slice R nR cR] 45)).alloc (.cells #[.int .u8 (u x)] 5) := by
  go_enter Try.func24, Try.ntmps24
  go_wp2
  go_ret
  exact ⟨rfl, rfl⟩

/-- three rows of bytes of one length -/
structure Rows3 (w : World) (rb ro n : Nat) (A : Nat → Option Addr) (c : Nat → Nat) (L : Nat → List UInt8) : Prop where
  row : ∀ t, t < 3 → w.cell? ⟨rb, ro + t, none⟩ = some (.slice (A t) n (c t))
  len : ∀ t, t < 3 → (L t).length = n
  rows : ∀ t, t < 3 → Bytes w (A t) (L t)

theorem bytesN_of {w W : World} {P : Nat → Prop} (hP : ∀ k, k < w.heap.size → P k) (hb : Below w.heap.size w W) {A : Option Addr} {l : List UInt8} (h : Bytes w A l) : BytesN P W A l := fun j hj => by
  obtain ⟨ad, e, hc⟩ := h j hj
  have hlt := lt_of_cell (w := w) (p := ad.add j) (by rw [hc]; rfl)
  refine ⟨ad, e, hP _ (by rwa [block_of_add] at hlt), (cell_same (hb.block _ hlt)).trans hc⟩

/-- the values at a place -/
noncomputable def atL (xs : List UInt8) (L : Nat → List UInt8) (x : UInt8) (n : Nat) : List UInt8 := (List.range n).map (atV xs L x)
theorem atL_length (xs : List UInt8) (L : Nat → List UInt8) (x : UInt8) (n : Nat) : (atL xs L x n).length = n := by simp [atL]

set_option maxRecDepth 100000 in
set_option maxHeartbeats 2000000 in
theorem ParAt_c (AX : Option Addr) (cX rb ro rc n : Nat) (A : Nat → Option Addr) (c : Nat → Nat) (L : Nat → List UInt8) (xs : List UInt8) (x : UInt8) (w : World) (hxl : xs.length = 3) (hxs : Bytes w AX xs) (hR : Rows3 w rb ro n A c L) (hn : n ≤ 100000) :
    Calls Try.prog 18 #[.slice AX 3 cX, .slice (some ⟨rb, ro, none⟩) 3 rc, .int .u8 (u x)] w fun e W' => e = .returned (.slice (some ⟨w.heap.size, 0, none⟩) n n) ∧
      W'.heap[w.heap.size]? = some (.cells (vals (atL xs L x n)).toArray 5 (0, 0)) ∧ Below w.heap.size w W' := by
  refine (callsIn_wide (n := 5)).1 ?_
  have HN := Lib.hid hn
  have HXL := Lib.hid hxl
  have HXS := Lib.hid hxs
  have HR := Lib.hid hR
  have r0 := hR.row 0 (by omega)
  rw [Nat.add_zero] at r0
  have hmk : ∀ W : World, (Instr.makeSlice 28 (.int .i64 (n : Int)) (.int .i64 (n : Int))).run Try.prog W = .ok (.slice (some ⟨W.heap.size, 0, none⟩) n n) (W.alloc (.cells (vals (zs n)).toArray 5)) := bytes_make n (by omega)
  clear hn hxl hxs hR
  refine callsIn_of_wp_marks Try.func18 rfl trivial ?_ rfl
  simp only [Try.ntmps18, List.size_toArray, List.length_cons, List.length_nil, Nat.reduceAdd, Nat.reduceSub, Array.replicate_succ, Array.replicate_zero, List.push_toArray, List.append_toArray, List.nil_append, List.cons_append]
  gi_wp2_with (refine ⟨trivial, ?_⟩; gi_at_call 24; refine (callsIn_wide.2 (Along_c _ _ _ _ _ _ _ _)).mono ?_; rintro e w' ⟨rfl, rfl⟩)
  obtain ⟨W0, hW0⟩ : ∃ W0, W0 = ((((w.alloc (.cells (vals (zs n)).toArray 5)).alloc (.cells #[.slice (some ⟨w.heap.size, 0, none⟩) n n] 28)).alloc (.cells #[.slice AX 3 cX] 28)).alloc (.cells #[.slice (some ⟨rb, ro, none⟩) 3 rc] 45)).alloc (.cells #[.int .u8 (u x)] 5) := ⟨_, rfl⟩
  have hB : Below w.heap.size w W0 := by rw [hW0]; exact (((((Below.refl _ w).alloc (Nat.le_refl _) _).alloc (by simp) _).alloc (by simp; omega) _).alloc (by simp; omega) _).alloc (by simp; omega) _
  have hS : W0.heap.size = w.heap.size + 5 := by rw [hW0]; simp
  have al : ∀ (W : World) (o : Obj) (k : Nat), k < W.heap.size → (W.alloc o).heap[k]? = W.heap[k]? := fun W o k hk => Below.heap_alloc W o k hk
  have o0 : W0.heap[w.heap.size]? = some (.cells (vals (zs n)).toArray 5 (0, 0)) := by
    rw [hW0, al _ _ _ (by first | (simp; done) | (simp; omega)), al _ _ _ (by first | (simp; done) | (simp; omega)), al _ _ _ (by first | (simp; done) | (simp; omega)), al _ _ _ (by simp)]; exact heap_at _ _ _ rfl
  have o1 : W0.heap[w.heap.size + 1]? = some (.cells #[.slice (some ⟨w.heap.size, 0, none⟩) n n] 28 (0, 0)) := by
    rw [hW0, al _ _ _ (by first | (simp; done) | (simp; omega)), al _ _ _ (by first | (simp; done) | (simp; omega)), al _ _ _ (by simp)]; exact heap_at _ _ _ (by simp)
  have o2 : W0.heap[w.heap.size + 1 + 1]? = some (.cells #[.slice AX 3 cX] 28 (0, 0)) := by
    rw [hW0, al _ _ _ (by first | (simp; done) | (simp; omega)), al _ _ _ (by simp)]; exact heap_at _ _ _ (by simp)
  have o3 : W0.heap[w.heap.size + 1 + 1 + 1]? = some (.cells #[.slice (some ⟨rb, ro, none⟩) 3 rc] 45 (0, 0)) := by
    rw [hW0, al _ _ _ (by simp)]; exact heap_at _ _ _ (by simp)
  have o4 : W0.heap[w.heap.size + 1 + 1 + 1 + 1]? = some (.cells #[.int .u8 (u x)] 5 (0, 0)) := by
    rw [hW0]; exact heap_at _ _ _ (by simp)
  rw [← hW0]
  have hP : ∀ k, k < w.heap.size → (fun k => k < W0.heap.size ∧ k ≠ w.heap.size) k := fun k hk => ⟨by omega, by omega⟩
  have hrb : rb < w.heap.size := lt_of_cell (p := ⟨rb, ro, none⟩) (by rw [r0]; rfl)
  have HAI : Hid (AI (fun k => k < W0.heap.size ∧ k ≠ w.heap.size) W0 (w.heap.size + 1 + 1 + 1) (w.heap.size + 1 + 1) (w.heap.size + 1 + 1 + 1 + 1) rb ro rc n A c L AX cX xs x) :=
    ⟨⟨by omega, by omega⟩, ⟨by omega, by omega⟩, ⟨by omega, by omega⟩, hP rb hrb, (cell_of_row _ _ _ _ _ _ o3).trans rfl, (cell_of_row _ _ _ _ _ _ o2).trans rfl, (cell_of_row _ _ _ _ _ _ o4).trans rfl,
      fun t ht => (cell_same (hB.block _ hrb)).trans (HR.out.row t ht), HR.out.len, fun t ht => bytesN_of hP hB (HR.out.rows t ht), HXL.out, bytesN_of hP hB HXS.out⟩
  have HB := Lib.hid hB
  have HS := Lib.hid hS
  have O0 := Lib.hid o0
  have O1 : Hid (W0.cell? ⟨w.heap.size + 1, 0, none⟩ = some (.slice (some ⟨w.heap.size, 0, none⟩) n n)) := (cell_of_row _ _ _ _ _ _ o1).trans rfl
  clear hB hS al o0 o1 o2 o3 o4 hP hrb r0 hmk hW0
  refine wpIn_iter (X := w.heap.size) rfl (by omega) (gf := 28) (lb := #[.pointer (some ⟨w.heap.size + 1 + 1 + 1, 0, none⟩), .pointer (some ⟨w.heap.size + 1 + 1, 0, none⟩), .pointer (some ⟨w.heap.size + 1 + 1 + 1 + 1, 0, none⟩)]) rfl trivial (enters_of Try.func28 (by kernel_rfl) rfl)
    (by have := HS.out; omega) (Along1_i 4 (fun k => k < W0.heap.size ∧ k ≠ w.heap.size) w.heap.size W0 (fun k hk => hk) (by have := HS.out; omega) _ _ _ rb ro rc n A c L AX cX xs x HAI.out HN.out (by omega)) (fun _ => rfl)
    (fun k W => Below w.heap.size w W ∧ W.cell? ⟨w.heap.size + 1, 0, none⟩ = some (.slice (some ⟨w.heap.size, 0, none⟩) n n) ∧ ∃ Y : List UInt8, Y.length = n ∧ (∀ j, j < k → Y.getD j 0 = atV xs L x j) ∧ W.heap[w.heap.size]? = some (.cells (vals Y).toArray 5 (0, 0)))
    (fun k W1 W2 hi hb => ⟨hi.1.trans (hb.mono (by have := HS.out; omega)), (cell_same (hb.block _ (by have := HS.out; show w.heap.size + 1 < _; omega))).trans hi.2.1, by
      obtain ⟨Y, h1, h2, h3⟩ := hi.2.2
      exact ⟨Y, h1, h2, (hb.block _ (by have := HS.out; omega)).trans h3⟩⟩)
    ⟨HB.out, O1.out, zs n, zs_length n, fun j h => absurd h (by omega), O0.out⟩
    (fun k => { tmps := #[.slice AX 3 cX, .slice (some ⟨rb, ro, none⟩) 3 rc, .int .u8 (u x), undef, undef, undef, .slice none 0 0, .pointer (some ⟨w.heap.size + 1, 0, none⟩), .int .i64 (k : Int), .int .u8 (u (atV xs L x k)),
      .slice (some ⟨rb, ro, none⟩) 3 rc, .pointer (some ⟨rb, ro, none⟩), .slice (A 0) n (c 0), .int .i64 n, .slice (some ⟨w.heap.size, 0, none⟩) n n, .slice AX 3 cX, .slice (some ⟨rb, ro, none⟩) 3 rc, .int .u8 (u x),
      .func (.func 28) #[] #[.pointer (some ⟨w.heap.size + 1 + 1 + 1, 0, none⟩), .pointer (some ⟨w.heap.size + 1 + 1, 0, none⟩), .pointer (some ⟨w.heap.size + 1 + 1 + 1 + 1, 0, none⟩)],
      .int .i64 (k : Int), .int .u8 (u (atV xs L x k)), undef, undef, undef, undef, undef], defers := [] }) ?assign ?body ?done
  case assign =>
    intro l k W K hK
    gi_wp2
    exact hK
  case body =>
    rintro l k W ⟨hb, ho, Y, hY1, hY2, hY3⟩ hk
    have HYB := Lib.hid hb
    have HYO := Lib.hid ho
    have HY1 := Lib.hid hY1
    have HY2 := Lib.hid hY2
    have HY3 := Lib.hid hY3
    have c3 := cell_byteD hY3 k (by rw [hY1]; exact hk)
    have f3 := frozen_of_row W w.heap.size k _ _ hY3
    have k0 : (0 : Int) ≤ (k : Int) := by omega
    have k1 : (k : Int) < (n : Int) := by omega
    have HV2 : Hid (∀ j, j < k + 1 → (Y.set k (atV xs L x k)).getD j 0 = atV xs L x j) := fun j hj => by
      rw [getD_set _ _ _ _ (by rw [hY1]; exact hk)]
      by_cases e : k = j
      · rw [if_pos e, e]
      · rw [if_neg e]; exact hY2 j (by omega)
    clear hb hY1 hY2 hY3
    gi_wp2
    refine ⟨⟨?_, fun i h1 h2 => Below.heap_setCell _ _ _ _ h2⟩, HYB.out.setCell (p := ⟨w.heap.size, k, none⟩) (Nat.le_refl _) _, (World.cell?_setCell_other _ _ _ _ (fun e => by injection e with e e'; omega)).trans HYO.out, Y.set k (atV xs L x k), by rw [List.length_set]; exact HY1.out, HV2.out, block_set HY3.out _⟩
    show W.heap.size ≤ (W.heap.modify _ _).size
    rw [Array.size_modify]; exact Nat.le_refl _
  case done =>
    rintro D W hD ⟨hb, ho, Y, hY1, hY2, hY3⟩ hK
    have hYE : Y = atL xs L x n := by
      refine List.ext_getElem (by rw [hY1, atL_length]) fun j h1 h2 => ?_
      have := hY2 j (by rw [hY1] at h1; exact h1)
      rw [Gf.getD_eq h1] at this
      rw [this]; simp [atL]
    have HYB := Lib.hid hb
    have HY3 := Lib.hid hY3
    have HYE := Lib.hid hYE
    have HD := Lib.hid hD
    clear hY1 hY2 hY3 hYE hb hD
    gi_wp2
    refine ⟨by simp, .inl ⟨_, _, rfl, run_takeDeferred hK, ?_⟩⟩
    refine ⟨_, results_tmp rfl _ _ _, rfl, ?_, ?_⟩
    · rw [← HYE.out]; exact (World.putObj_heap_other (by have := HD.out; have := HS.out; omega)).trans HY3.out
    · exact HYB.out.trans (below_put (by have := HD.out; have := HS.out; omega) _)

end Go.Proofs.Ytmnnhmbolbepcaa
