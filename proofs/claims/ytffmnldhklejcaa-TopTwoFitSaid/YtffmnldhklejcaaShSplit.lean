/- The walk of share.Split. -/
import Derived.Test.YtffmnldhklejcaaShRow
namespace Go.Proofs.Ytffmnldhklejcaa
open Go.RowKit

/-- a string's bytes -/
def bs (s : ByteArray) : List UInt8 := s.data.toList
theorem bs_length (s : ByteArray) : (bs s).length = s.size := by simp [bs]
theorem bs_get (s : ByteArray) (i : Nat) (h : i < s.size) : (bs s).getD i 0 = s[i] := by
  simp [bs, List.getD_eq_getElem?_getD, h]; rfl

theorem str_index (s : ByteArray) (j : Int) (i : Nat) (hj : j = i) (h : i < s.size) (w : World) :
    (Instr.index 9 (.string s) (.int .i64 j)).run Try.prog w = .ok (.int .u8 (u ((bs s).getD i 0))) w := by
  subst hj
  rw [run_index_string w 9 s .i64 (i : Int) Try.underlying9, dif_pos ⟨by omega, by simpa using h⟩, bs_get s i h]
  rfl
theorem u_pt (k : Nat) (h : k < 255) : u (pt k) = (k : Int) + 1 := by
  show ((UInt8.ofNat (k + 1)).toNat : Int) = _
  rw [UInt8.toNat_ofNat']
  omega

/-- what the walk of Split keeps: the boxed secret, the block that is filled -/
structure SpI (w W : World) (s : List UInt8) (n : Nat) (P : List UInt8) : Prop where
  box : W.heap[w.heap.size]? = some (.cells (vals s).toArray 23 (0, 0))
  fill : Fill W (w.heap.size + 1) n P
  b : Below w.heap.size w W

theorem SpI.alloc {w W : World} {s P : List UInt8} {n : Nat} (h : SpI w W s n P) (o : Obj) : SpI w (W.alloc o) s n P :=
  ⟨(Below.heap_alloc W o _ (by have := h.fill.lt; omega)).trans h.box, h.fill.alloc o, h.b.alloc h.b.size o⟩
theorem SpI.drewN {w W : World} {s P : List UInt8} {n : Nat} (h : SpI w W s n P) (k : Nat) : SpI w (W.drewN k) s n P := ⟨h.box, h.fill.drewN k, below_drewN h.b k⟩
theorem SpI.drew {w W : World} {s P : List UInt8} {n : Nat} (h : SpI w W s n P) : SpI w W.drew s n P := ⟨h.box, h.fill.drew, h.b.drew⟩
theorem SpI.push {w W : World} {s P : List UInt8} {n : Nat} (h : SpI w W s n P) (hj : P.length < n * 33) (i : Nat) (hi : i = P.length) (a : UInt8) :
    SpI w (W.setCell ⟨w.heap.size + 1, i, none⟩ (.int .u8 (u a))) s n (P ++ [a]) :=
  ⟨(Below.heap_setCell W _ _ _ (by simp)).trans h.box, h.fill.push hj i hi a, h.b.setCell (p := ⟨w.heap.size + 1, i, none⟩) (by simp) _⟩

set_option maxRecDepth 100000 in
set_option maxHeartbeats 1000000 in
theorem Split_c (s : List UInt8) (n : Nat) (no : ByteArray) (w : World) (hs : s.length = 32) (h3 : 3 ≤ n) (h255 : n ≤ 255) (hno : no.size = 64) :
    Calls Try.prog 12 #[.agg (vals s).toArray, .int .i64 n, .string no] w fun e w' => e = .returned (.tuple #[.slice (some ⟨w.heap.size + 1, 0, none⟩) n n, .int .i64 0]) ∧ Fill w' (w.heap.size + 1) n (flat s (bs no) n) ∧ Below w.heap.size w w' := by
  have g1 : decide ((n : Int) < 3) = false := by simp; omega
  have g2 : decide ((255 : Int) < (n : Int)) = false := by simp; omega
  have g3 : ((no.size : Int) != 64) = false := ne_false' (by omega)
  have hmk := share_make n h255
  have HS := Lib.hid hs
  have HN := Lib.hid hno
  clear hs hno
  go_enter Try.func12, Try.ntmps12
  go_wp2_with fail
  clear hmk
  have h0 : SpI w ((w.alloc (.cells (vals s).toArray 23)).alloc (.cells (vals (List.replicate (n * 33) 0)).toArray 34)) s n (flat s (bs no) 0) :=
    ⟨heap_alloc2_old _ _ _, ⟨by have := heap_alloc2_new w (.cells (vals s).toArray 23) (.cells (vals (List.replicate (n * 33) 0)).toArray 34); simpa [flat, rows] using this, by simp [flat, rows]⟩, ((Below.refl _ _).alloc (Nat.le_refl _) _).alloc (by simp) _⟩
  have H0 := Lib.hid h0
  clear h0
  go_loopw [27] (fun vk W => ∃ k : Nat, k ≤ n ∧ vk = .int .i64 k ∧ SpI w W s n (flat s (bs no) k)) (fun vk _ => n - (intOf vk).toNat)
  case atStart => exact ⟨0, Nat.zero_le _, rfl, H0.out⟩
  case round =>
    clear H0
    obtain ⟨k, hk, rfl, hI⟩ := hrel
    by_cases hlt : k < n
    · have hc0 := hI.fill.next (by rw [flat_length]; omega) (k * 33) (by rw [flat_length])
      have hf0 := hI.fill.frozen (k * 33)
      have HI := Lib.hid hI
      clear hI
      have k0 : (0 : Int) ≤ (k : Int) := by omega
      have k1 : (k : Int) < (n : Int) := by omega
      go_wp2_with (refine wpList_load_row (by rfl) 23 (.tmp 3) (by rfl) w.heap.size (by rfl) 23 (vals s).toArray (0, 0) _ ?hg Try.underlying23 (by rfl) ?hi ?_)
      case hg => exact (Below.heap_setCell _ _ _ _ (by simp)).trans HI.out.box
      case hi => rw [List.size_toArray, vals_length, HS.out]; exact key_size
      have hI2 := HI.out.push (by rw [flat_length]; omega) (k * 33) (by rw [flat_length]) (pt k)
      rw [u_pt k (by omega)] at hI2
      have HI2 := Lib.hid hI2
      clear hI2 HI hc0 hf0
      go_loopw [38] (fun vi W => ∃ i : Nat, i ≤ 32 ∧ vi = .int .i64 i ∧ SpI w W s n (flat s (bs no) k ++ (row s (bs no) k).take (i + 1))) (fun vi _ => 32 - (intOf vi).toNat)
      case atStart => exact ⟨0, by omega, rfl, by rw [row_take_one]; exact HI2.out⟩
      case round =>
        clear HI2
        obtain ⟨i, hi, rfl, hI⟩ := hrel
        have hP : (flat s (bs no) k ++ (row s (bs no) k).take (i + 1)).length = k * 33 + 1 + i := by rw [List.length_append, flat_length, List.length_take, row_length]; omega
        by_cases hlt2 : i < 32
        · have hX := hI.fill.cell (k * 33) (by rw [hP]; omega)
          have hXe : (flat s (bs no) k ++ (row s (bs no) k).take (i + 1))[k * 33]'(by rw [hP]; omega) = pt k := by
            rw [List.getElem_append_right (by rw [flat_length]; omega)]
            simp [flat_length, row]
          rw [hXe] at hX
          have hc := hI.fill.next (by rw [hP]; omega) (k * 33 + 1 + i) (by rw [hP])
          have hf := hI.fill.frozen (k * 33 + 1 + i)
          have HI := Lib.hid hI
          have HP := Lib.hid hP
          clear hI hXe hP
          have hidx := key_index s HS.out i (by have := HS.out; omega)
          have i0 : (0 : Int) ≤ (i : Int) := by omega
          have i4 : (i : Int) < 32 := by omega
          have x1 := str_index no (i : Int) i rfl (by have := HN.out; omega)
          have x2 := str_index no ((32 : Int) + (i : Int)) (32 + i) (by omega) (by have := HN.out; omega)
          have x3 : IntKind.i64.wrap ((32 : Int) + (i : Int)) = (32 : Int) + (i : Int) := IntWalk.i64_in _ (by omega)
          have hd : dat s (bs no) k i = Gf.eval [s[i]'(by have := HS.out; omega), (bs no).getD i 0, (bs no).getD (32 + i) 0] (pt k) := by
            unfold dat; rw [Gf.getD_eq (by have := HS.out; omega)]
          have hr := row_take_succ s (bs no) k i hlt2
          rw [hd] at hr
          have HR := Lib.hid hr
          clear hr hd
          generalize (bs no).getD i 0 = q1 at *
          generalize (bs no).getD (32 + i) 0 = q2 at *
          generalize s[i]'(by have := HS.out; omega) = q0 at *
          generalize hp : pt k = p at *
          clear hp
          have ne1 := World.new_ne _ _ hc
          have ne2 := World.new_ne _ _ hX
          go_wp2_with fail
          go_region_held3 (fun W => W.cell? ⟨w.heap.size + 1, k * 33, none⟩ = some (.int .u8 (u p)) ∧ W.cell? ⟨w.heap.size + 1, k * 33 + 1 + i, none⟩ = some (held W ⟨w.heap.size + 1, k * 33 + 1 + i, none⟩) ∧ W.frozen? ⟨w.heap.size + 1, k * 33 + 1 + i, none⟩ = false)
            (first
              | exact ⟨hX, held_of hc, hf⟩
              | exact ⟨by simp [*, World.cell?_alloc_some], held_of (v := .int .u8 (u 0)) (by simp [*, World.cell?_alloc_some]), by simp [*, frozen_alloc_ne]⟩
              | exact ⟨by rw [World.cell?_setCell_other _ _ _ _ (by first | (simp; done) | (simp; omega))]; simp [*], held_of (World.cell?_setCell_same' _ _ _ (by simp [*])), by rw [World.frozen?_setCell]; simp [*]⟩)
            (first | (go_at_call 23; refine (Eval_c _ _ _ _ [q0, q1, q2] p _ (by rfl) (by simp) (by rfl) (by exact Bytes.drew (bytes_of_block (t := 5) (fr := (0, 0)) [q0, q1, q2] (heap_at _ _ _ rfl)))).mono ?_; rintro e w' ⟨rfl, ⟨nd, rfl⟩⟩))
          all_goals
            clear x1 x2 x3 hidx hX hc hf
            go_wp2
            go_roundw
            case rel => exact ⟨i + 1, by omega, by go_num, by rw [HR.out, ← List.append_assoc]; exact ((HI.out.alloc _).drewN _).push (by have := HP.out; omega) _ (by have := HP.out; omega) _⟩
            case measure => simp [intOf]; omega
        · have hi32 : i = 32 := by omega
          subst hi32
          rw [row_take_all, ← flat_succ] at hI
          have HI := Lib.hid hI
          clear hI hP
          go_wp2
          go_roundw
          case rel => exact ⟨k + 1, by omega, by go_num, HI.out⟩
          case measure => simp [intOf]; omega
    · have hkn : k = n := by omega
      subst hkn
      have HI := Lib.hid hI
      clear hI
      go_wp2
      go_ret2
      exact ⟨rfl, HI.out.fill, HI.out.b⟩

/-- Split, its arguments however they are spelled -/
theorem Split_g (K : Value) (N : Int) (S : ByteArray) (s no : List UInt8) (n : Nat) (w : World) (hK : K = .agg (vals s).toArray) (hN : N = n) (hS : bs S = no) (hs : s.length = 32) (h3 : 3 ≤ n) (h255 : n ≤ 255) (hno : no.length = 64) :
    Calls Try.prog 12 #[K, .int .i64 N, .string S] w fun e w' => e = .returned (.tuple #[.slice (some ⟨w.heap.size + 1, 0, none⟩) n n, .int .i64 0]) ∧ Fill w' (w.heap.size + 1) n (flat s no n) ∧ Below w.heap.size w w' := by
  subst hK hN hS
  exact Split_c s n S w hs h3 h255 (by rw [← bs_length]; exact hno)

set_option maxRecDepth 100000 in
set_option maxHeartbeats 1000000 in
theorem Split_err (s : List UInt8) (n : Int) (no : ByteArray) (w : World) (h : n < 3 ∨ 255 < n ∨ no.size ≠ 64) :
    Calls Try.prog 12 #[.agg (vals s).toArray, .int .i64 n, .string no] w fun e w' => e = .returned (.tuple #[.slice none 0 0, .int .i64 1]) ∧ Below w.heap.size w w' := by
  by_cases h1 : n < 3
  · have g1 : decide (n < 3) = true := by simpa using h1
    clear h
    go_enter Try.func12, Try.ntmps12
    go_wp2_with fail
    go_ret2
    exact ⟨rfl, (Below.refl _ _).alloc (Nat.le_refl _) _⟩
  · have g1 : decide (n < 3) = false := by simpa using h1
    by_cases h2 : 255 < n
    · have g2 : decide ((255 : Int) < n) = true := by simpa using h2
      clear h h1
      go_enter Try.func12, Try.ntmps12
      go_wp2_with fail
      go_ret2
      exact ⟨rfl, (Below.refl _ _).alloc (Nat.le_refl _) _⟩
    · have g2 : decide ((255 : Int) < n) = false := by simpa using h2
      have g3 : ((no.size : Int) != 64) = true := by rw [bne_iff_ne]; omega
      clear h h1 h2
      go_enter Try.func12, Try.ntmps12
      go_wp2_with fail
      go_ret2
      exact ⟨rfl, (Below.refl _ _).alloc (Nat.le_refl _) _⟩

end Go.Proofs.Ytffmnldhklejcaa
