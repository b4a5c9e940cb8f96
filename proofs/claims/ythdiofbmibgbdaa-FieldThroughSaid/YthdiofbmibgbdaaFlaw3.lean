/- The walk of FieldThrough. -/
import Derived.Test.YthdiofbmibgbdaaFlaw2
namespace Go.Proofs.Ythdiofbmibgbdaa
open Go.RowKit

/-- the places of FieldThrough -/
def pl (first : UInt8) (i : Nat) : UInt8 := first + UInt8.ofNat i * 7
theorem u_pl (first : UInt8) (i : Nat) : (u first + (i : Int) * 7) % 256 = u (pl first i) := by
  have hf := first.toNat_lt
  show _ = ((first + UInt8.ofNat i * 7).toNat : Int)
  rw [UInt8.toNat_add, UInt8.toNat_mul, UInt8.toNat_ofNat']
  unfold u
  show _ = (((first.toNat + i % 2 ^ 8 * 7 % 256) % 256 : Nat) : Int)
  omega
def pls (first : UInt8) (n : Nat) : List UInt8 := (List.range n).map (pl first)
theorem pls_succ (first : UInt8) (n : Nat) : pls first (n + 1) = pls first n ++ [pl first n] := by simp [pls, List.range_succ]
def vls (l : List UInt8) (first : UInt8) (n : Nat) : List UInt8 := (pls first n).map (Gf.eval l)
theorem vls_succ (l : List UInt8) (first : UInt8) (n : Nat) : vls l first (n + 1) = vls l first n ++ [Gf.eval l (pl first n)] := by simp [vls, pls_succ]
theorem pls_length (first : UInt8) (n : Nat) : (pls first n).length = n := by simp [pls]
theorem vls_length (l : List UInt8) (first : UInt8) (n : Nat) : (vls l first n).length = n := by simp [vls, pls]

theorem pl_inj (first : UInt8) (i j : Nat) (hi : i < 30) (hj : j < 30) (h : pl first i = pl first j) : i = j := by
  have h1 := u_pl first i
  have h2 := u_pl first j
  rw [h, ← h2] at h1
  omega
theorem pls_nodup (first : UInt8) (n : Nat) (hn : n ≤ 12) : (pls first n).Nodup := by
  unfold pls
  rw [List.Nodup, List.pairwise_map]
  refine List.Pairwise.imp_of_mem ?_ List.nodup_range
  intro i j hi hj hne e
  rw [List.mem_range] at hi hj
  exact hne (pl_inj first i j (by omega) (by omega) e)

theorem through_law (l : List UInt8) (first x : UInt8) (hl : l.length ≤ 12) : Gf.atS (pls first l.length) (vls l first l.length) x = (Gf.eval l x, true) := by
  have h1 : (pls first l.length).length = (vls l first l.length).length := by rw [pls_length, vls_length]
  have hn := pls_nodup first l.length hl
  rw [Gf.atS_yes x h1 hn]
  have hp : Gf.Poly (pls first l.length).length (Gf.eval l) := by rw [pls_length]; exact Gf.Poly.of l
  rw [Gf.lag_is hn h1 hp (fun i hi hj => by simp [vls])]

set_option maxRecDepth 100000 in
set_option maxHeartbeats 4000000 in
theorem FieldThrough_w (A : Option Addr) (n c : Nat) (l : List UInt8) (first x : UInt8) (w : World) (hn : n = l.length) (hl : Bytes w A l) :
    Calls Try.prog 6 #[.slice A n c, .int .u8 (u first), .int .u8 (u x)] w fun e w' => e = .returned (.bool true) ∧ Below w.heap.size w w' := by
  subst hn
  by_cases h1 : 12 < l.length
  · have g1 : (12 : Int) < (l.length : Int) := by omega
    go_enter Try.func6, Try.ntmps6
    go_wp2_with fail
    refine (Alive_c _).mono ?_
    rintro e w1 ⟨rfl, hb⟩
    go_wp2_with fail
    go_ret
    exact ⟨rfl, hb⟩
  · have g1 : decide ((12 : Int) < (l.length : Int)) = false := by simp; omega
    have HT := Lib.hid (through_law l first x (by omega))
    have g5 : (u (Gf.eval l x) == u (Gf.eval l x)) = true := by simp
    have HL := Lib.hid hl
    clear hl
    go_enter Try.func6, Try.ntmps6
    go_wp2_with fail
    refine (Alive_c _).mono ?_
    rintro e w1 ⟨rfl, hb⟩
    have HB := Lib.hid hb
    clear hb
    go_wp2_with fail
    go_loopw [7, 8, 20] (fun vx vy vi w' => ∃ i : Nat, i ≤ l.length ∧ vi = .int .i64 i ∧ Two w w' vx (pls first i) vy (vls l first i)) (fun _ _ vi _ => l.length - (intOf vi).toNat)
    case atStart => exact ⟨0, Nat.zero_le _, rfl, Two.start HB.out⟩
    case round =>
      obtain ⟨i, hi, rfl, ht⟩ := hrel
      have HT1 := Lib.hid ht
      clear ht
      by_cases hlt : i < l.length
      · have hu := u_lo first
        have hu2 := u_hi first
        have e7 := u_pl first i
        go_wp2_with (at_builtin; refine wpList_append_bytes _ (by rfl) (.tmp 28) (.tmp 30) (by rfl) w.heap.size u7 (pls first i) (by rfl) (HT1.out.alloc _).h1 _ 1 _ [pl first i] (by rfl) (bytes_of_block (t := 5) (fr := (0, 0)) [pl first i] (heap_at _ _ _ rfl)) rfl (by rw [pls_length]; omega) (HT1.out.alloc _).b.size ?_; intro vx' w2 hx2 hg2 hat2)
        have HT2 := Lib.hid ((HT1.out.alloc _).first hx2 hg2 hat2)
        clear hx2 hg2 hat2 HT1
        refine (Eval_c _ _ _ _ l (pl first i) _ rfl (by omega) rfl (HL.out.below HT2.out.b)).mono ?_
        rintro e w' ⟨rfl, ⟨nd, rfl⟩⟩
        go_wp2_with (at_builtin; refine wpList_append_bytes _ (by rfl) (.tmp 32) (.tmp 36) (by rfl) w.heap.size u8 (vls l first i) (by rfl) ((HT2.out.drewN nd).alloc _).h2 _ 1 _ [Gf.eval l (pl first i)] (by rfl) (bytes_of_block (t := 5) (fr := (0, 0)) [Gf.eval l (pl first i)] (heap_at _ _ _ rfl)) rfl (by rw [vls_length]; omega) ((HT2.out.drewN nd).alloc _).b.size ?_; intro vy' w3 hy3 hg3 hat3)
        have HT3 := Lib.hid (((HT2.out.drewN nd).alloc _).second hy3 hg3 hat3)
        clear hy3 hg3 hat3 HT2
        go_roundw
        case rel => exact ⟨i + 1, by omega, by go_num, by rw [pls_succ, vls_succ]; exact HT3.out⟩
        case measure => simp [intOf]; omega
      · have hil : i = l.length := by omega
        subst hil
        have HF1 := Lib.hid HT1.out.h1.form
        have HF2 := Lib.hid HT1.out.h2.form
        obtain ⟨A1, c1, rfl, _, hb1, _⟩ := HF1.out
        obtain ⟨A2, c2, rfl, _, hb2, _⟩ := HF2.out
        have HB1 := Lib.hid hb1
        have HB2 := Lib.hid hb2
        clear HF1 HF2 hb1 hb2
        have e1 := pls_length first l.length
        have e2 := vls_length l first l.length
        go_wp2_with fail
        refine (At_c _ _ _ _ _ _ _ (pls first l.length) (vls l first l.length) x _ (by simp [pls_length]) (by simp [vls_length]) (by rw [pls_length]; omega) rfl HB1.out HB2.out).mono ?_
        rintro e w' ⟨rfl, rfl⟩
        rw [HT.out]
        go_wp2_with fail
        refine (Eval_c _ _ _ _ l x _ rfl (by omega) rfl (HL.out.below HT1.out.b)).mono ?_
        rintro e w' ⟨rfl, ⟨nd, rfl⟩⟩
        go_wp2_with fail
        go_ret
        exact ⟨rfl, below_drewN HT1.out.b _⟩

theorem FieldThrough_any (v : Value) {w : World} (h : IsBytes w v) (x : Int) (hx : (Lit.int .u8 x).wf = true) (y : Int) (hy : (Lit.int .u8 y).wf = true) (_ : World := w) :
    Calls Try.prog 6 #[v, .int .u8 x, .int .u8 y] w fun e w' => e = .returned (.bool true) ∧ Below w.heap.size w w' := by
  obtain ⟨A, l, c, rfl, _, _, hl⟩ := h
  obtain ⟨a, rfl⟩ := u_wf hx
  obtain ⟨b, rfl⟩ := u_wf hy
  exact FieldThrough_w A _ c l a b w rfl hl

end Go.Proofs.Ythdiofbmibgbdaa
