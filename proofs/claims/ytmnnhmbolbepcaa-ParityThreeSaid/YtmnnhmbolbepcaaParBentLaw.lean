/- Three with a bent part tell another text: plain. -/
import Derived.Test.YtmnnhmbolbepcaaParJoinLaw
namespace Go.Proofs.Ytmnnhmbolbepcaa
open Go.RowKit

theorem bent_join (S : ByteArray) (hS : S.size ≤ 65536) (N : Nat) (h3 : S.size = 3 * N) (a k c : Nat) (ha : a < 5) (hk : k < 5) (hc : c < 5) (hak : a ≠ k) (hac : a ≠ c) (hkc : k ≠ c) (Z : ByteArray) (hz : Z.size = N) (j : Nat) (hj : j < N)
    (hne : (bs Z).getD j 0 ≠ (partL (bs S) (UInt8.ofNat (k + 1))).getD j 0) : ∃ T, joinV [Pc (bs S) a, ((k : Int) + 1, Z), Pc (bs S) c] (S.size : Int) = (T, 0) ∧ T ≠ S := by
  have hl : (bs S).length = S.size := bs_length S
  have hN : rowsN S.size = N := by rw [h3]; unfold rowsN; omega
  have hsz : ∀ i, (Pc (bs S) i).2.size = rowsN S.size := fun i => by show (strP (bs S) i).size = _; rw [strP_size, hl]
  have hp := pick_three (rowsN S.size) (Pc (bs S) a) ((k : Int) + 1, Z) (Pc (bs S) c) [] ⟨by show 1 ≤ (a : Int) + 1; omega, by show (a : Int) + 1 ≤ 5; omega⟩ ⟨by show 1 ≤ (k : Int) + 1; omega, by show (k : Int) + 1 ≤ 5; omega⟩ ⟨by show 1 ≤ (c : Int) + 1; omega, by show (c : Int) + 1 ≤ 5; omega⟩
    (by show (a : Int) + 1 ≠ (k : Int) + 1; omega) (by show (a : Int) + 1 ≠ (c : Int) + 1; omega) (by show (k : Int) + 1 ≠ (c : Int) + 1; omega) (hsz a) (by show Z.size = _; rw [hz, hN]) (hsz c)
  refine ⟨_, joinV_ok (by omega) (by rw [Int.toNat_natCast]; exact hp), fun hT => ?_⟩
  have hm : [Pc (bs S) a, ((k : Int) + 1, Z), Pc (bs S) c].map num = [UInt8.ofNat (a + 1), UInt8.ofNat (k + 1), UInt8.ofNat (c + 1)] := by
    have e : num ((k : Int) + 1, Z) = UInt8.ofNat (k + 1) := num_Pc (bs S) k
    simp [num_Pc, e]
  have hb := congrArg bs hT
  rw [bs_mk, Int.toNat_natCast, hm, hN] at hb
  have hn := nodup3 ha hk hc hak hac hkc
  obtain ⟨LL, hLL⟩ : ∃ LL : Nat → List UInt8, LL = fun t => bs ([Pc (bs S) a, ((k : Int) + 1, Z), Pc (bs S) c].getD t (0, ByteArray.empty)).2 := ⟨_, rfl⟩
  rw [← hLL] at hb
  have hcol : ∀ i, i < N → (partL (bs S) (UInt8.ofNat (a + 1))).getD i 0 = colF (bs S) i (UInt8.ofNat (a + 1)) := fun i hi => part_col _ _ i (by rw [hl, hN]; exact hi)
  have hcol2 : ∀ i, i < N → (partL (bs S) (UInt8.ofNat (c + 1))).getD i 0 = colF (bs S) i (UInt8.ofNat (c + 1)) := fun i hi => part_col _ _ i (by rw [hl, hN]; exact hi)
  have hcol3 : (partL (bs S) (UInt8.ofNat (k + 1))).getD j 0 = colF (bs S) j (UInt8.ofNat (k + 1)) := part_col _ _ j (by rw [hl, hN]; exact hj)
  have hL0 : (LL 0).getD j 0 = colF (bs S) j (UInt8.ofNat (a + 1)) := by rw [hLL]; show (bs (strP (bs S) a)).getD j 0 = _; rw [strP_bs]; exact hcol j hj
  have hL1 : (LL 1).getD j 0 = (bs Z).getD j 0 := by rw [hLL]; rfl
  have hL2 : (LL 2).getD j 0 = colF (bs S) j (UInt8.ofNat (c + 1)) := by rw [hLL]; show (bs (strP (bs S) c)).getD j 0 = _; rw [strP_bs]; exact hcol2 j hj
  obtain ⟨g, hg⟩ : ∃ g : UInt8 → UInt8, g = Gf.lag [UInt8.ofNat (a + 1), UInt8.ofNat (k + 1), UInt8.ofNat (c + 1)] [(LL 0).getD j 0, (LL 1).getD j 0, (LL 2).getD j 0] := ⟨_, rfl⟩
  have hgp : Gf.Poly 3 g := by rw [hg]; exact Gf.lag_poly hn _
  have hat : ∀ x, atV [UInt8.ofNat (a + 1), UInt8.ofNat (k + 1), UInt8.ofNat (c + 1)] LL x j = g x := fun x => by
    have e := Gf.atS_yes (xs := [UInt8.ofNat (a + 1), UInt8.ofNat (k + 1), UInt8.ofNat (c + 1)]) (ys := [(LL 0).getD j 0, (LL 1).getD j 0, (LL 2).getD j 0]) x rfl hn
    rw [atV, e, hg]
  have hlen : ∀ x, (atL [UInt8.ofNat (a + 1), UInt8.ofNat (k + 1), UInt8.ofNat (c + 1)] LL x N).length = N := fun x => atL_length _ _ _ _
  have get : ∀ x, (atL [UInt8.ofNat (a + 1), UInt8.ofNat (k + 1), UInt8.ofNat (c + 1)] LL x N)[j]? = some (g x) := fun x => by
    rw [List.getElem?_eq_getElem (by rw [hlen]; exact hj)]
    simp only [atL, List.getElem_map, List.getElem_range]
    rw [hat]
  have g1 := get 1
  have g2 := get 2
  have g3 := get 3
  have l1 := hlen 1
  have l2 := hlen 2
  have l3 := hlen 3
  clear get hlen
  generalize atL [UInt8.ofNat (a + 1), UInt8.ofNat (k + 1), UInt8.ofNat (c + 1)] LL 1 N = A1 at *
  generalize atL [UInt8.ofNat (a + 1), UInt8.ofNat (k + 1), UInt8.ofNat (c + 1)] LL 2 N = A2 at *
  generalize atL [UInt8.ofNat (a + 1), UInt8.ofNat (k + 1), UInt8.ofNat (c + 1)] LL 3 N = A3 at *
  rw [List.take_of_length_le (by rw [List.length_append, List.length_append, l1, l2, l3, h3]; omega)] at hb
  have b1 : (bs S).getD j 0 = g 1 := by
    rw [List.getD_eq_getElem?_getD, ← hb, List.getElem?_append_left (by rw [List.length_append, l1, l2]; omega), List.getElem?_append_left (by rw [l1]; exact hj), g1]; rfl
  have b2 : (bs S).getD (N + j) 0 = g 2 := by
    rw [List.getD_eq_getElem?_getD, ← hb, List.getElem?_append_left (by rw [List.length_append, l1, l2]; omega), List.getElem?_append_right (by rw [l1]; omega), l1, Nat.add_sub_cancel_left, g2]; rfl
  have b3 : (bs S).getD (2 * N + j) 0 = g 3 := by
    rw [List.getD_eq_getElem?_getD, ← hb, List.getElem?_append_right (by rw [List.length_append, l1, l2]; omega), List.length_append, l1, l2, show 2 * N + j - (N + N) = j from by omega, g3]; rfl
  have hf := colF_at (bs S) j
  rw [hl, hN, b1, b2, b3] at hf
  have hsame : ∀ x, colF (bs S) j x = g x := Gf.Poly.same (colF_poly _ _) hgp [1, 2, 3] nodup123 rfl (fun r hr => by
    simp at hr
    rcases hr with rfl | rfl | rfl
    · exact hf.1
    · exact hf.2.1
    · exact hf.2.2)
  have hgk : g (UInt8.ofNat (k + 1)) = (LL 1).getD j 0 := by
    rw [hg]
    exact Gf.lag_at (xs := [UInt8.ofNat (a + 1), UInt8.ofNat (k + 1), UInt8.ofNat (c + 1)]) (ys := [(LL 0).getD j 0, (LL 1).getD j 0, (LL 2).getD j 0]) hn rfl 1 (by simp) (by simp)
  exact hne (by rw [← hL1, ← hgk, ← hsame, hcol3])

end Go.Proofs.Ytmnnhmbolbepcaa
