/- Three of a text's parts tell the text: plain. -/
import Derived.Test.YtmnnhmbolbepcaaParJoin
namespace Go.Proofs.Ytmnnhmbolbepcaa
open Go.RowKit

/-- a text's part -/
noncomputable def Pc (s : List UInt8) (i : Nat) : Pt := ((i : Int) + 1, strP s i)
theorem pick_three (n : Nat) (p q r : Pt) (L : List Pt) (hp : 1 ≤ p.1 ∧ p.1 ≤ 5) (hq : 1 ≤ q.1 ∧ q.1 ≤ 5) (hr : 1 ≤ r.1 ∧ r.1 ≤ 5) (h1 : p.1 ≠ q.1) (h2 : p.1 ≠ r.1) (h3 : q.1 ≠ r.1) (sp : p.2.size = n) (sq : q.2.size = n) (sr : r.2.size = n) :
    pickL n [] (p :: q :: r :: L) = ([p, q, r], 0) := by
  have a1 : ¬ (p.1 < 1 ∨ 5 < p.1) := by omega
  have a2 : ¬ (q.1 < 1 ∨ 5 < q.1) := by omega
  have a3 : ¬ (r.1 < 1 ∨ 5 < r.1) := by omega
  simp only [pickL, List.length_nil, List.nil_append, List.length_cons, List.cons_append, List.any_nil, List.any_cons, a1, a2, a3, sp, sq, sr, h1, h2, h3, if_true, if_false, decide_false, Bool.or_false, Bool.false_eq_true, Nat.reduceAdd, Nat.reduceEqDiff]
  exact pick_full n [p, q, r] L rfl
theorem pick_two (n : Nat) (p q : Pt) (hp : 1 ≤ p.1 ∧ p.1 ≤ 5) (hq : 1 ≤ q.1 ∧ q.1 ≤ 5) (h1 : p.1 ≠ q.1) (sp : p.2.size = n) (sq : q.2.size = n) : pickL n [] [p, q] = ([p, q], 4) := by
  have a1 : ¬ (p.1 < 1 ∨ 5 < p.1) := by omega
  have a2 : ¬ (q.1 < 1 ∨ 5 < q.1) := by omega
  simp only [pickL, List.length_nil, List.nil_append, List.length_cons, List.cons_append, List.any_nil, List.any_cons, a1, a2, sp, sq, h1, if_true, if_false, decide_false, Bool.or_false, Bool.false_eq_true, Nat.reduceAdd, Nat.reduceEqDiff]
  simp

theorem num_Pc (s : List UInt8) (i : Nat) : num (Pc s i) = UInt8.ofNat (i + 1) := by
  show UInt8.ofNat ((i : Int) + 1).toNat = _
  congr 1
theorem ofNat_inj {a b : Nat} (ha : a < 5) (hb : b < 5) (h : UInt8.ofNat (a + 1) = UInt8.ofNat (b + 1)) : a = b := by
  have := congrArg UInt8.toNat h
  rw [UInt8.toNat_ofNat', UInt8.toNat_ofNat'] at this
  omega

/-- the polynomial of a column -/
noncomputable def colF (s : List UInt8) (i : Nat) : UInt8 → UInt8 := Gf.lag [1, 2, 3] [s.getD i 0, s.getD (rowsN s.length + i) 0, s.getD (2 * rowsN s.length + i) 0]
theorem colF_poly (s : List UInt8) (i : Nat) : Gf.Poly 3 (colF s i) := Gf.lag_poly nodup123 _
theorem colF_at (s : List UInt8) (i : Nat) : colF s i 1 = s.getD i 0 ∧ colF s i 2 = s.getD (rowsN s.length + i) 0 ∧ colF s i 3 = s.getD (2 * rowsN s.length + i) 0 := lag123 _ _ _
theorem part_col (s : List UInt8) (x : UInt8) (i : Nat) (h : i < rowsN s.length) : (partL s x).getD i 0 = colF s i x := part_get s x i h

/-- what three points of a polynomial tell -/
theorem at_poly (x0 x1 x2 : UInt8) (hn : [x0, x1, x2].Nodup) (f : UInt8 → UInt8) (hf : Gf.Poly 3 f) (x : UInt8) : (Gf.atS [x0, x1, x2] [f x0, f x1, f x2] x).1 = f x := by
  have e := Gf.atS_yes (xs := [x0, x1, x2]) (ys := [f x0, f x1, f x2]) x rfl hn
  rw [e]
  exact Gf.lag_is (xs := [x0, x1, x2]) (ys := [f x0, f x1, f x2]) hn rfl hf (fun j hj _ => by
    match j, hj with
    | 0, _ => rfl
    | 1, _ => rfl
    | 2, _ => rfl) x

theorem join_bytes (s : List UInt8) : ((rowL s (rowsN s.length) 0 ++ rowL s (rowsN s.length) 1 ++ rowL s (rowsN s.length) 2).take s.length) = s := by
  have hn : s.length ≤ 3 * rowsN s.length := by unfold rowsN; omega
  generalize rowsN s.length = n at hn
  refine List.ext_getElem (by rw [List.length_take, List.length_append, List.length_append, rowL_length, rowL_length, rowL_length]; omega) fun j h1 h2 => ?_
  rw [List.getElem_take]
  have key : ∀ t i (h : i < n), (rowL s n t)[i]'(by rw [rowL_length]; exact h) = s.getD (t * n + i) 0 := fun t i h => by simp [rowL]
  have hs : s[j] = s.getD j 0 := (Gf.getD_eq h2).symm
  rw [hs]
  by_cases c1 : j < n
  · rw [List.getElem_append_left (by rw [List.length_append, rowL_length, rowL_length]; omega), List.getElem_append_left (by rw [rowL_length]; exact c1), key 0 j c1, Nat.zero_mul, Nat.zero_add]
  · by_cases c2 : j < 2 * n
    · rw [List.getElem_append_left (by rw [List.length_append, rowL_length, rowL_length]; omega), List.getElem_append_right (by rw [rowL_length]; omega)]
      simp only [rowL_length]
      rw [key 1 (j - n) (by omega)]
      congr 1; omega
    · rw [List.getElem_append_right (by rw [List.length_append, rowL_length, rowL_length]; omega)]
      simp only [List.length_append, rowL_length]
      rw [key 2 (j - (n + n)) (by omega)]
      congr 1; omega

/-- the rows that three points of the columns' polynomials tell are the text's -/
theorem rows_told (s : List UInt8) (x0 x1 x2 : UInt8) (hn : [x0, x1, x2].Nodup) (LL : Nat → List UInt8) (h0 : ∀ i, i < rowsN s.length → (LL 0).getD i 0 = colF s i x0) (h1 : ∀ i, i < rowsN s.length → (LL 1).getD i 0 = colF s i x1) (h2 : ∀ i, i < rowsN s.length → (LL 2).getD i 0 = colF s i x2) :
    atL [x0, x1, x2] LL 1 (rowsN s.length) = rowL s (rowsN s.length) 0 ∧ atL [x0, x1, x2] LL 2 (rowsN s.length) = rowL s (rowsN s.length) 1 ∧ atL [x0, x1, x2] LL 3 (rowsN s.length) = rowL s (rowsN s.length) 2 := by
  have key : ∀ (x : UInt8) (t : Nat), (∀ i, colF s i x = s.getD (t * rowsN s.length + i) 0) → atL [x0, x1, x2] LL x (rowsN s.length) = rowL s (rowsN s.length) t := fun x t hx => by
    refine List.map_congr_left fun i hi => ?_
    have hi' : i < rowsN s.length := by simpa using hi
    rw [atV, h0 i hi', h1 i hi', h2 i hi', at_poly x0 x1 x2 hn _ (colF_poly s i), hx i]
  exact ⟨key 1 0 (fun i => by rw [Nat.zero_mul, Nat.zero_add]; exact (colF_at s i).1), key 2 1 (fun i => by rw [Nat.one_mul]; exact (colF_at s i).2.1), key 3 2 (fun i => (colF_at s i).2.2)⟩

theorem nodup3 {a b c : Nat} (ha : a < 5) (hb : b < 5) (hc : c < 5) (hab : a ≠ b) (hac : a ≠ c) (hbc : b ≠ c) : [UInt8.ofNat (a + 1), UInt8.ofNat (b + 1), UInt8.ofNat (c + 1)].Nodup := by
  simp only [List.nodup_cons, List.mem_cons, List.not_mem_nil, or_false, not_or, not_false_eq_true, List.nodup_nil, and_true]
  exact ⟨⟨fun e => hab (ofNat_inj ha hb e), fun e => hac (ofNat_inj ha hc e)⟩, fun e => hbc (ofNat_inj hb hc e)⟩

/-- ANY THREE TELL THE TEXT -/
theorem cut_join (S : ByteArray) (hS : S.size ≤ 65536) (a b c : Nat) (ha : a < 5) (hb : b < 5) (hc : c < 5) (hab : a ≠ b) (hac : a ≠ c) (hbc : b ≠ c) (L : List Pt) :
    joinV (Pc (bs S) a :: Pc (bs S) b :: Pc (bs S) c :: L) (S.size : Int) = (S, 0) := by
  have hl : (bs S).length = S.size := bs_length S
  have hsz : ∀ i, (Pc (bs S) i).2.size = rowsN S.size := fun i => by show (strP (bs S) i).size = _; rw [strP_size, hl]
  have hp := pick_three (rowsN S.size) (Pc (bs S) a) (Pc (bs S) b) (Pc (bs S) c) L ⟨by show 1 ≤ (a : Int) + 1; omega, by show (a : Int) + 1 ≤ 5; omega⟩ ⟨by show 1 ≤ (b : Int) + 1; omega, by show (b : Int) + 1 ≤ 5; omega⟩ ⟨by show 1 ≤ (c : Int) + 1; omega, by show (c : Int) + 1 ≤ 5; omega⟩
    (by show (a : Int) + 1 ≠ (b : Int) + 1; omega) (by show (a : Int) + 1 ≠ (c : Int) + 1; omega) (by show (b : Int) + 1 ≠ (c : Int) + 1; omega) (hsz a) (hsz b) (hsz c)
  rw [joinV_ok (by omega) (by rw [Int.toNat_natCast]; exact hp), Int.toNat_natCast]
  have hm : [Pc (bs S) a, Pc (bs S) b, Pc (bs S) c].map num = [UInt8.ofNat (a + 1), UInt8.ofNat (b + 1), UInt8.ofNat (c + 1)] := by simp [num_Pc]
  rw [hm]
  have hr := rows_told (bs S) _ _ _ (nodup3 ha hb hc hab hac hbc) (fun t => bs ([Pc (bs S) a, Pc (bs S) b, Pc (bs S) c].getD t (0, ByteArray.empty)).2)
    (fun i hi => by show (bs (strP (bs S) a)).getD i 0 = _; rw [strP_bs]; exact part_col _ _ i hi) (fun i hi => by show (bs (strP (bs S) b)).getD i 0 = _; rw [strP_bs]; exact part_col _ _ i hi) (fun i hi => by show (bs (strP (bs S) c)).getD i 0 = _; rw [strP_bs]; exact part_col _ _ i hi)
  rw [hl] at hr
  rw [hr.1, hr.2.1, hr.2.2]
  have hj := join_bytes (bs S)
  rw [hl] at hj
  rw [hj, mk_bs]

end Go.Proofs.Ytmnnhmbolbepcaa
