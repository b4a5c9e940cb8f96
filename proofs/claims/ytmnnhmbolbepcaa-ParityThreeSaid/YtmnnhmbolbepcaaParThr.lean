/- The walks of the reference's has and three. -/
import Derived.Test.YtmnnhmbolbepcaaParJoin
namespace Go.Proofs.Ytmnnhmbolbepcaa
open Go.RowKit
set_option linter.unusedSimpArgs false

attribute [local go_sem ↓] partLoad_pre

set_option maxRecDepth 100000 in
set_option maxHeartbeats 1000000 in
theorem Has_c (A : Option Addr) (n c : Nat) (L : List Pt) (z : Int) (w : World) (hn : n = L.length) (hl : L.length ≤ 1000000000) (hL : Pts w A L) :
    Calls Try.prog 27 #[.slice A n c, .int .i64 z] w fun e w' => e = .returned (.bool (L.any (fun q => decide (q.1 = z)))) ∧ w = w' := by
  subst hn
  have HL := Lib.hid hL
  have HLL := Lib.hid hl
  clear hL hl
  go_enter Try.func27, Try.ntmps27
  go_wp2_with fail
  go_loopw [5] (fun vi W => ∃ i : Nat, i ≤ L.length ∧ vi = .int .i64 i ∧ Hid (L.any (fun q => decide (q.1 = z)) = (L.drop i).any (fun q => decide (q.1 = z))) ∧ Hid (w = W)) (fun vi _ => L.length - (intOf vi).toNat)
  case atStart => exact ⟨0, Nat.zero_le _, rfl, rfl, rfl⟩
  case round =>
    obtain ⟨i, hi, rfl, HP, HW⟩ := hrel
    obtain rfl := HW.out
    by_cases hlt : i < L.length
    · have i0 : (0 : Int) ≤ (i : Int) := by omega
      have i1 : (i : Int) < (L.length : Int) := by omega
      have i2 : (i : Int) < 1000000000 := by have := HLL.out; omega
      obtain ⟨b, o, e2, h1, h2⟩ := HL.out.at_ i hlt
      subst e2
      have HD := Lib.hid (drop_cons L i hlt)
      clear h2
      generalize L[i] = p at *
      obtain ⟨pi, pd⟩ := p
      replace h1 : w.cell? ⟨b, o + i * 2, none⟩ = some (.int .i64 pi) := h1
      replace HD : Hid (L.drop i = (pi, pd) :: L.drop (i + 1)) := HD
      by_cases c1 : pi = z
      · have t1 : (pi == z) = true := by simpa using c1
        have HE : Hid (L.any (fun q => decide (q.1 = z)) = true) := by rw [Hid, HP.out, HD.out]; simp [c1]
        clear c1
        go_wp2
        go_ret
        exact ⟨by rw [HE.out]; rfl, rfl⟩
      · have t1 : (pi == z) = false := by simpa using c1
        have HE : Hid (L.any (fun q => decide (q.1 = z)) = (L.drop (i + 1)).any (fun q => decide (q.1 = z))) := by rw [Hid, HP.out, HD.out]; simp [c1]
        clear c1
        go_wp2
        go_roundw
        case rel => exact ⟨i + 1, by omega, by go_num, HE, (by first | exact rfl | exact True.intro)⟩
        case measure => simp [intOf]; omega
    · have HE : Hid (L.any (fun q => decide (q.1 = z)) = false) := by rw [Hid, HP.out, List.drop_eq_nil_of_le (by omega)]; rfl
      go_wp2
      go_ret
      exact ⟨by rw [HE.out]; rfl, rfl⟩

set_option maxRecDepth 100000 in
set_option maxHeartbeats 4000000 in
theorem Three_c (A : Option Addr) (c : Nat) (L : List Pt) (n : Nat) (w : World) (hl : L.length ≤ 1000000000) (hL : Pts w A L) :
    Calls Try.prog 23 #[.slice A L.length c, .int .i64 (n : Int)] w fun e w' => (∃ acc er D d, pickL n [] L = (acc, er) ∧ e = .returned (.tuple #[.slice D acc.length d, .int .i64 er]) ∧ Pts w' D acc ∧ acc.length ≤ 3 ∧ (er = 0 → acc.length = 3) ∧ ∀ q ∈ acc, (1 ≤ q.1 ∧ q.1 ≤ 5) ∧ q.2.size = n) ∧ Below w.heap.size w w' := by
  have HL := Lib.hid hL
  have HLL := Lib.hid hl
  clear hL hl
  go_enter Try.func23, Try.ntmps23
  go_wp2_with fail
  have H0 : Hid (OwnP (w.alloc (.cells #[] 30)) w.heap.size (.slice (some ⟨w.heap.size, 0, none⟩) 0 0) [] ∧ Below w.heap.size w (w.alloc (.cells #[] 30))) := ⟨OwnP.lit0 w _ (Nat.le_refl _), (Below.refl _ _).alloc (Nat.le_refl _) _⟩
  go_loopw [6, 7] (fun vo vi W => ∃ (i : Nat) (acc : List Pt), i ≤ L.length ∧ acc.length ≤ 3 ∧ vi = .int .i64 i ∧ Hid (pickL n [] L = pickL n acc (L.drop i)) ∧ Hid (∀ q ∈ acc, (1 ≤ q.1 ∧ q.1 ≤ 5) ∧ q.2.size = n) ∧ Hid (OwnP W w.heap.size vo acc) ∧ Hid (Below w.heap.size w W)) (fun _ vi _ => L.length - (intOf vi).toNat)
  case atStart => exact ⟨0, [], Nat.zero_le _, by simp, rfl, rfl, fun q h => absurd h (by simp), H0.out.1, H0.out.2⟩
  case round =>
    clear H0
    obtain ⟨i, acc, hi, ha3, rfl, HP, HQ, HO, HW⟩ := hrel
    obtain ⟨D, d, e1, hd1, hd2, hp⟩ := HO.out.form
    subst e1
    have HPT := Lib.hid hp
    clear hp hd1 hd2
    by_cases hlt : i < L.length
    · have i0 : (0 : Int) ≤ (i : Int) := by omega
      have i1 : (i : Int) < (L.length : Int) := by omega
      have i2 : (i : Int) < 1000000000 := by have := HLL.out; omega
      have s1 : decide ((i : Int) < (L.length : Int)) = true := by simpa using hlt
      by_cases c1 : acc.length = 3
      · have t1 : decide ((acc.length : Int) < 3) = false := by simp; omega
        have HE : Hid (pickL n [] L = (acc, 0)) := by rw [Hid, HP.out, pick_full _ _ _ c1]
        have HC1 := Lib.hid c1
        clear c1
        go_wp2
        go_ret2
        exact ⟨⟨acc, 0, D, d, HE.out, rfl, HPT.out, ha3, fun _ => HC1.out, HQ.out⟩, HW.out⟩
      · have t1 : decide ((acc.length : Int) < 3) = true := by simp; omega
        have HC1 := Lib.hid c1
        obtain ⟨b, o, e2, h1, h2⟩ := (HL.out.below HW.out).at_ i hlt
        subst e2
        have k1 := partLoad_at (W := wr) (p := L[i]) h1 h2
        have HD := Lib.hid (drop_cons L i hlt)
        clear c1
        generalize L[i] = p at *
        obtain ⟨pi, pd⟩ := p
        replace h1 : wr.cell? ⟨b, o + i * 2, none⟩ = some (.int .i64 pi) := h1
        replace h2 : wr.cell? ⟨b, o + i * 2 + 1, none⟩ = some (.string pd) := h2
        replace k1 : (partLoad (.pointer (some ⟨b, o + i * 2, none⟩))).run Try.prog wr = .ok (.agg #[.int .i64 pi, .string pd]) wr := k1
        replace HD : Hid (L.drop i = (pi, pd) :: L.drop (i + 1)) := HD
        by_cases c2 : pi < 1 ∨ 5 < pi
        · have HE : Hid (pickL n [] L = (acc, 1)) := by rw [Hid, HP.out, HD.out, pickL, if_neg HC1.out, if_pos c2]
          by_cases c3 : pi < 1
          · have t2 : decide (pi < 1) = true := by simpa using c3
            clear c2 c3
            go_wp2
            go_ret2
            exact ⟨⟨acc, 1, D, d, HE.out, rfl, HPT.out, ha3, fun h => absurd h (by omega), HQ.out⟩, HW.out⟩
          · have t2 : decide (pi < 1) = false := by simpa using c3
            have t3 : decide (5 < pi) = true := by simp; omega
            clear c2 c3
            go_wp2
            go_ret2
            exact ⟨⟨acc, 1, D, d, HE.out, rfl, HPT.out, ha3, fun h => absurd h (by omega), HQ.out⟩, HW.out⟩
        · have t2 : decide (pi < 1) = false := by simp; omega
          have t3 : decide (5 < pi) = false := by simp; omega
          have HC2 := Lib.hid c2
          clear c2
          have HHC : Hid (∀ W : World, wr = W → Calls Try.prog 27 #[.slice D acc.length d, .int .i64 pi] W fun e w' => e = .returned (.bool (acc.any (fun q => decide (q.1 = pi)))) ∧ W = w') := fun W h => by
            subst h
            exact Has_c D acc.length d acc pi _ rfl (by omega) HPT.out
          by_cases c4 : acc.any (fun q => decide (q.1 = pi)) = true
          · have HC4 := Lib.hid c4
            clear c4
            go_wp2_with (go_at_call 27; refine (HHC.out _ rfl).mono ?_; rintro e w9 ⟨rfl, rfl⟩; rw [HC4.out])
            go_roundw
            case rel => exact ⟨i + 1, acc, by omega, ha3, by go_num, by rw [Hid, HP.out, HD.out, pickL, if_neg HC1.out, if_neg HC2.out, if_pos HC4.out], HQ, HO, HW⟩
            case measure => simp [intOf]; omega
          · have c5 : acc.any (fun q => decide (q.1 = pi)) = false := Bool.eq_false_iff.2 c4
            have HC4 := Lib.hid c4
            have HC5 := Lib.hid c5
            clear c4 c5
            by_cases c6 : pd.size = n
            · have t4 : ((pd.size : Int) != (n : Int)) = false := by rw [c6]; simp
              have HC6 := Lib.hid c6
              clear c6
              have HZ : Hid (w.heap.size ≤ wr.heap.size) := HW.out.size
              go_wp2_with (first
                | (go_at_call 27; refine (HHC.out _ rfl).mono ?_; rintro e w9 ⟨rfl, rfl⟩; rw [HC5.out])
                | (refine wpList_append_part _ (by rfl) (.tmp 51) (.tmp 56) (by rfl) w.heap.size _ acc (by rfl) (HO.out.alloc _) _ 1 1 [(pi, pd)] (by rfl) (by rfl) (src_of_block (heap_at _ _ _ rfl)) (by simp; omega) (by rw [World.size_alloc]; exact Nat.le_succ_of_le HZ.out) ?_; intro v' w' hown' hg' hat'))
              have hbl : Below w.heap.size w w' := HW.out.trans (((Below.refl _ _).alloc HZ.out _).trans (below_grown (HO.out.alloc _) hg' (by rw [World.size_alloc]; exact Nat.le_succ_of_le HZ.out)))
              exact ⟨⟨i + 1, acc ++ [(pi, pd)], by omega, by rw [List.length_append, List.length_singleton]; have := HC1.out; omega, by go_num,
                by rw [Hid, HP.out, HD.out, pickL, if_neg HC1.out, if_neg HC2.out, if_neg HC4.out, if_pos HC6.out],
                fun q hq => by
                  rcases List.mem_append.1 hq with hq | hq
                  · exact HQ.out q hq
                  · simp at hq; subst hq; exact ⟨by have h := HC2.out; show 1 ≤ pi ∧ pi ≤ 5; omega, HC6.out⟩, hown', hbl⟩, by simp [intOf]; omega⟩
            · have t4 : ((pd.size : Int) != (n : Int)) = true := by simp; omega
              have HE : Hid (pickL n [] L = (acc, 3)) := by rw [Hid, HP.out, HD.out, pickL, if_neg HC1.out, if_neg HC2.out, if_neg HC4.out, if_neg c6]
              clear c6
              go_wp2_with (go_at_call 27; refine (HHC.out _ rfl).mono ?_; rintro e w9 ⟨rfl, rfl⟩; rw [HC5.out])
              go_ret2
              exact ⟨⟨acc, 3, D, d, HE.out, rfl, HPT.out, ha3, fun h => absurd h (by omega), HQ.out⟩, HW.out⟩
    · have s1 : decide ((i : Int) < (L.length : Int)) = false := by simpa using hlt
      obtain rfl : i = L.length := by omega
      have hp : pickL n [] L = (acc, if acc.length < 3 then 4 else 0) := by rw [HP.out, List.drop_length, pickL]
      by_cases c1 : acc.length < 3
      · have t1 : decide ((acc.length : Int) < 3) = true := by simp; omega
        rw [if_pos c1] at hp
        have HE := Lib.hid hp
        clear hp c1
        go_wp2
        go_ret2
        exact ⟨⟨acc, 4, D, d, HE.out, rfl, HPT.out, ha3, fun h => absurd h (by omega), HQ.out⟩, HW.out⟩
      · have t1 : decide ((acc.length : Int) < 3) = false := by simp; omega
        rw [if_neg c1] at hp
        have HE := Lib.hid hp
        have h3 : acc.length = 3 := by omega
        have HC1 := Lib.hid h3
        clear h3
        clear hp c1
        go_wp2
        go_ret2
        exact ⟨⟨acc, 0, D, d, HE.out, rfl, HPT.out, ha3, fun _ => HC1.out, HQ.out⟩, HW.out⟩

end Go.Proofs.Ytmnnhmbolbepcaa
