/- The walk of the reference's Same: are two slices of shares the same? -/
import Derived.Test.YtffmnldhklejcaaShAlive
namespace Go.Proofs.Ytffmnldhklejcaa
open Go.RowKit
set_option linter.unusedSimpArgs false

/-- a slice's cells are these shares -/
def Shs (W : World) (A : Option Addr) (L : List (List UInt8)) : Prop :=
  (∀ x ∈ L, x.length = 33) ∧ (L ≠ [] → ∃ b o, A = some ⟨b, o, none⟩ ∧ ∀ (i : Nat) (h : i < L.length), W.rangeAt b (o + i * 33) (vals L[i]))

theorem Shs.at_ {W : World} {A : Option Addr} {L : List (List UInt8)} (h : Shs W A L) (i : Nat) (hi : i < L.length) : ∃ b o, A = some ⟨b, o, none⟩ ∧ W.rangeAt b (o + i * 33) (vals L[i]) ∧ L[i].length = 33 := by
  obtain ⟨b, o, e, hc⟩ := h.2 (fun e => by rw [e] at hi; simp at hi)
  exact ⟨b, o, e, hc i hi, h.1 _ (List.getElem_mem hi)⟩
theorem Shs.below {W W' : World} {A : Option Addr} {L : List (List UInt8)} (h : Shs W A L) (hb : Below W.heap.size W W') : Shs W' A L :=
  ⟨h.1, fun hn => by
    obtain ⟨b, o, e, hc⟩ := h.2 hn
    exact ⟨b, o, e, fun i hi => range_below (hc i hi) hb⟩⟩
theorem Shs.nil (W : World) (A : Option Addr) : Shs W A [] := ⟨fun _ h => by simp at h, fun h => absurd rfl h⟩
theorem Shs.drewN {W : World} {A : Option Addr} {L : List (List UInt8)} (h : Shs W A L) (n : Nat) : Shs (W.drewN n) A L := h

theorem rows_get (s no : List UInt8) (n i : Nat) (h : i < n) : (rows s no n)[i]'(by simp [rows, h]) = row s no i := by simp [rows]
theorem rows_length (s no : List UInt8) (n : Nat) : (rows s no n).length = n := by simp [rows]
theorem rows_all (s no : List UInt8) (n : Nat) : ∀ x ∈ rows s no n, x.length = 33 := by
  intro x hx
  obtain ⟨i, _, rfl⟩ := List.mem_map.1 hx
  exact row_length s no i
theorem flat_get : ∀ (L : List (List UInt8)), (∀ x ∈ L, x.length = 33) → ∀ (i j : Nat) (hi : i < L.length) (hj : j < L[i].length), L.flatten[i * 33 + j]? = some L[i][j]
  | x :: L, h, i, j, hi, hj => by
    have hx := h x (by simp)
    cases i with
    | zero =>
      have hj' : j < x.length := hj
      rw [List.flatten_cons, Nat.zero_mul, Nat.zero_add, List.getElem?_append_left hj']
      exact List.getElem?_eq_getElem hj'
    | succ i =>
      rw [List.flatten_cons, List.getElem?_append_right (by omega), hx, show (i + 1) * 33 + j - 33 = i * 33 + j from by omega]
      exact flat_get L (fun y hy => h y (by simp [hy])) i j (by simpa using hi) hj
/-- a filled block reads as its shares -/
theorem Fill.shs {W : World} {g n : Nat} {s no : List UInt8} (h : Fill W g n (flat s no n)) : Shs W (some ⟨g, 0, none⟩) (rows s no n) := by
  refine ⟨rows_all s no n, fun _ => ⟨g, 0, rfl, fun i hi j v hv => ?_⟩⟩
  obtain ⟨hj, rfl⟩ := List.getElem?_eq_some_iff.1 hv
  rw [vals_length] at hj
  have hf := flat_get (rows s no n) (rows_all s no n) i j hi hj
  obtain ⟨hlt, he⟩ := List.getElem?_eq_some_iff.1 hf
  have hc := h.cell (i * 33 + j) hlt
  rw [Nat.zero_add, hc, vals_get _ _ hj]
  congr 3

theorem below_of_drew {w w' : World} {b : Nat} (h : Below b w.drew w') : Below b w w' := ⟨h.os, h.tape, h.output, h.size, h.block⟩
theorem Fill.keepb {W W' : World} {g n : Nat} {P : List UInt8} (h : Fill W g n P) (hb : Below W.heap.size W W') : Fill W' g n P := h.keep (hb.block _ h.lt)
/-- the first of a block's shares -/
theorem Fill.shs_take {W : World} {g n : Nat} {s no : List UInt8} (h : Fill W g n (flat s no n)) (k : Nat) (hk : k ≤ n) : Shs W (some ⟨g, 0, none⟩) (rows s no k) := by
  have hA := h.shs
  refine ⟨rows_all s no k, fun _ => ⟨g, 0, rfl, fun i hi => ?_⟩⟩
  have hi' : i < k := by simpa [rows] using hi
  obtain ⟨b, o, e, hr, _⟩ := hA.at_ i (by simp [rows]; omega)
  injection e with e
  injection e with e1 e2
  subst e1 e2
  rw [rows_get s no n i (by omega)] at hr
  rw [rows_get s no k i hi']
  exact hr

set_option maxRecDepth 100000 in
set_option maxHeartbeats 1000000 in
theorem Same_c (A D : Option Addr) (n c m d : Nat) (L M : List (List UInt8)) (w : World) (hn : n = L.length) (hm : m = M.length) (hL : Shs w A L) (hM : Shs w D M) (hb : L.length ≤ 100000) :
    Calls Try.prog 14 #[.slice A n c, .slice D m d] w fun e w' => e = .returned (.bool (decide (L = M))) ∧ Drawn w w' := by
  subst hn hm
  by_cases hlen : L.length = M.length
  · have g1 : ((L.length : Int) != (M.length : Int)) = false := ne_false' (by omega)
    have HLEN := Lib.hid hlen
    have HL := Lib.hid hL
    have HM := Lib.hid hM
    clear hlen hL hM
    go_enter Try.func14, Try.ntmps14
    go_wp2_with fail
    go_loopw [5] (fun vi W => ∃ i : Nat, i ≤ L.length ∧ vi = .int .i64 i ∧ Hid (∀ (j : Nat) (_ : j < i) (h1 : j < L.length) (h2 : j < M.length), L[j] = M[j]) ∧ Drawn w W) (fun vi _ => L.length - (intOf vi).toNat)
    case atStart => exact ⟨0, Nat.zero_le _, rfl, fun j h => absurd h (by omega), Drawn.refl _⟩
    case round =>
      obtain ⟨i, hi, rfl, HE, ⟨nd, rfl⟩⟩ := hrel
      by_cases hlt : i < L.length
      · have hlt2 : i < M.length := by have := HLEN.out; omega
        obtain ⟨b1, o1, rfl, hr1, hl1⟩ := HL.out.at_ i hlt
        obtain ⟨b2, o2, rfl, hr2, hl2⟩ := HM.out.at_ i hlt2
        have hr1' : (w.drewN nd).rangeAt b1 (o1 + i * 33) (vals L[i]) := hr1
        have hr2' : (w.drewN nd).rangeAt b2 (o2 + i * 33) (vals M[i]) := hr2
        have hne := share_neq L[i] M[i] hl1 hl2
        have HX : Hid (L[i] = M[i] → ∀ (j : Nat) (_ : j < i + 1) (h1 : j < L.length) (h2 : j < M.length), L[j] = M[j]) := fun e j hj h1 h2 => by
          rcases Nat.lt_or_ge j i with h | h
          · exact HE.out j h h1 h2
          · obtain rfl : j = i := by omega
            exact e
        have HY : Hid (L[i] ≠ M[i] → L ≠ M) := fun h e => h (by simp only [e])
        have hl1v : (vals L[i]).length = 33 := by rw [vals_length, hl1]
        have hl2v : (vals M[i]).length = 33 := by rw [vals_length, hl2]
        have h1 := vals_one L[i]
        have h2 := vals_one M[i]
        clear hr1 hr2 hl1 hl2 HE
        generalize L[i] = x at *
        generalize M[i] = y at *
        have i0 : (0 : Int) ≤ (i : Int) := by omega
        have i1 : (i : Int) < (L.length : Int) := by omega
        have i2 : (i : Int) < (M.length : Int) := by omega
        have hu := Try.underlying34
        have hi1 : (Try.prog.info? 34).map (·.size) = some (vals x).length := by rw [hl1v]; exact share_size
        have hi2 : (Try.prog.info? 34).map (·.size) = some (vals y).length := by rw [hl2v]; exact share_size
        by_cases hxy : x = y
        · have hd : decide (x = y) = true := by simp [hxy]
          simp only [hd, Bool.not_true] at hne
          have HXY := Lib.hid hxy
          clear hd hxy
          go_wp2_with fail
          refine wp_region_noPanic ?_
          refine wp_region_held_drew (S := fun W => W.rangeAt b1 (o1 + i * 33) (vals x) ∧ W.rangeAt b2 (o2 + i * 33) (vals y)) (by kernel_rfl) ⟨hr1', hr2'⟩ (fun hHeld => ?_)
          refine wpAnyH_take (i := 0) (v := ?_) rfl (by kernel_rfl) (by kernel_rfl) (by kernel_rfl) (fun _ _ _ h => h) (Or.inl ⟨by rfl, ?_⟩) (by assumption) ?_
          rotate_left
          · intro w hSw; go_simp; try (with_reducible rfl)
          simp only [List.getElem_toArray, List.getElem_cons_succ, List.getElem_cons_zero, Act.put, List.setIfInBounds_toArray, List.set_cons_zero, List.set_cons_succ]
          refine wpAnyH_take (i := 1) (v := ?_) rfl (by kernel_rfl) (by kernel_rfl) (by kernel_rfl) (fun _ _ _ h => h) (Or.inl ⟨by rfl, ?_⟩) (by assumption) ?_
          rotate_left
          · intro w hSw; go_simp; try (with_reducible rfl)
          simp only [List.getElem_toArray, List.getElem_cons_succ, List.getElem_cons_zero, Act.put, List.setIfInBounds_toArray, List.set_cons_zero, List.set_cons_succ]
          refine wpAnyH_take (i := 2) (v := ?_) rfl (by kernel_rfl) (by kernel_rfl) (by kernel_rfl) (fun _ _ _ h => h) (Or.inl ⟨by rfl, ?_⟩) (by assumption) ?_
          rotate_left
          · intro w hSw; go_simp; try (with_reducible rfl)
          simp only [List.getElem_toArray, List.getElem_cons_succ, List.getElem_cons_zero, Act.put, List.setIfInBounds_toArray, List.set_cons_zero, List.set_cons_succ]
          refine' wpAnyH_take (i := 3) (v := _) rfl (by kernel_rfl) (by kernel_rfl) (by kernel_rfl) (fun _ _ _ h => h) (yieldsIf_load_mid (by rfl) _ _ rfl _ _ rfl _ _ (fun W hW => hW.1) hu (by rfl) hi1) (by assumption) ?_
          simp only [List.getElem_toArray, List.getElem_cons_succ, List.getElem_cons_zero, Act.put, List.setIfInBounds_toArray, List.set_cons_zero, List.set_cons_succ]
          refine wpAnyH_take (i := 4) (v := ?_) rfl (by kernel_rfl) (by kernel_rfl) (by kernel_rfl) (fun _ _ _ h => h) (Or.inl ⟨by rfl, ?_⟩) (by assumption) ?_
          rotate_left
          · intro w hSw; go_simp; try (with_reducible rfl)
          simp only [List.getElem_toArray, List.getElem_cons_succ, List.getElem_cons_zero, Act.put, List.setIfInBounds_toArray, List.set_cons_zero, List.set_cons_succ]
          refine wpAnyH_take (i := 5) (v := ?_) rfl (by kernel_rfl) (by kernel_rfl) (by kernel_rfl) (fun _ _ _ h => h) (Or.inl ⟨by rfl, ?_⟩) (by assumption) ?_
          rotate_left
          · intro w hSw; go_simp; try (with_reducible rfl)
          simp only [List.getElem_toArray, List.getElem_cons_succ, List.getElem_cons_zero, Act.put, List.setIfInBounds_toArray, List.set_cons_zero, List.set_cons_succ]
          refine wpAnyH_take (i := 6) (v := ?_) rfl (by kernel_rfl) (by kernel_rfl) (by kernel_rfl) (fun _ _ _ h => h) (Or.inl ⟨by rfl, ?_⟩) (by assumption) ?_
          rotate_left
          · intro w hSw; go_simp; try (with_reducible rfl)
          simp only [List.getElem_toArray, List.getElem_cons_succ, List.getElem_cons_zero, Act.put, List.setIfInBounds_toArray, List.set_cons_zero, List.set_cons_succ]
          refine' wpAnyH_take (i := 7) (v := _) rfl (by kernel_rfl) (by kernel_rfl) (by kernel_rfl) (fun _ _ _ h => h) (yieldsIf_load_mid (by rfl) _ _ rfl _ _ rfl _ _ (fun W hW => hW.2) hu (by rfl) hi2) (by assumption) ?_
          simp only [List.getElem_toArray, List.getElem_cons_succ, List.getElem_cons_zero, Act.put, List.setIfInBounds_toArray, List.set_cons_zero, List.set_cons_succ]
          refine wpAnyH_take (i := 8) (v := ?_) rfl (by kernel_rfl) (by kernel_rfl) (by kernel_rfl) (fun _ _ _ h => h) (Or.inl ⟨by rfl, ?_⟩) (by assumption) ?_
          rotate_left
          · intro w hSw; go_simp; try (with_reducible rfl)
          simp only [List.getElem_toArray, List.getElem_cons_succ, List.getElem_cons_zero, Act.put, List.setIfInBounds_toArray, List.set_cons_zero, List.set_cons_succ]
          refine wpAnyH_done (by kernel_rfl) ?_ _
          refine NoPanic.normal ?_
          go_wp2
          go_roundw
          case rel => exact ⟨i + 1, by omega, by go_num, HX.out HXY.out, Drawn.step (Drawn.refl _) _⟩
          case measure => simp [intOf]; omega
        · have hd : decide (x = y) = false := by simp [hxy]
          simp only [hd, Bool.not_false] at hne
          have HXY := Lib.hid hxy
          clear hd hxy
          go_wp2_with fail
          refine wp_region_noPanic ?_
          refine wp_region_held_drew (S := fun W => W.rangeAt b1 (o1 + i * 33) (vals x) ∧ W.rangeAt b2 (o2 + i * 33) (vals y)) (by kernel_rfl) ⟨hr1', hr2'⟩ (fun hHeld => ?_)
          refine wpAnyH_take (i := 0) (v := ?_) rfl (by kernel_rfl) (by kernel_rfl) (by kernel_rfl) (fun _ _ _ h => h) (Or.inl ⟨by rfl, ?_⟩) (by assumption) ?_
          rotate_left
          · intro w hSw; go_simp; try (with_reducible rfl)
          simp only [List.getElem_toArray, List.getElem_cons_succ, List.getElem_cons_zero, Act.put, List.setIfInBounds_toArray, List.set_cons_zero, List.set_cons_succ]
          refine wpAnyH_take (i := 1) (v := ?_) rfl (by kernel_rfl) (by kernel_rfl) (by kernel_rfl) (fun _ _ _ h => h) (Or.inl ⟨by rfl, ?_⟩) (by assumption) ?_
          rotate_left
          · intro w hSw; go_simp; try (with_reducible rfl)
          simp only [List.getElem_toArray, List.getElem_cons_succ, List.getElem_cons_zero, Act.put, List.setIfInBounds_toArray, List.set_cons_zero, List.set_cons_succ]
          refine wpAnyH_take (i := 2) (v := ?_) rfl (by kernel_rfl) (by kernel_rfl) (by kernel_rfl) (fun _ _ _ h => h) (Or.inl ⟨by rfl, ?_⟩) (by assumption) ?_
          rotate_left
          · intro w hSw; go_simp; try (with_reducible rfl)
          simp only [List.getElem_toArray, List.getElem_cons_succ, List.getElem_cons_zero, Act.put, List.setIfInBounds_toArray, List.set_cons_zero, List.set_cons_succ]
          refine' wpAnyH_take (i := 3) (v := _) rfl (by kernel_rfl) (by kernel_rfl) (by kernel_rfl) (fun _ _ _ h => h) (yieldsIf_load_mid (by rfl) _ _ rfl _ _ rfl _ _ (fun W hW => hW.1) hu (by rfl) hi1) (by assumption) ?_
          simp only [List.getElem_toArray, List.getElem_cons_succ, List.getElem_cons_zero, Act.put, List.setIfInBounds_toArray, List.set_cons_zero, List.set_cons_succ]
          refine wpAnyH_take (i := 4) (v := ?_) rfl (by kernel_rfl) (by kernel_rfl) (by kernel_rfl) (fun _ _ _ h => h) (Or.inl ⟨by rfl, ?_⟩) (by assumption) ?_
          rotate_left
          · intro w hSw; go_simp; try (with_reducible rfl)
          simp only [List.getElem_toArray, List.getElem_cons_succ, List.getElem_cons_zero, Act.put, List.setIfInBounds_toArray, List.set_cons_zero, List.set_cons_succ]
          refine wpAnyH_take (i := 5) (v := ?_) rfl (by kernel_rfl) (by kernel_rfl) (by kernel_rfl) (fun _ _ _ h => h) (Or.inl ⟨by rfl, ?_⟩) (by assumption) ?_
          rotate_left
          · intro w hSw; go_simp; try (with_reducible rfl)
          simp only [List.getElem_toArray, List.getElem_cons_succ, List.getElem_cons_zero, Act.put, List.setIfInBounds_toArray, List.set_cons_zero, List.set_cons_succ]
          refine wpAnyH_take (i := 6) (v := ?_) rfl (by kernel_rfl) (by kernel_rfl) (by kernel_rfl) (fun _ _ _ h => h) (Or.inl ⟨by rfl, ?_⟩) (by assumption) ?_
          rotate_left
          · intro w hSw; go_simp; try (with_reducible rfl)
          simp only [List.getElem_toArray, List.getElem_cons_succ, List.getElem_cons_zero, Act.put, List.setIfInBounds_toArray, List.set_cons_zero, List.set_cons_succ]
          refine' wpAnyH_take (i := 7) (v := _) rfl (by kernel_rfl) (by kernel_rfl) (by kernel_rfl) (fun _ _ _ h => h) (yieldsIf_load_mid (by rfl) _ _ rfl _ _ rfl _ _ (fun W hW => hW.2) hu (by rfl) hi2) (by assumption) ?_
          simp only [List.getElem_toArray, List.getElem_cons_succ, List.getElem_cons_zero, Act.put, List.setIfInBounds_toArray, List.set_cons_zero, List.set_cons_succ]
          refine wpAnyH_take (i := 8) (v := ?_) rfl (by kernel_rfl) (by kernel_rfl) (by kernel_rfl) (fun _ _ _ h => h) (Or.inl ⟨by rfl, ?_⟩) (by assumption) ?_
          rotate_left
          · intro w hSw; go_simp; try (with_reducible rfl)
          simp only [List.getElem_toArray, List.getElem_cons_succ, List.getElem_cons_zero, Act.put, List.setIfInBounds_toArray, List.set_cons_zero, List.set_cons_succ]
          refine wpAnyH_done (by kernel_rfl) ?_ _
          refine NoPanic.normal ?_
          go_wp2
          go_ret
          exact ⟨ret_bool (by simp [HY.out HXY.out]), Drawn.mk ⟨nd + 1, rfl⟩⟩
      · have HQ : Hid (L = M) := List.ext_getElem HLEN.out (fun j h1 h2 => HE.out j (by omega) h1 h2)
        clear HE
        go_wp2
        go_ret
        exact ⟨ret_bool (by simp [HQ.out]), Drawn.step (Drawn.refl _) _⟩
  · have g1 : ((L.length : Int) != (M.length : Int)) = true := by rw [bne_iff_ne]; omega
    have hne : L ≠ M := fun e => hlen (by rw [e])
    have HN := Lib.hid hne
    clear hlen hne hL hM
    go_enter Try.func14, Try.ntmps14
    go_wp2_with fail
    go_ret
    exact ⟨ret_bool (by simp [HN.out]), Drawn.refl _⟩

end Go.Proofs.Ytffmnldhklejcaa
