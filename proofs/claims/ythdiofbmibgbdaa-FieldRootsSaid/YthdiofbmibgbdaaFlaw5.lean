/- The walk of FieldRoots. -/
import Derived.Test.YthdiofbmibgbdaaFlaw2
import Derived.RegionTactic
import Derived.ChangeAlike
import Derived.BigRegion
import Derived.Deep.DeepMust
namespace Go.Proofs.Ythdiofbmibgbdaa
open Go.RowKit

/-- the sum after i rounds -/
def st (a b : List UInt8) (i : Nat) : List UInt8 := (List.range a.length).map (fun j => if j < i then a.getD j 0 ^^^ b.getD j 0 else a.getD j 0)
theorem st_length (a b : List UInt8) (i : Nat) : (st a b i).length = a.length := by simp [st]
theorem st_zero (a b : List UInt8) : st a b 0 = a := by
  refine List.ext_getElem (by simp [st]) (fun j h1 h2 => ?_)
  simp [st, List.getD_eq_getElem?_getD, h2]
theorem st_at (a b : List UInt8) (i : Nat) (h : i < a.length) : (st a b i)[i]'(by rw [st_length]; exact h) = a[i] := by
  simp [st, List.getD_eq_getElem?_getD, h]
theorem st_set (a b : List UInt8) (i : Nat) (h : i < a.length) (hb : i < b.length) : (st a b i).set i (a[i] ^^^ b[i]) = st a b (i + 1) := by
  refine List.ext_getElem (by simp [st]) (fun j h1 h2 => ?_)
  have hj : j < a.length := by simpa [st] using h2
  rw [List.getElem_set]
  by_cases e : i = j
  · subst e
    simp [st, List.getD_eq_getElem?_getD, h, hb]
  · rw [if_neg e]
    simp only [st, List.getElem_map, List.getElem_range]
    by_cases h3 : j < i
    · rw [if_pos h3, if_pos (by omega)]
    · rw [if_neg h3, if_neg (by omega)]
theorem add_get : ∀ (l m : List UInt8) (_ : l.length = m.length) (j : Nat) (h1 : j < (Gf.add l m).length) (h2 : j < l.length) (h3 : j < m.length), (Gf.add l m)[j] = l[j] ^^^ m[j]
  | [], [], _, j, h1, _, _ => by simp [Gf.add] at h1
  | a :: l, b :: m, h, j, h1, h2, h3 => by
    cases j with
    | zero => rfl
    | succ j => exact add_get l m (by simpa using h) j (by simpa [Gf.add] using h1) (by simpa using h2) (by simpa using h3)
theorem st_end (a b : List UInt8) (h : a.length = b.length) : st a b a.length = Gf.add a b := by
  refine List.ext_getElem (by rw [Gf.add_length a b h]; simp [st]) (fun j h1 h2 => ?_)
  have hj : j < a.length := by simpa [st] using h1
  rw [add_get a b h j h2 hj (by omega)]
  simp [st, List.getD_eq_getElem?_getD, hj, show j < b.length from by omega]

/-- are the first coefficients zeros? -/
def zs (a : List UInt8) (i : Nat) : Bool := (a.take i).all (· == 0)
theorem zs_succ (a : List UInt8) (i : Nat) (h : i < a.length) : zs a (i + 1) = (zs a i && (a[i] == 0)) := by
  unfold zs; rw [List.take_succ_eq_append_getElem h]; simp only [List.all_append, List.all_cons, List.all_nil, Bool.and_true]
theorem zs_all (a : List UInt8) : zs a a.length = true ↔ ∀ c ∈ a, c = 0 := by
  unfold zs; rw [List.take_length]; simp

/-- how many zeros there are below k -/
def zc (a : List UInt8) (k : Nat) : Nat := ((List.range k).filter (fun i => Gf.eval a (UInt8.ofNat i) == 0)).length
theorem zc_succ (a : List UInt8) (k : Nat) : zc a (k + 1) = zc a k + if Gf.eval a (UInt8.ofNat k) = 0 then 1 else 0 := by
  unfold zc; rw [List.range_succ, List.filter_append, List.length_append]
  by_cases h : Gf.eval a (UInt8.ofNat k) = 0 <;> simp [h]
theorem zc_le (a : List UInt8) (k : Nat) : zc a k ≤ k := by
  unfold zc; exact Nat.le_trans (List.length_filter_le _ _) (by simp)
theorem ofNat_inj {i j : Nat} (hi : i < 256) (hj : j < 256) (h : UInt8.ofNat i = UInt8.ofNat j) : i = j := by
  have := congrArg UInt8.toNat h
  rw [UInt8.toNat_ofNat', UInt8.toNat_ofNat'] at this
  omega
theorem zc_none (a : List UInt8) (h : zs a a.length = true) : zc a 256 = 256 := by
  unfold zc
  rw [List.filter_eq_self.2 (fun i _ => by simp [Gf.eval_zeros a _ ((zs_all a).1 h)])]
  simp
theorem zc_some (a : List UInt8) (h : zs a a.length = false) : zc a 256 < a.length := by
  refine Nat.lt_of_not_le (fun hle => ?_)
  have hz : ∀ c ∈ a, c = 0 := by
    refine Gf.roots a.length a (((((List.range 256).filter (fun i => Gf.eval a (UInt8.ofNat i) == 0)).take a.length)).map UInt8.ofNat) rfl (by
      rw [List.length_map, List.length_take]; exact Nat.min_eq_left hle) ?_ ?_
    · rw [List.Nodup, List.pairwise_map]
      refine List.Pairwise.imp_of_mem ?_ ((List.nodup_range.filter _).take)
      intro i j hi hj hne e
      have hi' := List.mem_range.1 (List.mem_filter.1 (List.mem_of_mem_take hi)).1
      have hj' := List.mem_range.1 (List.mem_filter.1 (List.mem_of_mem_take hj)).1
      exact hne (ofNat_inj hi' hj' e)
    · intro r hr
      obtain ⟨i, hi, rfl⟩ := List.mem_map.1 hr
      simpa using (List.mem_filter.1 (List.mem_of_mem_take hi)).2
  rw [(zs_all a).2 hz] at h
  cases h

/-- a store into the call's own slice of bytes -/
theorem OwnB.set_ {w : World} {base : Nat} {g n cap : Nat} {l : List UInt8} (h : OwnB w base (.slice (some ⟨g, 0, none⟩) n cap) l) (hn : n = l.length) (j : Nat) (a : UInt8) :
    OwnB (w.setCell ⟨g, j, none⟩ (.int .u8 (u a))) base (.slice (some ⟨g, 0, none⟩) n cap) (l.set j a) := by
  subst hn
  have h2 := (World.ownsRow.stored (w := w) (base := base) (e := 5) (size := 1) (g := g) (n := l.length) (cap := cap) (xs := vals l) h j (.int .u8 (u a))).1
  unfold OwnB
  rw [List.length_set, show vals (l.set j a) = (vals l).set j (.int .u8 (u a)) from by simp [vals, List.map_set]]
  exact h2

set_option maxRecDepth 100000 in
set_option maxHeartbeats 1000000 in
theorem FieldRoots_skip (A D : Option Addr) (n c m d : Nat) (x : UInt8) (w : World) (h : 12 < n ∨ n ≠ m) :
    Calls Try.prog 8 #[.slice A n c, .slice D m d, .int .u8 (u x)] w fun e w' => e = .returned (.bool true) ∧ Below w.heap.size w w' := by
  by_cases h1 : 12 < n
  · have g1 : (12 : Int) < (n : Int) := by omega
    clear h
    go_enter Try.func8, Try.ntmps8
    go_wp2_with fail
    refine (Alive_c _).mono ?_
    rintro e w1 ⟨rfl, hb⟩
    go_wp2_with fail
    go_ret
    exact ⟨rfl, hb⟩
  · have g1 : decide ((12 : Int) < (n : Int)) = false := by simp; omega
    have g2 : ((n : Int) != (m : Int)) = true := by rw [bne_iff_ne]; omega
    clear h
    go_enter Try.func8, Try.ntmps8
    go_wp2_with fail
    refine (Alive_c _).mono ?_
    rintro e w1 ⟨rfl, hb⟩
    go_wp2_with fail
    go_ret
    exact ⟨rfl, hb⟩

set_option maxRecDepth 100000 in
set_option maxHeartbeats 2000000 in
theorem FieldRoots_w (A D : Option Addr) (c d : Nat) (a b : List UInt8) (x : UInt8) (w : World) (h12 : a.length ≤ 12) (hab : a.length = b.length) (ha : Bytes w A a) (hb : Bytes w D b) :
    Calls Try.prog 8 #[.slice A a.length c, .slice D a.length d, .int .u8 (u x)] w fun e w' => e = .returned (.bool true) ∧ Below w.heap.size w w' := by
  have g1 : decide ((12 : Int) < (a.length : Int)) = false := by simp; omega
  have g2 : ((a.length : Int) != (a.length : Int)) = false := by simp
  have HAB := Lib.hid hab
  have HA := Lib.hid ha
  have HD := Lib.hid hb
  clear ha hb hab
  go_enter Try.func8, Try.ntmps8
  go_wp2_with fail
  refine (Alive_c _).mono ?_
  rintro e w1 ⟨rfl, hb1⟩
  have HB := Lib.hid hb1
  clear hb1
  go_wp2_with (at_builtin
               go_must (refine wpList_append_bytes _ (by rfl) (.tmp 24) (.tmp 25) (by rfl) w.heap.size _ [] (by rfl) (OwnB.lit _ w.heap.size [] HB.out.size (by simp [maxLen])) _ _ _ a (by rfl) ((HA.out.below HB.out).alloc _) rfl (by simp; omega) (HB.out.alloc HB.out.size _).size ?_)
               intro v9 w2 h9 hg9 hat9
               have hbw := (HB.out.alloc HB.out.size (.cells (vals []).toArray 5)).grown hg9 (by have := HB.out.size; simp; omega) (fun k hk => by have := HB.out.size; simp [Value.ownBlock] at hk; omega)
               rw [List.nil_append] at h9
               have H9 := Lib.hid h9
               have HW := Lib.hid hbw
               clear h9 hg9 hat9 hbw
               obtain ⟨A9, c9, rfl, _, _, _⟩ := H9.out.form)
  go_loopw [7, 29] (fun vn vi w' => ∃ i : Nat, i ≤ a.length ∧ vi = .int .i64 i ∧ vn = .bool (zs a i) ∧ OwnB w' w.heap.size (.slice A9 a.length c9) (st a b i) ∧ Below w.heap.size w w') (fun _ vi _ => a.length - (intOf vi).toNat)
  case atStart => exact ⟨0, Nat.zero_le _, rfl, rfl, by rw [st_zero]; exact H9.out, HW.out⟩
  case round =>
    obtain ⟨i, hi, rfl, rfl, ho, hbw⟩ := hrel
    clear H9 HW
    by_cases hlt : i < a.length
    · obtain ⟨g, cap, hv, _, hgs⟩ := World.ownsRow.form ho (by rw [st_length]; omega)
      injection hv with hA9 _ hc9
      subst hA9
      have hcell : wr.cell? ⟨g, i, none⟩ = some (.int .u8 (u a[i])) := by
        have hh := World.ownsRow.cells ho (g := g) rfl i (.int .u8 (u a[i])) (by
          rw [List.getElem?_eq_getElem (by rw [vals_length, st_length]; exact hlt), vals_get _ _ (by rw [st_length]; exact hlt), st_at a b i hlt])
        rwa [add_zero_block] at hh
      have hfz : wr.frozen? ⟨g, i, none⟩ = false := by
        have h := ho
        unfold OwnB at h
        rw [st_length] at h
        exact World.ownsRow.frozenAt h i
      obtain ⟨ad, rfl, hc1⟩ := HA.out i hlt
      obtain ⟨ad2, rfl, hc2⟩ := HD.out i (by have := HAB.out; omega)
      have hd1 := (hbw.cell (p := ad.add i) (by have := lt_of_cell (w := w) (p := ad.add i) (by rw [hc1]; rfl); exact this)).trans hc1
      have hd2 := (hbw.cell (p := ad2.add i) (by have := lt_of_cell (w := w) (p := ad2.add i) (by rw [hc2]; rfl); exact this)).trans hc2
      have HS := Lib.hid (OwnB.set_ ho (st_length a b i).symm i (a[i] ^^^ b[i]'(by have := HAB.out; omega)))
      have HZ := Lib.hid (zs_succ a i hlt)
      rw [st_set a b i hlt (by have := HAB.out; omega)] at HS
      have HBW := Lib.hid hbw
      clear ho hc1 hc2 hbw
      generalize hp : a[i] = p at *
      generalize hq : b[i]'(by have := HAB.out; omega) = q at *
      clear hp hq
      have i0 : (0 : Int) ≤ (i : Int) := by omega
      have i1 : (i : Int) < (a.length : Int) := by omega
      have hgb : w.heap.size ≤ g := (World.ownsRow.lt HS.out g rfl).1
      cases hz : zs a i
      · have HN := Lib.hid (show zs a (i + 1) = false by rw [HZ.out, hz]; rfl)
        clear HZ
        go_wp2_with fail
        go_region
        go_wp2
        go_roundw
        case rel => exact ⟨i + 1, by omega, by go_num, by rw [HN.out], by rw [xor_u]; exact HS.out, (HBW.out.setCell (p := ⟨g, i, none⟩) hgb _).drew⟩
        case measure => simp [intOf]; omega
      · by_cases hp0 : p = 0
        all_goals
          first
            | (have t1 : (u p == 0) = true := eq_true' (by rw [hp0]; rfl)
               have HN := Lib.hid (show zs a (i + 1) = true by rw [HZ.out, hz, hp0]; rfl))
            | (have t1 : (u p == 0) = false := eq_false' (u_ne_zero hp0)
               have HN := Lib.hid (show zs a (i + 1) = false by rw [HZ.out, hz]; simp [hp0]))
          clear HZ hp0
          go_wp2_with fail
          go_region
          go_wp2
          go_roundw
          case rel => exact ⟨i + 1, by omega, by go_num, by rw [HN.out], by rw [xor_u]; exact HS.out, (HBW.out.setCell (p := ⟨g, i, none⟩) hgb _).drew⟩
          case measure => simp [intOf]; omega
    · have hil : i = a.length := by omega
      subst hil
      rw [st_end a b HAB.out] at ho
      have HO := Lib.hid ho
      have HW := Lib.hid hbw
      clear ho hbw
      have hA9 : Bytes wr A9 (Gf.add a b) := by
        obtain ⟨A', c', hv, _, hbs, _⟩ := HO.out.form
        injection hv with h1 _ _
        rw [h1]
        exact hbs
      have H9b := Lib.hid hA9
      clear hA9
      go_wp2
      go_loopw [8, 51] (fun vz vk w' => ∃ k z : Nat, k ≤ 256 ∧ vk = .int .i64 k ∧ vz = .int .i64 z ∧ Hid (z = zc a k) ∧ Drawn wr w') (fun _ vk _ => 256 - (intOf vk).toNat)
      case atStart => exact ⟨0, 0, by omega, rfl, rfl, rfl, Drawn.refl _⟩
      case round =>
        obtain ⟨k, z, hk, rfl, rfl, HZ, ⟨nd, rfl⟩⟩ := hrel
        have hz256 : z ≤ 256 := by have := zc_le a k; rw [HZ.out]; omega
        by_cases hlt : k < 256
        · go_wp2_with fail
          refine (Eval_c _ _ _ _ a (UInt8.ofNat k) _ rfl (by omega) (by first | exact ofNat_u k hlt | (rw [← ofNat_u k hlt]; omega)) ((HA.out.below HW.out).drewN nd)).mono ?_
          rintro e w' ⟨rfl, ⟨nd2, rfl⟩⟩
          have HZ2 := Lib.hid (zc_succ a k)
          by_cases h0 : Gf.eval a (UInt8.ofNat k) = 0
          · have t1 : (u (Gf.eval a (UInt8.ofNat k)) == 0) = true := eq_true' (by rw [h0]; rfl)
            have HZ3 := Lib.hid (show z + 1 = zc a (k + 1) by rw [HZ2.out, if_pos h0, HZ.out])
            clear HZ HZ2 h0
            go_wp2_with fail
            go_roundw
            case rel => exact ⟨k + 1, z + 1, by omega, by go_num, by go_num, HZ3, Drawn.step (Drawn.refl _) _⟩
            case measure => simp [intOf]; omega
          · have t1 : (u (Gf.eval a (UInt8.ofNat k)) == 0) = false := eq_false' (u_ne_zero h0)
            have HZ3 := Lib.hid (show z = zc a (k + 1) by rw [HZ2.out, if_neg h0, HZ.out]; rfl)
            clear HZ HZ2 h0
            go_wp2_with fail
            go_roundw
            case rel => exact ⟨k + 1, z, by omega, by go_num, rfl, HZ3, Drawn.step (Drawn.refl _) _⟩
            case measure => simp [intOf]; omega
        · have t2 : (u (Gf.eval (Gf.add a b) x) == Go.bits .xor .u8 (u (Gf.eval a x)) (u (Gf.eval b x))) = true := eq_true' (by rw [xor_u, Gf.eval_add x a b HAB.out])
          have hk2 : k = 256 := by omega
          have HL := Lib.hid (Gf.add_length a b HAB.out)
          cases hz : zs a a.length
          all_goals
            first
              | (have hz3 := zc_some a hz
                 have hz4 : z < a.length := by have := HZ.out; rw [hk2] at this; omega
                 have t3 : decide ((z : Int) < (a.length : Int)) = true := by simp; omega
                 have t4 : decide (z < a.length) = true := by simp; omega
                 clear hz3 hz)
              | (have hz3 := zc_none a hz
                 have hz4 : z = 256 := by have := HZ.out; rw [hk2] at this; omega
                 have t3 : ((z : Int) == 256) = true := by rw [hz4]; rfl
                 clear hz3 hz hz4)
            clear hk2 HZ
            go_wp2_with fail
            refine (Eval_c _ _ _ _ (Gf.add a b) x _ (by rw [HL.out]) (by rw [HL.out]; omega) rfl (H9b.out.drewN nd)).mono ?_
            rintro e w' ⟨rfl, ⟨nd2, rfl⟩⟩
            go_wp2_with fail
            refine (Eval_c _ _ _ _ a x _ rfl (by omega) rfl ((HA.out.below HW.out).drewN _)).mono ?_
            rintro e w' ⟨rfl, ⟨nd3, rfl⟩⟩
            go_wp2_with fail
            refine (Eval_c _ _ _ _ b x _ HAB.out (by have := HAB.out; omega) rfl ((HD.out.below HW.out).drewN _)).mono ?_
            rintro e w' ⟨rfl, ⟨nd4, rfl⟩⟩
            go_wp2_with fail
            go_ret
            exact ⟨rfl, below_drewN HW.out _⟩

theorem FieldRoots_any (v : Value) {w : World} (h : IsBytes w v) (v' : Value) (h' : IsBytes w v') (x : Int) (hx : (Lit.int .u8 x).wf = true) (_ : World := w) :
    Calls Try.prog 8 #[v, v', .int .u8 x] w fun e w' => e = .returned (.bool true) ∧ Below w.heap.size w w' := by
  obtain ⟨A, a, c, rfl, _, _, ha⟩ := h
  obtain ⟨D, b, d, rfl, _, _, hb⟩ := h'
  obtain ⟨y, rfl⟩ := u_wf hx
  by_cases h12 : a.length ≤ 12 ∧ a.length = b.length
  · rw [← h12.2]
    exact FieldRoots_w A D c d a b y w h12.1 h12.2 ha hb
  · exact FieldRoots_skip A D _ c _ d y w (by omega)

end Go.Proofs.Ythdiofbmibgbdaa
