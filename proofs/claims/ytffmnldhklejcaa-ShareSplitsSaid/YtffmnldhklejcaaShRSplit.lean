/- The walk of the reference's Split. -/
import Derived.Test.YtffmnldhklejcaaShLit
namespace Go.Proofs.Ytffmnldhklejcaa
open Go.RowKit

/-- the call's own slice of shares -/
def OwnS (w : World) (base : Nat) (v : Value) (L : List (List UInt8)) : Prop := w.ownsRow base 34 33 v L.length (vals L.flatten)
theorem OwnS.nil (w : World) (base : Nat) : OwnS w base (.slice none 0 0) [] := World.ownsRow_nil w base _ _
theorem OwnS.kept {w w' : World} {base : Nat} {v : Value} {L : List (List UInt8)} {row : Option Nat} (h : OwnS w base v L) (hg : w.grownBy w' row) (hne : v.ownBlock = none ∨ v.ownBlock ≠ row) : OwnS w' base v L := World.ownsRow.kept h hg hne
theorem OwnS.alloc {w : World} {base : Nat} {v : Value} {L : List (List UInt8)} (h : OwnS w base v L) (o : Obj) : OwnS (w.alloc o) base v L := World.ownsRow.alloc h o
theorem OwnS.drewN {w : World} {base : Nat} {v : Value} {L : List (List UInt8)} (h : OwnS w base v L) (n : Nat) : OwnS (w.drewN n) base v L := h
theorem OwnS.setCell {w : World} {base : Nat} {v : Value} {L : List (List UInt8)} (h : OwnS w base v L) (p : Addr) (hne : v.ownBlock ≠ some p.block) (x : Value) : OwnS (w.setCell p x) base v L :=
  h.kept (row := some p.block) ⟨rfl, rfl, rfl, by simp [World.setCell], fun k _ hk => Below.heap_setCell _ _ _ k (fun e => hk (by rw [e]))⟩ (.inr hne)
theorem OwnS.form {w : World} {base : Nat} {v : Value} {L : List (List UInt8)} (h : OwnS w base v L) (hL : ∀ l ∈ L, l.length = 33) :
    ∃ A c, v = .slice A L.length c ∧ L.length ≤ c ∧ c ≤ maxLen ∧ Shs w A L := by
  rcases h.2 with ⟨rfl, hx⟩ | ⟨g, cap, cur, rfl, hb, hh, hle, hcap, hsz, htake⟩
  · have hl : L = [] := List.eq_nil_of_length_eq_zero hx
    subst hl
    exact ⟨none, 0, rfl, Nat.le_refl _, by decide, Shs.nil _ _⟩
  · refine ⟨some ⟨g, 0, none⟩, cap, rfl, hle, hcap, hL, fun _ => ⟨g, 0, rfl, fun i hi j v hv => ?_⟩⟩
    have hflat : L.flatten.length = L.length * 33 := by
      have := h.1
      rwa [vals_length] at this
    have hw : (w.alloc (.cells (vals L.flatten).toArray 34)).heap[w.heap.size]? = some (.cells (vals L.flatten).toArray 34 (0, 0)) := heap_at _ _ _ rfl
    obtain ⟨b, o, e, hc⟩ := (shs_of_block L hL hw).2 (fun e => by rw [e] at hi; simp at hi)
    injection e with e
    injection e with e1 e2
    subst e1 e2
    have h2 := hc i hi j v hv
    rw [cell_of_row _ _ _ _ _ _ hw] at h2
    rw [World.ownsRow.cellAt h (0 + i * 33 + j) ?_]
    · rwa [List.getElem?_toArray] at h2
    · have hj : j < L[i].length := by
        have := (List.getElem?_eq_some_iff.1 hv).1
        rwa [vals_length] at this
      rw [hL _ (List.getElem_mem hi)] at hj
      have : (i + 1) * 33 ≤ L.length * 33 := Nat.mul_le_mul_right _ hi
      omega

/-- a share appended to the call's own slice of shares -/
theorem wpList_append_share (w : World) {ops : Array Oper} {rest : List Oper} {o : Oper} {a : Act} {Q : Exit → Act → World → Prop} (hgd : o.guard = none) (s x : Operand)
    (ho : o.op = .call { callee := .builtin .append, args := #[s, x], argTypes := #[25, 25] })
    (base : Nat) (v : Value) (L : List (List UInt8)) (hs : a.eval s = v) (hown : OwnS w base v L)
    (g c : Nat) (l : List UInt8) (hx : a.eval x = .slice (some ⟨g, 0, none⟩) 1 c) (hr : w.heap[g]? = some (.cells (vals l).toArray 34 (0, 0))) (hl : l.length = 33)
    (hlen : L.length ≤ 100000) (hbase : base ≤ w.heap.size)
    (h : ∀ v' w', OwnS w' base v' (L ++ [l]) → w.grownBy w' v.ownBlock → (v'.ownBlock = v.ownBlock ∨ v'.ownBlock = some w.heap.size) → wpList Try.prog ops Q rest (a.put o.dst v') w') : wpList Try.prog ops Q (o :: rest) a w := by
  obtain ⟨i0, hi, hz0, hz1, hz2⟩ := info_parts share_info
  refine wpList_append_src w hgd s x _ ho base _ i0 _ 33 33 Try.underlying25 hi hz0 hz1 hz2 (by simp [Value.cells, vals]) (by decide) v L.length (vals L.flatten) hs hown (some ⟨g, 0, none⟩) 1 c (vals l) hx ?_ (by rw [vals_length, hl]) (vals_one _) (by unfold maxLen; omega) (by omega) hbase ?_
  · intro j hj
    refine ⟨_, rfl, ?_⟩
    rw [Addr.add_mid, Nat.zero_add, cell_of_row _ _ _ _ _ _ hr, List.getElem?_toArray, List.getElem?_eq_getElem hj]
  · intro v' w' h1 h2 h3
    refine h v' w' ?_ h2 h3
    unfold OwnS
    rw [List.flatten_append, vals_append, List.length_append]
    simpa using h1

theorem cell_alloc_ne (w : World) (o : Obj) (a : Addr) (h : w.heap.size ≠ a.block) : (w.alloc o).cell? a = w.cell? a := by
  unfold World.cell?
  have : (w.alloc o).heap[a.block]? = w.heap[a.block]? := by
    show (w.heap.push o)[a.block]? = _
    rw [Array.getElem?_push, if_neg (fun e => h e.symm)]
  rw [this]

/-- what the walk keeps -/
structure RpI (w W : World) (s : List UInt8) (v : Value) (L : List (List UInt8)) : Prop where
  box : W.heap[w.heap.size]? = some (.cells (vals s).toArray 23 (0, 0))
  own : OwnS W (w.heap.size + 1) v L
  b : Below w.heap.size w W
/-- and within a share -/
structure RqI (w W : World) (s : List UInt8) (v : Value) (L : List (List UInt8)) (g : Nat) (P : List UInt8) : Prop where
  r : RpI w W s v L
  lt : w.heap.size < g
  ne : v.ownBlock ≠ some g
  fill : Fill W g 1 P

theorem RpI.start {w W : World} {s : List UInt8} {v : Value} {L : List (List UInt8)} (h : RpI w W s v L) (p : UInt8) :
    RqI w (W.alloc (.cells (vals (hd p)).toArray 34)) s v L W.heap.size [p] := by
  have hlt : w.heap.size < W.heap.size := lt_of_block h.box
  refine ⟨⟨(Below.heap_alloc W _ _ hlt).trans h.box, h.own.alloc _, h.b.alloc h.b.size _⟩, hlt, fun e => ?_, ⟨by have h := heap_at W (.cells (vals (hd p)).toArray 34) _ rfl; simpa [hd, zs] using h, by simp⟩⟩
  have := (World.ownsRow.lt h.own _ e).2
  omega
theorem RpI.grown {w W W' : World} {s l : List UInt8} {v v' : Value} {L : List (List UInt8)} {t : TypeId} {c : Array Value} (h : RpI w W s v L) (ho : OwnS W' (w.heap.size + 1) v' (L ++ [l])) (hg : (W.alloc (.cells c t)).grownBy W' v.ownBlock) : RpI w W' s v' (L ++ [l]) := by
  have hlt : w.heap.size < W.heap.size := lt_of_block h.box
  refine ⟨?_, ho, (h.b.alloc h.b.size _).grown hg (by simp only [World.size_alloc]; omega) (fun k hk => by have := (World.ownsRow.lt h.own k hk).1; omega)⟩
  rw [hg.block w.heap.size (by simp only [World.size_alloc]; omega) (fun e => by have := (World.ownsRow.lt h.own _ e.symm).1; omega)]
  exact (Below.heap_alloc W _ _ hlt).trans h.box
theorem RqI.alloc {w W : World} {s : List UInt8} {v : Value} {L : List (List UInt8)} {g : Nat} {P : List UInt8} (h : RqI w W s v L g P) (o : Obj) : RqI w (W.alloc o) s v L g P :=
  ⟨⟨(Below.heap_alloc W o _ (by have := h.fill.lt; have := h.lt; omega)).trans h.r.box, h.r.own.alloc o, h.r.b.alloc h.r.b.size o⟩, h.lt, h.ne, h.fill.alloc o⟩
theorem RqI.drewN {w W : World} {s : List UInt8} {v : Value} {L : List (List UInt8)} {g : Nat} {P : List UInt8} (h : RqI w W s v L g P) (k : Nat) : RqI w (W.drewN k) s v L g P :=
  ⟨⟨h.r.box, h.r.own.drewN k, below_drewN h.r.b k⟩, h.lt, h.ne, h.fill.drewN k⟩
theorem RqI.push {w W : World} {s : List UInt8} {v : Value} {L : List (List UInt8)} {g : Nat} {P : List UInt8} (h : RqI w W s v L g P) (hj : P.length < 1 * 33) (i : Nat) (hi : i = P.length) (a : UInt8) :
    RqI w (W.setCell ⟨g, i, none⟩ (.int .u8 (u a))) s v L g (P ++ [a]) :=
  ⟨⟨(Below.heap_setCell W _ _ _ (by have := h.lt; simp; omega)).trans h.r.box, h.r.own.setCell _ h.ne _, h.r.b.setCell (p := ⟨g, i, none⟩) (by have := h.lt; simp; omega) _⟩, h.lt, h.ne, h.fill.push hj i hi a⟩

set_option maxRecDepth 100000 in
set_option maxHeartbeats 1000000 in
theorem RSplit_c (s : List UInt8) (n : Nat) (no : ByteArray) (w : World) (hs : s.length = 32) (h3 : 3 ≤ n) (h255 : n ≤ 255) (hno : no.size = 64) :
    Calls Try.prog 13 #[.agg (vals s).toArray, .int .i64 n, .string no] w fun e w' => ∃ v, e = .returned (.tuple #[v, .int .i64 0]) ∧ OwnS w' (w.heap.size + 1) v (rows s (bs no) n) ∧ Below w.heap.size w w' := by
  have g1 : decide ((n : Int) < 3) = false := by simp; omega
  have g2 : decide ((255 : Int) < (n : Int)) = false := by simp; omega
  have g3 : ((no.size : Int) != 64) = false := ne_false' (by omega)
  have HS := Lib.hid hs
  have HN := Lib.hid hno
  clear hs hno
  go_enter Try.func13, Try.ntmps13
  go_wp2_with fail
  have h0 : RpI w (w.alloc (.cells (vals s).toArray 23)) s (.slice none 0 0) (rows s (bs no) 0) :=
    ⟨heap_at _ _ _ rfl, World.ownsRow_nil _ _ _ _, (Below.refl _ _).alloc (Nat.le_refl _) _⟩
  have H0 := Lib.hid h0
  clear h0
  go_loopw [8, 9] (fun vo vx W => ∃ (k : Nat) (x : Int), k ≤ n ∧ vx = .int .i64 x ∧ Hid (x = k + 1) ∧ RpI w W s vo (rows s (bs no) k)) (fun _ vx _ => n + 1 - (intOf vx).toNat)
  case atStart => exact ⟨0, _, Nat.zero_le _, rfl, rfl, H0.out⟩
  case round =>
    clear H0
    obtain ⟨k, x, hk, rfl, HX, hI⟩ := hrel
    by_cases hlt : k < n
    · have hx1 : decide (x ≤ (n : Int)) = true := by have := HX.out; simp; omega
      have hp : x % 256 = u (pt k) := by rw [u_pt k (by omega), HX.out]; omega
      have HP := Lib.hid hp
      have HI := Lib.hid (hI.start (pt k))
      clear hI hp
      go_wp2_with (first
        | refine wpList_share_build (by rfl) (.tmp 29) (by rfl) _ (by rfl) (pt k) HP.out ?_
        | refine wpList_alloc_run (by rfl) 34 (by rfl) _ (share_alloc _) ?_
        | refine wpList_share_store (by rfl) (.tmp 10) (.tmp 30) (by rfl) (hd (pt k)) (zs 33) (by rfl) (by rfl) (hd_length _) (zs_length _) ?_)
      have hx255 : (0 : Int) ≤ x ∧ x ≤ 255 := by have := HX.out; omega
      have HB := Lib.hid hx255
      clear hx255
      generalize wr.heap.size = g at *
      go_loopw [11] (fun vi W => ∃ i : Nat, i ≤ 32 ∧ vi = .int .i64 i ∧ RqI w W s u8 (rows s (bs no) k) g ((row s (bs no) k).take (i + 1))) (fun vi _ => 32 - (intOf vi).toNat)
      case atStart => exact ⟨0, by omega, rfl, by rw [row_take_one]; exact HI.out⟩
      case round =>
        clear HI
        obtain ⟨i, hi, rfl, hI⟩ := hrel
        have hP : ((row s (bs no) k).take (i + 1)).length = 1 + i := by rw [List.length_take, row_length]; omega
        by_cases hlt2 : i < 32
        · have hc := hI.fill.next (by rw [hP]; omega) (1 + i) (by rw [hP])
          have hf := hI.fill.frozen (1 + i)
          have hbx : ∀ j (hj : j < s.length), _ := fun j hj => cell_of_row _ w.heap.size j _ _ _ hI.r.box
          have hk1 := hbx i (by have := HS.out; omega)
          rw [List.getElem?_toArray, List.getElem?_eq_getElem (by rw [vals_length, HS.out]; exact hlt2), vals_get s i (by rw [HS.out]; exact hlt2)] at hk1
          have HI := Lib.hid hI
          have HPL := Lib.hid hP
          clear hI hP hbx
          have i0 : (0 : Int) ≤ (i : Int) := by omega
          have i4 : (i : Int) < 32 := by omega
          have x1 := str_index no (i : Int) i rfl (by have := HN.out; omega)
          have x2 := str_index no ((32 : Int) + (i : Int)) (32 + i) (by omega) (by have := HN.out; omega)
          have x3 : IntKind.i64.wrap ((32 : Int) + (i : Int)) = (32 : Int) + (i : Int) := IntWalk.i64_in _ (by omega)
          have hd : dat s (bs no) k i = Gf.eval [s[i]'(by have := HS.out; omega), (bs no).getD i 0, (bs no).getD (32 + i) 0] (pt k) := by
            unfold dat; rw [Gf.getD_eq (by have := HS.out; omega)]
          have hr := row_take_succ s (bs no) k i hlt2
          rw [hd] at hr
          have HR := Lib.hid hr
          clear hr hd
          generalize (bs no).getD i 0 = q1 at *
          generalize (bs no).getD (32 + i) 0 = q2 at *
          generalize s[i]'(by have := HS.out; omega) = q0 at *
          generalize hp : pt k = p at *
          clear hp
          have ne1 := World.new_ne _ _ hc
          have ne2 := World.new_ne _ _ hk1
          go_wp2_with fail
          have gl := HI.out.lt
          go_region_held3 (fun W => W.cell? ⟨w.heap.size, i, none⟩ = some (.int .u8 (u q0)) ∧ W.cell? ⟨g, 1 + i, none⟩ = some (held W ⟨g, 1 + i, none⟩) ∧ W.frozen? ⟨g, 1 + i, none⟩ = false)
            (first
              | exact ⟨hk1, held_of hc, hf⟩
              | exact ⟨(cell_alloc_ne _ _ _ ne2).trans hk1, held_of ((cell_alloc_ne _ _ _ ne1).trans hc), (frozen_alloc_ne _ _ _ ne1).trans hf⟩
              | exact ⟨(World.cell?_setCell_other _ _ _ _ (fun e => by injection e with e; omega)).trans ((cell_alloc_ne _ _ _ ne2).trans hk1), held_of (World.cell?_setCell_same' _ _ _ (by rw [(cell_alloc_ne _ _ _ ne1), hc]; rfl)), (World.frozen?_setCell _ _ _ _).trans ((frozen_alloc_ne _ _ _ ne1).trans hf)⟩)
            (first | (go_at_call 24; refine (REval_c _ _ _ _ [q0, q1, q2] p _ (by rfl) (by simp) (HP.out) (by exact Bytes.drew (bytes_of_block (t := 5) (fr := (0, 0)) [q0, q1, q2] (heap_at _ _ _ rfl)))).mono ?_; rintro e w' ⟨rfl, rfl⟩))
          all_goals
            clear x1 x2 x3 hk1 hc hf
            go_wp2
            go_roundw
            case rel => exact ⟨i + 1, by omega, by go_num, by rw [HR.out]; exact ((HI.out.alloc _).drewN _).push (by have := HPL.out; omega) _ (by have := HPL.out; omega) _⟩
            case measure => simp [intOf]; omega
        · have hi32 : i = 32 := by omega
          subst hi32
          rw [row_take_all] at hI
          have hblk : wr.heap[g]? = some (.cells (vals (row s (bs no) k)).toArray 34 (0, 0)) := by
            have h := hI.fill.blk
            rw [row_length] at h
            simpa using h
          have hrl := row_length s (bs no) k
          have hll := rows_length s (bs no) k
          have HRS := Lib.hid (rows_succ s (bs no) k)
          have HI := Lib.hid hI.r
          generalize rows s (bs no) k = L at *
          generalize row s (bs no) k = l at *
          have HBLK := Lib.hid hblk
          have HL := Lib.hid hrl
          have HLL := Lib.hid hll
          clear hI hP hblk hrl hll
          go_wp2_with (first
            | refine wpList_load_row (by rfl) 34 (.tmp 10) (by rfl) g (by rfl) 34 (vals l).toArray (0, 0) _ HBLK.out Try.underlying34 (by rfl) (by rw [List.size_toArray, vals_length, HL.out]; exact share_size) ?_
            | refine wpList_shares1 (by rfl) (.tmp 53) (by rfl) l (by rfl) HL.out ?_
            | (refine wpList_append_share _ (by rfl) (.tmp 52) (.tmp 54) (by rfl) (w.heap.size + 1) u8 L (by rfl) (HI.out.own.alloc _) wr.heap.size 1 l (by rfl) (heap_at _ _ _ rfl) HL.out (by have := HLL.out; omega) (by have := lt_of_block HI.out.box; simp only [World.size_alloc]; omega) ?_; intro v' W' hown' hg' hat'))
          have hrp : RpI w W' s v' (L ++ [l]) := HI.out.grown hown' hg'
          have HW : Hid (RpI w W' s v' (rows s (bs no) (k + 1))) := by rw [Hid, HRS.out]; exact hrp
          have HXX := Lib.hid HX.out
          clear hrp hown' hg' hat'
          have e1 : wrap64 (x + 1) = ((k + 1 : Nat) : Int) + 1 := by rw [HX.out]; unfold wrap64; omega
          refine ⟨⟨k + 1, _, by omega, rfl, e1, HW.out⟩, ?_⟩
          rw [e1, HX.out]
          simp [intOf]
          omega
    · have hx1 : decide (x ≤ (n : Int)) = false := by have := HX.out; simp; omega
      have hkn : k = n := by omega
      subst hkn
      have HI := Lib.hid hI
      clear hI
      go_wp2
      go_ret2
      exact ⟨_, rfl, HI.out.own, HI.out.b⟩

end Go.Proofs.Ytffmnldhklejcaa
