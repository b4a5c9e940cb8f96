/- Appends of parts: the old slice keeps its parts; heads and tails of slices of parts; three picks. -/
import Derived.Test.YtmnnhmbolbepcaaParBent
namespace Go.Proofs.Ytmnnhmbolbepcaa
open Go.RowKit
set_option linter.unusedSimpArgs false

section
variable {P : Program} (w : World)
/-- an append onto a slice of the call's own: the old slice's cells stay, in whatever way it grows -/
theorem run_append_keep (base : Nat) (t ty e : TypeId) (i : TypeInfo) (z : Value) (size bytes : Nat) (ht : P.underlying t = some (.slice e)) (hi : P.info? e = some i) (hz : i.zero = some z)
    (hsize : i.size = size) (hby : i.bytes = bytes) (hzs : z.cells.size = size) (hsz : 0 < size)
    (g n cap : Nat) (xs : List Value) (hown : w.ownsRow base e size (.slice (some ⟨g, 0, none⟩) n cap) n xs)
    (A : Option Addr) (m c : Nat) (news : List Value) (hr : Src w A news) (hm : news.length = m * size) (h1 : ∀ x ∈ news, x.oneCell' = true)
    (h63 : n + m ≤ maxLen) (hbytes : (n + m) * bytes ≤ 140737488355328) (hbase : base ≤ w.heap.size) :
    ∃ v' w', (Builtin.append_ #[t, t] ty #[.slice (some ⟨g, 0, none⟩) n cap, .slice A m c]).run P w = .ok v' w' ∧ w'.ownsRow base e size v' (n + m) (xs ++ news) ∧ w.grownBy w' (some g) ∧
      (∀ j u, xs[j]? = some u → w'.cell? ⟨g, j, none⟩ = some u) := by
  have hold : ∀ j u, xs[j]? = some u → w.cell? ⟨g, j, none⟩ = some u := fun j u h => by
    have := World.ownsRow.cells hown (g := g) rfl j u h
    rwa [add_zero_block] at this
  rcases A with _ | ad
  · have hn : news = [] := by
      rcases news with _ | ⟨x, news⟩
      · rfl
      · obtain ⟨ad, h, _⟩ := hr 0 (by simp)
        cases h
    subst hn
    have hm0 : m = 0 := by
      rcases Nat.mul_eq_zero.1 hm.symm with h | h <;> omega
    subst hm0
    exact ⟨_, w, run_append_nothing w base t ty e i size ht hi _ n xs hown c, by simpa using hown, World.grownBy.refl w _, hold⟩
  · have hcells : ∀ j x, news[j]? = some x → w.cell? (ad.add j) = some x := by
      intro j x hx
      obtain ⟨hj, rfl⟩ := List.getElem?_eq_some_iff.1 hx
      obtain ⟨ad', h, hc⟩ := hr j hj
      injection h with h
      subst h
      exact hc
    obtain ⟨v', w', hrun, h2, h3, _, _⟩ := run_append_own_at (P := P) w base t ty e i z size bytes ht hi hz hsize hby hzs hsz _ n xs hown ad m c news hm hcells h1 h63 hbytes hbase
    refine ⟨v', w', hrun, h2, h3, fun j u hj => ?_⟩
    by_cases hroom : n + m ≤ cap
    · rcases hown.2 with ⟨h, _⟩ | ⟨g', cap', cur, hv, hbg, hg, hnc, hcm, hcs, htake⟩
      · cases h
      injection hv with e1 e2 e3
      injection e1 with e1
      injection e1 with e1 _
      subst e1
      subst e3
      have hfit : n * i.size + news.length ≤ cur.size := by rw [hm, hcs, hsize, ← Nat.add_mul]; exact Nat.mul_le_mul_right _ hroom
      have hq := run_append_room (P := P) w t ty e i ht hi g n cap cur hg ad m c news (by rw [hsize]; exact hm) hcells h1 hroom hfit
      rw [hq] at hrun
      injection hrun with e4 e5
      subst e4
      have := World.ownsRow.cells h2 (g := g) rfl j u (by rw [List.getElem?_append_left (List.getElem?_eq_some_iff.1 hj).1]; exact hj)
      rwa [add_zero_block] at this
    · have holds : ∀ j u, xs[j]? = some u → w.cell? ((⟨g, 0, none⟩ : Addr).add j) = some u := hown.cells (g := g) rfl
      have hfit : Builtin.nextslicecap (n + m) cap * i.bytes ≤ 281474976710656 := growslice_fits (by omega) (by rw [hby]; exact hbytes)
      have hq := run_append_grow (P := P) w t ty e i z ht hi hz ⟨g, 0, none⟩ n cap xs (by rw [hsize]; exact hown.1) holds ad m c news (by rw [hsize]; exact hm) hcells (by omega) (by simp only [maxLen] at h63; omega) hfit
      rw [hq] at hrun
      injection hrun with e4 e5
      subst e5
      have hlt : g < w.heap.size := (World.ownsRow.lt hown g rfl).2
      have hc := hold j u hj
      rw [← hc]
      exact World.cell?_of_block (a := ⟨g, j, none⟩) (heap_alloc_old w.drew _ hlt)
end

theorem src_of_pts {W : World} {A : Option Addr} {L : List Pt} (h : Pts W A L) : Src W A (pcells L) := fun j hj => by
  have hn : L ≠ [] := fun e => by rw [e] at hj; simp [pcells] at hj
  obtain ⟨b, o, rfl, hc⟩ := h hn
  rw [pcells_length] at hj
  refine ⟨_, rfl, ?_⟩
  have hi : j / 2 < L.length := by omega
  obtain ⟨p1, p2⟩ := pcells_get L (j / 2) hi
  obtain ⟨c1, c2⟩ := hc (j / 2) hi
  have ea : (⟨b, o, none⟩ : Addr).add j = ⟨b, o + j, none⟩ := by unfold Addr.add; split <;> simp_all
  rw [ea]
  rcases Nat.mod_two_eq_zero_or_one j with e | e
  · have hj2 : j = j / 2 * 2 := by omega
    rw [← hj2] at p1 c1
    rw [c1, ← p1, List.getElem?_eq_getElem]
  · have hj2 : j = j / 2 * 2 + 1 := by omega
    rw [← hj2] at p2
    rw [Nat.add_assoc, ← hj2] at c2
    rw [c2, ← p2, List.getElem?_eq_getElem]

theorem Pts.grown {W W' : World} {A : Option Addr} {L : List Pt} {row : Option Nat} (h : Pts W A L) (hg : W.grownBy W' row) (hne : ∀ ad, A = some ad → some ad.block ≠ row) : Pts W' A L := fun hn => by
  obtain ⟨b, o, rfl, hc⟩ := h hn
  have hb : some b ≠ row := hne _ rfl
  exact ⟨b, o, rfl, fun i hi => ⟨hg.cell (hc i hi).1 hb, hg.cell (hc i hi).2 hb⟩⟩
theorem pts_take {W : World} {A : Option Addr} {L : List Pt} (h : Pts W A L) (k : Nat) : Pts W A (L.take k) := fun hn => by
  obtain ⟨b, o, rfl, hc⟩ := h (fun e => hn (by rw [e]; simp))
  refine ⟨b, o, rfl, fun i hi => ?_⟩
  rw [List.length_take] at hi
  rw [List.getElem_take]
  exact hc i (by omega)
theorem pts_drop {W : World} {b o : Nat} {L : List Pt} (h : Pts W (some ⟨b, o, none⟩) L) (k : Nat) : Pts W (some ⟨b, o + k * 2, none⟩) (L.drop k) := fun hn => by
  obtain ⟨b', o', e, hc⟩ := h (fun e => hn (by rw [e]; simp))
  injection e with e
  injection e with e1 e2
  subst e1; subst e2
  refine ⟨b, o + k * 2, rfl, fun i hi => ?_⟩
  rw [List.length_drop] at hi
  have := hc (k + i) (by omega)
  rw [List.getElem_drop]
  rw [show o + k * 2 + i * 2 = o + (k + i) * 2 from by omega]
  exact this

section
variable {o : Oper} {a : Act} {K : Act → World → Prop} {Q : Exit → Act → World → Prop}
/-- parts appended, at the operation -/
theorem wp_append_parts (w : World) (s x : Operand)
    (ho : o.op = .call { callee := .builtin .append, args := #[s, x], argTypes := #[24, 24] })
    (base : Nat) (v : Value) (L : List Pt) (hs : a.eval s = v) (hown : OwnP w base v L)
    (A : Option Addr) (m c : Nat) (news : List Pt) (hx : a.eval x = .slice A m c) (hm : m = news.length) (hr : Pts w A news)
    (hlen : L.length + news.length ≤ 100000) (hbase : base ≤ w.heap.size)
    (h : ∀ v' w', OwnP w' base v' (L ++ news) → w.grownBy w' v.ownBlock → (v'.ownBlock = v.ownBlock ∨ v'.ownBlock = some w.heap.size) → K (a.put o.dst v') w') : o.wp Try.prog a w K Q := by
  obtain ⟨i0, hi, hz0, hz1, hz2⟩ := info_parts part_info
  refine wp_append_src w s x _ ho base _ i0 _ 2 24 Try.underlying24 hi hz0 hz1 hz2 (by simp [Value.cells]) (by decide) v L.length (pcells L) hs hown A m c (pcells news) hx (src_of_pts hr) (by rw [pcells_length, hm]) (pcells_one _) (by unfold maxLen; omega) (by omega) hbase ?_
  intro v' w' h1 h2 h3
  refine h v' w' ?_ h2 h3
  unfold OwnP
  rw [pcells_append, List.length_append, ← hm]
  exact h1
variable {ops : Array Oper} {rest : List Oper}
/-- parts appended: the old slice has its parts as before -/
theorem wpList_append_keep (w : World) (hgd : o.guard = none) (s x : Operand)
    (ho : o.op = .call { callee := .builtin .append, args := #[s, x], argTypes := #[24, 24] })
    (base g n cap : Nat) (L : List Pt) (hs : a.eval s = .slice (some ⟨g, 0, none⟩) n cap) (hn : n = L.length) (hown : OwnP w base (.slice (some ⟨g, 0, none⟩) n cap) L)
    (A : Option Addr) (m c : Nat) (news : List Pt) (hx : a.eval x = .slice A m c) (hm : m = news.length) (hr : Pts w A news)
    (hlen : L.length + news.length ≤ 100000) (hbase : base ≤ w.heap.size)
    (h : ∀ v' w', OwnP w' base v' (L ++ news) → w.grownBy w' (some g) → Pts w' (some ⟨g, 0, none⟩) L → wpList Try.prog ops Q rest (a.put o.dst v') w') : wpList Try.prog ops Q (o :: rest) a w :=
  wpList_plain hgd fun _ hK => by
    obtain ⟨i0, hi, hz0, hz1, hz2⟩ := info_parts part_info
    subst hn
    obtain ⟨v', w', hrun, h1, h2, h3⟩ := run_append_keep (P := Try.prog) w base _ o.type _ i0 _ 2 24 Try.underlying24 hi hz0 hz1 hz2 (by simp [Value.cells]) (by decide) g L.length cap (pcells L) hown A m c (pcells news) (src_of_pts hr) (by rw [pcells_length, hm]) (pcells_one _) (by unfold maxLen; omega) (by omega) hbase
    unfold Oper.wp execOp
    simp only [ho, resolve, invoke, builtin, Sem.run_bind, Sem.run_pure, Result.andThen_ok, List.map_toArray, List.map_cons, List.map_nil, hs, hx, hrun]
    refine hK _ _ (h v' w' ?_ h2 fun _ => ⟨g, 0, rfl, fun j hj => ?_⟩)
    · unfold OwnP
      rw [pcells_append, List.length_append, ← hm]
      exact h1
    · rw [Nat.zero_add]
      exact ⟨h3 _ _ (pcells_get L j hj).1, h3 _ _ (pcells_get L j hj).2⟩
end

/-- one pick -/
theorem perm_round (acc rem : List Nat) (k : Nat) (hk : k < rem.length) : ((acc ++ [rem[k]]) ++ (rem.take k ++ rem.drop (k + 1))).Perm (acc ++ rem) := by
  rw [List.append_assoc]
  refine List.Perm.append_left acc ?_
  have e : rem = rem.take k ++ rem[k] :: rem.drop (k + 1) := by rw [← List.drop_eq_getElem_cons hk, List.take_append_drop]
  have h2 : ([rem[k]] ++ (rem.take k ++ rem.drop (k + 1))).Perm (rem.take k ++ rem[k] :: rem.drop (k + 1)) := by
    rw [List.singleton_append]
    exact List.perm_middle.symm
  rw [← e] at h2
  exact h2
/-- three picks of five -/
theorem three_picked (acc rem : List Nat) (ha : acc.length = 3) (hp : (acc ++ rem).Perm [0, 1, 2, 3, 4]) : ∃ x y z, acc = [x, y, z] ∧ x < 5 ∧ y < 5 ∧ z < 5 ∧ x ≠ y ∧ x ≠ z ∧ y ≠ z := by
  match acc, ha with
  | [x, y, z], _ =>
    have hn : ([x, y, z] ++ rem).Nodup := hp.nodup_iff.2 (by decide)
    have hl : ∀ q ∈ [x, y, z] ++ rem, q < 5 := fun q hq => by
      have := hp.mem_iff.1 hq
      simp at this
      omega
    simp at hn
    exact ⟨x, y, z, rfl, hl x (by simp), hl y (by simp), hl z (by simp), hn.1.1, hn.1.2.1, hn.2.1.1⟩

theorem two_short (S : ByteArray) (hS : S.size ≤ 65536) (x y : Nat) (hx : x < 5) (hy : y < 5) (hxy : x ≠ y) : joinV [Pc (bs S) x, Pc (bs S) y] (S.size : Int) = (ByteArray.empty, 4) := by
  have hl : (bs S).length = S.size := bs_length S
  have hsz : ∀ i, (Pc (bs S) i).2.size = rowsN S.size := fun i => by show (strP (bs S) i).size = _; rw [strP_size, hl]
  refine joinV_err (acc := [Pc (bs S) x, Pc (bs S) y]) (by omega) ?_ (by decide)
  rw [Int.toNat_natCast]
  exact pick_two (rowsN S.size) _ _ ⟨by show 1 ≤ (x : Int) + 1; omega, by show (x : Int) + 1 ≤ 5; omega⟩ ⟨by show 1 ≤ (y : Int) + 1; omega, by show (y : Int) + 1 ≤ 5; omega⟩ (by show (x : Int) + 1 ≠ (y : Int) + 1; omega) (hsz x) (hsz y)

/-- the parts of a text in order -/
theorem cut_map (s : List UInt8) : cutP s 5 = [0, 1, 2, 3, 4].map (Pc s) := by
  refine List.ext_getElem (by rw [cutP_length]; rfl) fun i h1 h2 => ?_
  rw [cutP_length] at h1
  rw [cutP_get s 5 i h1, List.getElem_map]
  have e : ([0, 1, 2, 3, 4] : List Nat)[i]'(by simpa using h2) = i := by
    match i, h1 with
    | 0, _ => rfl
    | 1, _ => rfl
    | 2, _ => rfl
    | 3, _ => rfl
    | 4, _ => rfl
  rw [e]
  rfl

end Go.Proofs.Ytmnnhmbolbepcaa
