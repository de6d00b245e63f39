/-
  Rows of a call's own that are cut, and written into.
-/
import Derived.Test.YtjdmpockaflcnaaGreatDoorOwn
import Derived.Laws.CopyRow
import Derived.Laws.Slices
namespace Go.Proofs.An
open Go.RowKit
section
variable {α : Type} [i : Enc1 α] {E : TypeId} {B : Nat} {M : Nat → Prop} {w : World} {xs : List α}

theorem cut_take (cells : List Value) (n k m : Nat) (h : k < m) : cut (cells.take (m * n)) n k = cut cells n k := by
  unfold cut
  have : (k + 1) * n ≤ m * n := Nat.mul_le_mul_right n h
  rw [Nat.add_mul, Nat.one_mul] at this
  rw [List.drop_take, List.take_take, Nat.min_eq_left (by omega)]

theorem nth_take (xs : List α) (k m : Nat) (h : k < m) : nth (xs.take m) k = nth xs k := by
  simp [nth, List.getD, List.getElem?_take, h]
theorem nth_set (xs : List α) (k q : Nat) (y : α) (h : k < xs.length) : nth (xs.set k y) q = if q = k then y else nth xs q := by
  unfold nth
  rw [List.getD_eq_getElem?_getD, List.getD_eq_getElem?_getD, List.getElem?_set]
  by_cases e : q = k
  · subst e; simp [h]
  · rw [if_neg (fun x => e x.symm), if_neg e]

theorem Own.take {A : Option Addr} {n c : Nat} (h : Own E B M w (.slice A n c) xs) (m : Nat) (hm : m ≤ n) : Own E B M w (.slice A m c) (xs.take m) := by
  obtain ⟨A', c', he⟩ := h.shape
  injection he with _ hn _
  subst hn
  have hl : (xs.take m).length = m := by rw [List.length_take]; omega
  obtain ⟨cells, hr, hc⟩ := h.row
  refine ⟨fun b hb => h.mine b (by cases A <;> simp_all [Value.ownBlock]), cells.take (m * Enc.n α), ⟨?_, ?_⟩, fun k hk => ?_⟩
  · rw [hl, List.length_take, hr.1, Nat.min_eq_left (Nat.mul_le_mul_right _ hm)]
  · rw [hl]
    rcases hr.2 with ⟨he, h0⟩ | ⟨g, cap, cur, he, hb, hh, hn, hcm, hcs, ht⟩
    · injection he with e1 e2 e3
      subst e1 e3
      exact .inl ⟨by rw [show m = 0 by omega], by omega⟩
    · injection he with e1 e2 e3
      subst e1 e3
      refine .inr ⟨g, c, cur, rfl, hb, hh, by omega, hcm, hcs, ?_⟩
      rw [← ht, List.take_take, Nat.min_eq_left (Nat.mul_le_mul_right _ hm)]
  · rw [hl] at hk
    rw [cut_take _ _ _ _ hk, nth_take _ _ _ hk]
    exact hc k (by omega)

theorem Own.one {v : Value} (h : Own E B M w v xs) (h0 : 0 < xs.length) : ∃ g c, v = .slice (some ⟨g, 0, none⟩) xs.length c ∧ xs.length ≤ c := by
  obtain ⟨cells, hr, _⟩ := h.row
  rcases hr.2 with ⟨_, h1⟩ | ⟨g, cap, cur, he, hb, hh, hn, hcm, hcs, ht⟩
  · omega
  · exact ⟨g, cap, he, hn⟩

theorem slice_head {P : Program} (t e : TypeId) (s : Nat) (ht : P.underlying t = some (.slice e)) (hi : (P.info? e).map (·.size) = some s) (A : Option Addr) (n c : Nat) (j : Int) (h0 : 0 ≤ j) (hm : j ≤ n) (hc : n ≤ c) :
    ∀ W : World, (Instr.slice t (.slice A n c) none (some (.int .i64 j)) none).run P W = .ok (.slice A j.toNat c) W := by
  intro W
  obtain ⟨inf, hinf, hs⟩ := Option.map_eq_some_iff.1 hi
  have hel : P.elem t = e := by simp [Program.elem, ht]
  have hu : P.underlying t = some (.slice (P.elem t)) := by rw [hel]; exact ht
  have ha : (A.map fun x => x.add 0) = A := by cases A <;> simp [Addr.add]
  rw [run_slice_h W t A n c hu .i64 j h0 (by omega), hel]
  simp [sizeOf, typeInfo, hinf, sliced, Result.andThen, ha]

theorem get_put (cells seg : List Value) (o : Nat) (h : o + seg.length ≤ cells.length) (r : Nat) : (cells.take o ++ seg ++ cells.drop (o + seg.length))[r]? = if r < o then cells[r]? else if r < o + seg.length then seg[r - o]? else cells[r]? := by
  by_cases h1 : r < o
  · rw [if_pos h1, List.append_assoc, List.getElem?_append_left (by rw [List.length_take]; omega), List.getElem?_take, if_pos h1]
  · rw [if_neg h1]
    by_cases h2 : r < o + seg.length
    · rw [if_pos h2, List.getElem?_append_left (by rw [List.length_append, List.length_take]; omega), List.getElem?_append_right (by rw [List.length_take]; omega), List.length_take, Nat.min_eq_left (by omega)]
    · rw [if_neg h2, List.getElem?_append_right (by rw [List.length_append, List.length_take]; omega), List.getElem?_drop, List.length_append, List.length_take]
      congr 1; omega
theorem cut_put (cells seg : List Value) (n k j q : Nat) (hk : (k + 1) * n ≤ cells.length) (hj : j + seg.length ≤ n) :
    cut (cells.take (k * n + j) ++ seg ++ cells.drop (k * n + j + seg.length)) n q = if q = k then (cut cells n k).take j ++ seg ++ (cut cells n k).drop (j + seg.length) else cut cells n q := by
  have e1 : (k + 1) * n = k * n + n := by rw [Nat.add_mul, Nat.one_mul]
  refine List.ext_getElem? fun p => ?_
  have key := get_put cells seg (k * n + j) (by omega)
  unfold cut
  rw [List.getElem?_take]
  by_cases hp : p < n
  · rw [if_pos hp, List.getElem?_drop, key]
    by_cases hq : q = k
    · subst hq
      rw [if_pos rfl]
      by_cases h1 : p < j
      · rw [if_pos (by omega), List.append_assoc, List.getElem?_append_left (by simp only [List.length_take, List.length_drop]; omega), List.getElem?_take, if_pos h1, List.getElem?_take, if_pos hp, List.getElem?_drop]
      · rw [if_neg (by omega)]
        by_cases h2 : p < j + seg.length
        · rw [if_pos (by omega), List.getElem?_append_left (by simp only [List.length_append, List.length_take, List.length_drop]; omega), List.getElem?_append_right (by simp only [List.length_take, List.length_drop]; omega)]
          congr 1
          simp only [List.length_take, List.length_drop]; omega
        · rw [if_neg (by omega), List.getElem?_append_right (by simp only [List.length_append, List.length_take, List.length_drop]; omega), List.getElem?_drop, List.getElem?_take, if_pos (by simp only [List.length_append, List.length_take, List.length_drop]; omega), List.getElem?_drop]
          congr 1
          simp only [List.length_append, List.length_take, List.length_drop]; omega
    · rw [if_neg hq, List.getElem?_take, if_pos hp, List.getElem?_drop]
      rcases Nat.lt_or_gt_of_ne hq with hlt | hgt
      · have : (q + 1) * n ≤ k * n := Nat.mul_le_mul_right n hlt
        rw [Nat.add_mul, Nat.one_mul] at this
        rw [if_pos (by omega)]
      · have : (k + 1) * n ≤ q * n := Nat.mul_le_mul_right n hgt
        rw [if_neg (by omega), if_neg (by omega)]
  · rw [if_neg hp]
    split
    · rw [List.getElem?_eq_none]
      simp only [List.length_append, List.length_take, List.length_drop]; omega
    · rw [List.getElem?_eq_none]
      simp only [List.length_take, List.length_drop]; omega

/-- A gate ahead of an arm at a store. -/
theorem gate_ {P : Program} {ops : Array Oper} {rest : List Oper} {o : Oper} {a : Act} {Q : Exit → Act → World → Prop} {W : World} (op : Op) (_ho : o.op = op) (h : wpList P ops Q (o :: rest) a W) : wpList P ops Q (o :: rest) a W := h
theorem wrap_small (z : Int) (h1 : -9223372036854775808 ≤ z) (h2 : z ≤ 9223372036854775807) : IntKind.i64.wrap z = z := by
  simp [IntKind.wrap, IntKind.bits, IntKind.signed]; omega
/-- s[k].f = u, s[k] = u: cells from j on of an element. -/
theorem Own.set {P : Program} {v : Value} (h : Own E B M w v xs) (k j : Nat) (hk : k < xs.length) (t : TypeId) (u : Value) (seg : List Value) (hu : u.cells.toList = seg) (ht : (P.info? t).map (·.size) = some seg.length)
    (h1 : ∀ q ∈ seg, q.oneCell' = true) (hj : j + seg.length ≤ Enc.n α) (y : α) (hr : ∀ c, Enc.rep M w c (nth xs k) → Enc.rep M w (c.take j ++ seg ++ c.drop (j + seg.length)) y) (p : Addr) (hp : p = (eaddr v (Enc.n α) k).add j) :
    ∃ w1, (Instr.storeAt t (.pointer (some p)) u).run P w = .ok () w1 ∧ Own E B M w1 v (xs.set k y) ∧ Ext (fun b => v.ownBlock = some b) w w1 := by
  obtain ⟨cells, hrow, hc⟩ := h.row
  rcases hrow.2 with ⟨_, h0⟩ | ⟨g, cap, cur, rfl, hb, hh, hn, hcm, hcs, htk⟩
  · omega
  have hpe : p = ⟨g, k * Enc.n α + j, none⟩ := by
    rw [hp]; show ((⟨g, 0, none⟩ : Addr).add (k * Enc.n α)).add j = _
    rw [add_add]; unfold Addr.add; split <;> simp_all
  subst hpe
  clear hp
  have hkn : (k + 1) * Enc.n α ≤ xs.length * Enc.n α := Nat.mul_le_mul_right _ hk
  have hkc : xs.length * Enc.n α ≤ cap * Enc.n α := Nat.mul_le_mul_right _ hn
  have e1 : (k + 1) * Enc.n α = k * Enc.n α + Enc.n α := by rw [Nat.add_mul, Nat.one_mul]
  have hlt : g < w.heap.size := (Array.getElem?_eq_some_iff.1 hh).1
  obtain ⟨inf, hi, hsz⟩ := Option.map_eq_some_iff.1 ht
  have huc : u.cells.size = inf.size := by rw [hsz, ← hu, Array.length_toList]
  have hst := run_storeCells_at (P := P) g (k * Enc.n α + j) E seg 0 cur w hh (by omega) h1
  simp only [Nat.add_zero] at hst
  have hE : Ext (fun b => (Value.slice (some ⟨g, 0, none⟩) xs.length cap).ownBlock = some b) w (w.setRow g (cur.toList.take (k * Enc.n α + j) ++ seg ++ cur.toList.drop (k * Enc.n α + j + seg.length)).toArray) :=
    ⟨rfl, rfl, rfl, by simp, fun b hb hn => setRow_other w g b _ (fun e => hn (by subst e; rfl))⟩
  refine ⟨_, by simp [Instr.storeAt, Instr.sureAddr, storeVar, sizeOf, typeInfo, hi, huc, hu, hst], ⟨fun b hb => h.mine b hb, cells.take (k * Enc.n α + j) ++ seg ++ cells.drop (k * Enc.n α + j + seg.length), ⟨?_, .inr ⟨g, cap, _, by rw [List.length_set], hb, setRow_heap w g cur _ E (0, 0) hh, by rw [List.length_set]; exact hn, hcm, ?_, ?_⟩⟩, fun q hq => ?_⟩, hE⟩
  · have := hrow.1
    simp only [List.length_append, List.length_take, List.length_drop, List.length_set]; omega
  · simp only [List.size_toArray, List.length_append, List.length_take, List.length_drop, Array.length_toList]; omega
  · have hl := hrow.1
    have hcl : cur.toList.length = cap * Enc.n α := by rw [Array.length_toList]; exact hcs
    rw [List.length_set]
    simp only []
    refine List.ext_getElem? fun r => ?_
    rw [List.getElem?_take]
    have hg : ∀ r, r < xs.length * Enc.n α → cells[r]? = cur.toList[r]? := fun r hr => by rw [← htk, List.getElem?_take, if_pos hr]
    by_cases hr' : r < xs.length * Enc.n α
    · rw [if_pos hr', get_put _ _ _ (by omega), get_put _ _ _ (by omega), hg r hr']
    · rw [if_neg hr', List.getElem?_eq_none]
      simp only [List.length_append, List.length_take, List.length_drop]; omega
  · rw [List.length_set] at hq
    rw [cut_put _ _ _ _ _ _ (by rw [hrow.1]; exact hkn) hj, nth_set _ _ _ _ hk]
    have hK : ∀ b, b < w.heap.size → ¬ M b → ¬ M b ∧ (w.setRow g (cur.toList.take (k * Enc.n α + j) ++ seg ++ cur.toList.drop (k * Enc.n α + j + seg.length)).toArray).heap[b]? = w.heap[b]? :=
      fun b hb hm => ⟨hm, hE.block b hb fun e => hm (h.mine b e)⟩
    split
    · exact Enc.rep_ext hK (hr _ (hc k hk))
    · exact Enc.rep_ext hK (hc q hq)

theorem wpl_set {P : Program} {ops : Array Oper} {rest : List Oper} {o : Oper} {a : Act} {Q : Exit → Act → World → Prop} {v : Value} (k j : Nat) (t : TypeId) (x y0 : Operand) (ho : o.op = .store t x y0) (hgd : o.guard = none) (hN : o.dst = none)
    (p : Addr) (u : Value) (hx : a.eval x = .pointer (some p)) (hy : a.eval y0 = u) (h : Own E B M w v xs) (hk : k < xs.length) (seg : List Value) (hu : u.cells.toList = seg) (ht : (P.info? t).map (·.size) = some seg.length)
    (h1 : ∀ q ∈ seg, q.oneCell' = true) (hj : j + seg.length ≤ Enc.n α) (y : α) (hr : ∀ c, Enc.rep M w c (nth xs k) → Enc.rep M w (c.take j ++ seg ++ c.drop (j + seg.length)) y) (hp : p = (eaddr v (Enc.n α) k).add j)
    (hh : ∀ w1, Own E B M w1 v (xs.set k y) → Ext (fun b => v.ownBlock = some b) w w1 → wpList P ops Q rest a w1) : wpList P ops Q (o :: rest) a w := by
  obtain ⟨w1, hrun, hO, hE⟩ := h.set k j hk t u seg hu ht h1 hj y hr p hp
  refine wpList_plain hgd fun K hK => ?_
  have hput : ∀ z, a.put o.dst z = a := fun z => by rw [hN]; rfl
  have hK' := hK a w1 (hh w1 hO hE)
  unfold Oper.wp
  simp [ho, execOp, hx, hy, hrun, Result.andThen]
  show K (a.put o.dst _) w1
  rw [hput]
  exact hK'
end
/-- append(s, y): a row of the call's own, elements that stand for themselves. -/
theorem wpl_push1 {α : Type} [i : Flat α] {P : Program} {ops : Array Oper} {rest : List Oper} {o : Oper} {a : Act} {Q : Exit → Act → World → Prop} {w1 : World}
    (s x : Operand) (t e : TypeId) (ho : o.op = .call { callee := .builtin .append, args := #[s, x], argTypes := #[t, t] }) (hgd : o.guard = none)
    (z : Value) (bytes : Nat) (ht : P.underlying t = some (.slice e)) (hinfo : (P.info? e).map (fun j => (j.zero, j.size, j.bytes)) = some (some z, Enc.n α, bytes)) (hz : z.cells.size = Enc.n α)
    (B g : Nat) (v : Value) (xs : List α) (cs : List Value) (y : α) (hv : a.eval s = v) (hg : g = w1.heap.size) (hu : a.eval x = .slice (some ⟨g, 0, none⟩) 1 1) (hO : Own e B (fun b => v.ownBlock = some b) w1 v xs)
    (hr : Enc.rep No w1 cs y) (hB : B ≤ w1.heap.size) (hone : ∀ cs (y : α), Enc.rep No w1 cs y → ∀ c ∈ cs, c.oneCell' = true) (hb0 : 0 < bytes) (hbytes : (xs.length + 1) * bytes ≤ 140737488355328)
    (h : ∀ v1 w2, Own e B (fun b => v1.ownBlock = some b) w2 v1 (xs ++ [y]) → Ext (fun b => v.ownBlock = some b) w1 w2 → (∀ b, v1.ownBlock = some b → v.ownBlock = some b ∨ w1.heap.size ≤ b) → wpList P ops Q rest (a.put o.dst v1) w2) :
    wpList P ops Q (o :: rest) a (w1.alloc (.cells cs.toArray e)) := by
  subst hg
  have hE := Ext.alloc (Ext.refl No w1) (.cells cs.toArray e)
  refine wpl_append (M := fun b => v.ownBlock = some b) s x t e ho hgd z bytes ht hinfo hz B v _ xs [y] hv hu (hO.ext hE) (Sl.lit1' (i.flat hr) e _ rfl (fun b hb => (hO.above b hb).2)) (Nat.le_trans hB hE.size) (fun cs y hr => hone cs y (i.flat hr)) hb0 (by simpa using hbytes) ?_
  rintro v1 w2 ⟨M1, hO1, -, -, -, hx2, hb2⟩
  have hb3 : ∀ b, v1.ownBlock = some b → v.ownBlock = some b ∨ w1.heap.size ≤ b := fun b hb => (hb2 b hb).imp id fun h => Nat.le_trans hE.size h
  refine h v1 w2 (hO1.flat fun b hb => ⟨hb, ?_, rfl⟩) (hE.any.trans hx2) hb3
  rcases hb3 b hb with h | h
  · exact (hO.above b h).1
  · exact Nat.le_trans hB h
/-- append(s, y): a row of the call's own, elements that stand for themselves. -/
theorem wpl_push {α : Type} [i : Flat α] {P : Program} {ops : Array Oper} {rest : List Oper} {o : Oper} {a : Act} {Q : Exit → Act → World → Prop} {w1 : World}
    (s x : Operand) (t e : TypeId) (ho : o.op = .call { callee := .builtin .append, args := #[s, x], argTypes := #[t, t] }) (hgd : o.guard = none)
    (z : Value) (bytes : Nat) (ht : P.underlying t = some (.slice e)) (hinfo : (P.info? e).map (fun j => (j.zero, j.size, j.bytes)) = some (some z, Enc.n α, bytes)) (hz : z.cells.size = Enc.n α)
    (B g : Nat) (v : Value) (xs : List α) (cs : List Value) (y : α) (hv : a.eval s = v) (hg : g = w1.heap.size) (hu : a.eval x = .slice (some ⟨g, 0, none⟩) 1 1) (hO : Own e B (fun b => v.ownBlock = some b) w1 v xs)
    (hr : Enc.rep No w1 cs y) (hB : B ≤ w1.heap.size) (hone : ∀ cs (y : α), Enc.rep No w1 cs y → ∀ c ∈ cs, c.oneCell' = true) (hb0 : 0 < bytes) (hbytes : (xs.length + 1) * bytes ≤ 140737488355328)
    (h : ∀ v1 w2, Own e B (fun b => v1.ownBlock = some b) w2 v1 (xs ++ [y]) → Ext (fun b => B ≤ b) w1 w2 → wpList P ops Q rest (a.put o.dst v1) w2) :
    wpList P ops Q (o :: rest) a (w1.alloc (.cells cs.toArray e)) := by
  subst hg
  have hE := Ext.alloc (Ext.refl No w1) (.cells cs.toArray e)
  refine wpl_append (M := fun b => v.ownBlock = some b) s x t e ho hgd z bytes ht hinfo hz B v _ xs [y] hv hu (hO.ext hE) (Sl.lit1' (i.flat hr) e _ rfl (fun b hb => (hO.above b hb).2)) (Nat.le_trans hB hE.size) (fun cs y hr => hone cs y (i.flat hr)) hb0 (by simpa using hbytes) ?_
  rintro v1 w2 ⟨M1, hO1, -, -, -, hx2, hb2⟩
  refine h v1 w2 (hO1.flat fun b hb => ⟨hb, ?_, rfl⟩) (hE.any.then (hx2.mono (N' := fun b => B ≤ b) fun b _ e => (hO.above b e).1) fun b _ e => e)
  rcases hb2 b hb with h | h
  · exact (hO.above b h).1
  · exact Nat.le_trans hB (Nat.le_trans hE.size h)
/-- A whole struct in a block of its own is written. -/
theorem wpl_whole {P : Program} {ops : Array Oper} {rest : List Oper} {o : Oper} {a : Act} {Q : Exit → Act → World → Prop} {w : World} (t : TypeId) (x y0 : Operand) (ho : o.op = .store t x y0) (hgd : o.guard = none) (hN : o.dst = none)
    (b : Nat) (E : TypeId) (old cs : Array Value) (hx : a.eval x = .pointer (some ⟨b, 0, none⟩)) (hy : a.eval y0 = .agg cs) (hh : w.heap[b]? = some (.cells old E (0, 0))) (hi : (P.info? t).map (·.size) = some cs.size) (hsz : old.size = cs.size)
    (h1 : ∀ v ∈ cs.toList, v.oneCell' = true) (h : ∀ w1, w1.heap[b]? = some (.cells cs E (0, 0)) → Ext (fun k => k = b) w w1 → wpList P ops Q rest a w1) : wpList P ops Q (o :: rest) a w := by
  obtain ⟨inf, hin, hs⟩ := Option.map_eq_some_iff.1 hi
  have hst := run_storeCells_at (P := P) b 0 E cs.toList 0 old w hh (by simp; omega) h1
  have e : (old.toList.take (0 + 0) ++ cs.toList ++ old.toList.drop (0 + 0 + cs.toList.length)).toArray = cs := by
    rw [List.drop_eq_nil_of_le (by simp; omega)]; simp
  rw [e] at hst
  have hrun : (Instr.storeAt t (.pointer (some ⟨b, 0, none⟩)) (.agg cs)).run P w = .ok () (w.setRow b cs) := by
    simp [Instr.storeAt, Instr.sureAddr, storeVar, sizeOf, typeInfo, hin, Value.cells, hs, hst]
  refine wpList_plain hgd fun K hK => ?_
  have hput : ∀ z, a.put o.dst z = a := fun z => by rw [hN]; rfl
  have hK' := hK a _ (h (w.setRow b cs) (setRow_heap w b old cs E (0, 0) hh) ⟨rfl, rfl, rfl, by simp, fun k hk hn => setRow_other w b k _ hn⟩)
  unfold Oper.wp
  simp [ho, execOp, hx, hy, hrun, Result.andThen]
  show K (a.put o.dst _) _
  rw [hput]
  exact hK'
theorem Own.mine_ext {α : Type} [i : Flat α] {E : TypeId} {B : Nat} {w w1 : World} {v : Value} {xs : List α} (h : Own E B (fun b => v.ownBlock = some b) w v xs) (hE : Ext No w w1) : Own E B (fun b => v.ownBlock = some b) w1 v xs := h.ext hE
theorem Own.slFlat {α : Type} [i : Flat α] {E : TypeId} {B : Nat} {M M' : Nat → Prop} {w : World} {v : Value} {xs : List α} (h : Own E B M w v xs) (hf : ∀ b, v.ownBlock = some b → ¬ M' b) : Sl M' w v xs :=
  (h.flat (B' := B) (M' := fun b => v.ownBlock = some b ∨ M' b) (w' := w) fun b hb => ⟨.inl hb, (h.above b hb).1, rfl⟩).sl hf fun _ _ x => .inr x
theorem Ext.high {B : Nat} {w w1 w2 : World} (h : Ext No w w1) (k : Ext (fun b => B ≤ b) w1 w2) (hB : w.heap.size ≤ B) : Ext No w w2 :=
  h.then k fun b hb e => by omega
theorem Ext.lowStay {B : Nat} {w w1 : World} {a : Addr} {v : Value} (h : Ext (fun b => B ≤ b) w w1) (hb : a.block < B) (hc : w.cell? a = some v) : w1.cell? a = some v :=
  h.cell (by omega) hc
end Go.Proofs.An
