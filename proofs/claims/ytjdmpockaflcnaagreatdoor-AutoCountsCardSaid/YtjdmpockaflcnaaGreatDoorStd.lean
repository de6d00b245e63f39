/-
  The library's functions as they are met here, in this library's words: Sort, Compact, Clone, Contains at ints; HasPrefix, IndexByte.
-/
import Derived.Test.YtjdmpockaflcnaaGreatDoorShelf
import Derived.Test.YtjdmpockaflcnaaGreatDoorInts
import Derived.Sort.OwnSortedInts
namespace Go.Proofs.An
open Go.RowKit

theorem owns_ints {E B M w v} {xs : List Int} (h : Own E B M w v xs) : w.ownsRow B E 1 v xs.length (ints xs) := by
  obtain ⟨cells, hr, hc⟩ := h.row
  have := ints_rep (by simpa [Enc.n] using hr.1) hc
  subst this
  exact hr
theorem own_ints {E B M w v} {xs : List Int} (h : w.ownsRow B E 1 v xs.length (ints xs)) (hm : ∀ b, v.ownBlock = some b → M b) : Own E B M w v xs :=
  ⟨hm, ints xs, h, fun k hk => by show cut (ints xs) 1 k = _; simp [cut, An.ints, nth, List.drop_eq_getElem_cons, hk]⟩

theorem sort_ints {E B M w v} {xs : List Int} (h : Own E B M w v xs) (hv : v ≠ .slice none 0 0) (hl : xs.length ≤ 1000000) :
    Calls Tryz.prog 75 #[v] w fun e w' => e = .returned (.tuple #[]) ∧ Own E B M w' v (xs.mergeSort fun x y => decide (x ≤ y)) ∧ Ext (fun b => v.ownBlock = some b) w w' := by
  have hr := owns_ints h
  rcases hr.2 with ⟨h1, _⟩ | ⟨g, cap, cur, rfl, hb, hg, h1, h2, h3, h4⟩
  · exact absurd h1 hv
  · refine (Tryz.slices_Sort_int g 0 cap xs w (holds_of_blockI hg (by simpa [An.ints] using h4)) (Array.getElem?_eq_some_iff.1 hg).1 (by omega)).mono ?_
    rintro e w' ⟨rfl, n, os, rfl⟩
    have hlen : (xs.mergeSort fun x y => decide (x ≤ y)).length = xs.length := by simp
    have hrow := ownsRow_sortedI (os := os) (n := n) hlen hb hg h1 h2 h3
    refine ⟨rfl, own_ints ?_ h.mine, ?_⟩
    · rw [hlen]; exact hrow
    · exact (Ext.of_grown (grownBy_sortedI (n := n) (os := os) (xs.mergeSort fun x y => decide (x ≤ y)).toArray)).mono fun b _ hx => by simpa [Value.ownBlock] using hx

theorem compact_length_le (xs : List Int) : (Lib.compact xs).length ≤ xs.length := by
  unfold Lib.compact Lib.compactUpTo
  rw [List.length_map]
  exact Nat.le_trans (List.length_filter_le _ _) (by simp)
theorem compact_ints {E B M w v} {xs : List Int} (h : Own E B M w v xs) (hl : xs.length ≤ 1000000) :
    Calls Tryz.prog 76 #[v] w fun e w' => ∃ v', e = .returned v' ∧ v'.ownBlock = v.ownBlock ∧ Own E B M w' v' (Lib.compact xs) ∧ Ext (fun b => v.ownBlock = some b) w w' := by
  have hr := owns_ints h
  rcases hr.2 with ⟨rfl, h0⟩ | ⟨g, cap, cur, rfl, hb, hg, h1, h2, h3, h4⟩
  · have hx : xs = [] := List.eq_nil_of_length_eq_zero h0
    subst hx
    refine (Tryz.slices_Compact_int_empty none 0 w).mono ?_
    rintro e w' ⟨rfl, rfl⟩
    exact ⟨_, rfl, rfl, h, Ext.refl _ _⟩
  · refine (Tryz.slices_Compact_int g 0 cap xs w (holds_of_blockI hg (by simpa [An.ints] using h4)) (by omega) h1).mono ?_
    rintro e w' ⟨rfl, q, rfl⟩
    have hcl : (Lib.compact xs).length ≤ xs.length := compact_length_le xs
    have hts : (Lib.compact xs ++ List.replicate (xs.length - (Lib.compact xs).length) 0).length = xs.length := by rw [List.length_append, List.length_replicate]; omega
    have hheap := heap_sortedI (n := q) (os := #[]) (Lib.compact xs ++ List.replicate (xs.length - (Lib.compact xs).length) 0).toArray hg
    have htake := take_putCellsI cur (Lib.compact xs ++ List.replicate (xs.length - (Lib.compact xs).length) 0) (by rw [hts, h3]; omega)
    have hgr := grownBy_sortedI (w := w) (g := g) (n := q) (os := #[]) (Lib.compact xs ++ List.replicate (xs.length - (Lib.compact xs).length) 0).toArray
    rw [Sort.grow_empty] at hheap hgr
    refine ⟨_, rfl, rfl, own_ints ?_ h.mine, (Ext.of_grown hgr).mono fun b _ hx => by simpa [Value.ownBlock] using hx⟩
    refine ⟨by simp [An.ints], .inr ⟨g, cap, _, rfl, hb, hheap, by omega, h2, by simp [Sort.putCells, h3], ?_⟩⟩
    rw [hts] at htake
    have : List.take ((Lib.compact xs).length * 1) (Sort.putCells (Value.int .i64) 0 (Lib.compact xs ++ List.replicate (xs.length - (Lib.compact xs).length) 0).toArray cur).toList
        = List.take (Lib.compact xs).length (List.take xs.length (Sort.putCells (Value.int .i64) 0 (Lib.compact xs ++ List.replicate (xs.length - (Lib.compact xs).length) 0).toArray cur).toList) := by
      rw [List.take_take, Nat.mul_one, Nat.min_eq_left hcl]
    rw [this, htake, List.map_append, List.take_append_of_le_length (by simp), List.take_of_length_le (by simp)]
    rfl

theorem clone_ints {M w v} {xs : List Int} (h : Sl M w v xs) (hl : xs.length ≤ 1000000) :
    Calls Tryz.prog 70 #[v] w fun e w' => ∃ v', e = .returned v' ∧ Own 3 w.heap.size (fun b => v'.ownBlock = some b) w' v' xs ∧ Ext No w w' ∧ (∀ b, v'.ownBlock = some b → w.heap.size ≤ b) := by
  have fin : ∀ v' (w' : World), w'.ownsRow w.heap.size 3 1 v' xs.length (ints xs) → Below w.heap.size w w' →
      Own 3 w.heap.size (fun b => v'.ownBlock = some b) w' v' xs ∧ Ext No w w' ∧ (∀ b, v'.ownBlock = some b → w.heap.size ≤ b) := by
    intro v' w' h1 h2
    refine ⟨own_ints h1 fun _ h => h, Ext.of_below h2, fun b hb => ?_⟩
    rcases h1.2 with ⟨rfl, _⟩ | ⟨g, cap, cur, rfl, hb', _⟩
    · simp [Value.ownBlock] at hb
    · simp [Value.ownBlock] at hb; omega
  rcases h.kind with ⟨rfl, h0⟩ | ⟨a, cap, rfl, hcap⟩
  · have hx : xs = [] := List.eq_nil_of_length_eq_zero h0
    subst hx
    refine (Tryz.slices_Clone_int_nil 0 0 w).mono ?_
    rintro e w' ⟨rfl, rfl⟩
    exact ⟨_, rfl, fin _ _ ⟨rfl, .inl ⟨rfl, rfl⟩⟩ (Below.refl _ _)⟩
  · rcases Nat.eq_zero_or_pos xs.length with h0 | h0
    · have hx : xs = [] := List.eq_nil_of_length_eq_zero h0
      subst hx
      refine (Tryz.slices_Clone_int_zero a cap w).mono ?_
      rintro e w' ⟨v', rfl, h1, -, h2⟩
      exact ⟨v', rfl, fin _ _ h1 h2⟩
    · obtain ⟨a', c', he, hm, hat⟩ := h.ints h0
      injection he with he1 he2 he3
      injection he1 with he1
      subst he1
      obtain ⟨b, off, sp⟩ := a
      have hsp : sp = none := by
        have := hat 0 (.int .i64 xs[0]) (by simp [An.ints, List.getElem?_eq_getElem h0])
        rw [add_zero] at this
        cases sp with
        | none => rfl
        | some q =>
          exfalso
          unfold World.cell? at this
          split at this
          · simp at this
          · simp at this
      subst hsp
      refine (Tryz.slices_Clone_int b off xs.length cap xs w (Nat.le_refl _) (by omega) (fun j hj => ?_)).mono ?_
      · have := hat j (.int .i64 (xs.getD j 0)) (by simp [An.ints, List.getD, List.getElem?_eq_getElem hj])
        have e : (⟨b, off, none⟩ : Addr).add j = ⟨b, off + j, none⟩ := by unfold Addr.add; split <;> simp_all
        rwa [e] at this
      · rintro e w' ⟨v', rfl, h1, -, h2⟩
        rw [List.take_length] at h1
        exact ⟨v', rfl, fin _ _ h1 h2⟩

theorem slice_plain {M w v} {xs : List Int} (h : Sl M w v xs) (h0 : 0 < xs.length) : ∃ b off cap, v = .slice (some ⟨b, off, none⟩) xs.length cap ∧ ∀ j, j < xs.length → w.cell? ⟨b, off + j, none⟩ = some (.int .i64 (xs.getD j 0)) := by
  obtain ⟨a, cap, rfl, hm, hat⟩ := h.ints h0
  obtain ⟨b, off, sp⟩ := a
  have hsp : sp = none := by
    have := hat 0 (.int .i64 xs[0]) (by simp [An.ints, List.getElem?_eq_getElem h0])
    rw [add_zero] at this
    cases sp with
    | none => rfl
    | some q =>
      exfalso
      unfold World.cell? at this
      split at this
      · simp at this
      · simp at this
  subst hsp
  refine ⟨b, off, cap, rfl, fun j hj => ?_⟩
  have := hat j (.int .i64 (xs.getD j 0)) (by simp [An.ints, List.getD, List.getElem?_eq_getElem hj])
  have e : (⟨b, off, none⟩ : Addr).add j = ⟨b, off + j, none⟩ := by unfold Addr.add; split <;> simp_all
  rwa [e] at this
theorem contains_ints {M w v} {xs : List Int} (h : Sl M w v xs) (x : Int) (hl : xs.length ≤ 1000000) :
    Calls Tryz.prog 74 #[v, .int .i64 x] w fun e w' => e = .returned (.bool (xs.contains x)) ∧ w = w' := by
  rcases Nat.eq_zero_or_pos xs.length with h0 | h0
  · have hx : xs = [] := List.eq_nil_of_length_eq_zero h0
    subst hx
    obtain ⟨A, c, rfl⟩ := h.form
    refine (Tryz.slices_Contains_int_empty A c x w).mono ?_
    rintro e w' ⟨rfl, rfl⟩
    exact ⟨rfl, rfl⟩
  · obtain ⟨b, off, cap, rfl, hc⟩ := slice_plain h h0
    refine (Tryz.slices_Contains_int b off xs.length cap xs x w (Nat.le_refl _) (by omega) hc).mono ?_
    rintro e w' ⟨rfl, rfl⟩
    rw [List.take_length]
    exact ⟨rfl, rfl⟩
end Go.Proofs.An
