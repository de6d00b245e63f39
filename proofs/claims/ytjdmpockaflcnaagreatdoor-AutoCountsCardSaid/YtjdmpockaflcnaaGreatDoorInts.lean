/-
  Slices of whole numbers: their cells; make, copy.
-/
import Derived.Test.YtjdmpockaflcnaaGreatDoorOwn
import Derived.Laws.CopyOwn
namespace Go.Proofs.An
open Go.RowKit
def ints (xs : List Int) : List Value := xs.map (Value.int .i64)
theorem ints_rep {M w} {cells : List Value} {xs : List Int} (hl : cells.length = xs.length * 1) (h : ∀ k, k < xs.length → Enc.rep M w (cut cells 1 k) (nth xs k)) : cells = ints xs := by
  apply List.ext_getElem?
  intro k
  rcases Nat.lt_or_ge k xs.length with hk | hk
  · have := h k hk
    have e : (cut cells 1 k)[0]? = some (Value.int .i64 (nth xs k)) := by rw [show cut cells 1 k = [.int .i64 (nth xs k)] from this]; rfl
    have := cut_get _ _ _ _ _ e
    simp only [Nat.mul_one, Nat.add_zero] at this
    rw [this, nth_eq _ _ hk]
    simp [ints, List.getElem?_eq_getElem hk]
  · rw [List.getElem?_eq_none (by omega), List.getElem?_eq_none (by simpa [ints] using hk)]
/-- The cells of a slice of ints. -/
theorem Sl.ints {M : Nat → Prop} {w : World} {v : Value} {xs : List Int} (hs : Sl M w v xs) :
    0 < xs.length → ∃ a cap, v = .slice (some a) xs.length cap ∧ ¬ M a.block ∧ MemAt w a (ints xs) := by
  obtain ⟨cells, hl, hr, ha⟩ := hs.flat
  have := ints_rep hl hr
  subst this
  exact ha
theorem Own.of_ints {E B M w g cap} {cur : List Int} (hg : w.heap[g]? = some (.cells (ints cur).toArray E (0, 0))) (hB : B ≤ g) (hM : M g) (hc : cap ≤ maxLen) (hcl : cur.length = cap) (xs : List Int) (rest : List Int) (hx : cur = xs ++ rest) :
    Own E B M w (.slice (some ⟨g, 0, none⟩) xs.length cap) xs := by
  have e : ints cur = ints xs ++ ints rest := by rw [hx]; simp [An.ints]
  refine ⟨fun b hb => by simp [Value.ownBlock] at hb; subst hb; exact hM, ints xs, ⟨by simp [An.ints, Enc.n], .inr ⟨g, cap, _, rfl, hB, hg, ?_, hc, ?_, ?_⟩⟩, fun k hk => ?_⟩
  · rw [← hcl, hx]; simp
  · simp [An.ints, hcl, Enc.n]
  · simp only [Enc.n, Nat.mul_one, e]; rw [List.take_append_of_le_length (by simp [An.ints])]; rw [List.take_of_length_le (by simp [An.ints])]
  · show cut (ints xs) 1 k = _
    simp [cut, An.ints, nth, List.drop_eq_getElem_cons, hk]
theorem made_ints (m : Nat) : madeCells #[.int .i64 0] m = (ints (List.replicate m 0)).toArray := by
  simp [madeCells, ints, Array.range]
  apply Array.ext
  · simp
  · intro i h1 h2; simp [Nat.mod_one]
def zeros (m : Nat) : List Int := List.replicate m 0
theorem zeros_length (m : Nat) : (zeros m).length = m := by simp [zeros]
def intCells (xs : List Int) : Array Value := (ints xs).toArray
theorem make_ints {P : Program} (t e : TypeId) (bytes : Nat) (ht : P.underlying t = some (.slice e)) (hi : (P.info? e).map (fun j => (j.zero, j.size, j.bytes)) = some (some (.int .i64 0), 1, bytes)) (m : Nat) (q : Int) (hq : q = m) (hm : bytes * m ≤ 281474976710656) (hb : 0 < bytes) :
    ∀ W : World, (Instr.makeSlice t (.int .i64 q) (.int .i64 q)).run P W = .ok (.slice (some ⟨W.heap.size, 0, none⟩) m m) (W.alloc (.cells (intCells (zeros m)) e)) := by
  intro W
  subst hq
  obtain ⟨i, hi, hzz⟩ := Option.map_eq_some_iff.1 hi
  simp only [Prod.mk.injEq] at hzz
  obtain ⟨hz0, hz1, hz2⟩ := hzz
  have hm' : m ≤ 281474976710656 := Nat.le_trans (Nat.le_mul_of_pos_left _ hb) hm
  have := run_make (P := P) W t e i (.int .i64 0) ht hi hz0 .i64 .i64 (m : Int) (m : Int) (by omega) (by omega) (by rw [hz2]; rw [← Int.natCast_mul]; omega) (by omega)
  rw [this, intCells, zeros, ← made_ints]
  simp [Value.cells, hz1]
theorem ints_one (xs : List Int) : ∀ v ∈ ints xs, v.oneCell' = true := by intro v hv; simp [ints] at hv; obtain ⟨_, _, rfl⟩ := hv; rfl


/-- copy(d, s) into a block of one's own, of whole numbers; s no longer than d. -/
theorem wpl_copy_ints {P : Program} {w : World} {ops : Array Oper} {rest : List Oper} {o : Oper} {a : Act} {Q : Exit → Act → World → Prop} (d s : Operand) (dT : TypeId)
    (ho : o.op = .call { callee := .builtin .copy, args := #[d, s], argTypes := #[dT, dT] }) (hgd : o.guard = none) (e : TypeId) (hu : P.underlying dT = some (.slice e)) (hsz : (P.info? e).map (·.size) = some 1)
    {M : Nat → Prop} (dp : Option Addr) (dLen dCap : Nat) (u : Value) (ys : List Int) (hd : a.eval d = .slice dp dLen dCap) (hs : a.eval s = u) (hS : Sl M w u ys)
    (g off : Nat) (cur : List Int) (hg : w.heap[g]? = some (.cells (intCells cur) e (0, 0))) (hdp : 0 < ys.length → dp = some ⟨g, off, none⟩) (hle : ys.length ≤ dLen) (hfit : off + ys.length ≤ cur.length)
    (h : ∀ w', Hid (w'.heap[g]? = some (.cells (intCells (splice cur off ys)) e (0, 0))) → Ext (fun b => b = g) w w' → wpList P ops Q rest (a.put o.dst (.int .i64 ys.length)) w') :
    wpList P ops Q (o :: rest) a w := by
  have hl : (ints ys).length = ys.length := by simp [ints]
  rcases Nat.eq_zero_or_pos ys.length with h0 | h0
  · have hy : ys = [] := List.eq_nil_of_length_eq_zero h0
    subst hy
    obtain ⟨A, c, rfl⟩ := hS.form
    refine wpList_copy_nothing hgd d s dT dT ho e hu hsz dp A dLen dCap 0 c hd hs (Nat.zero_min _) ?_
    exact h w (show _ = _ by simpa [splice] using hg) (Ext.refl _ _)
  · obtain ⟨ad, c, rfl, _, had⟩ := hS.ints h0
    refine wpList_copy_own hgd d s dT dT ho e hu hsz g off dLen dCap ad ys.length c (by rw [hd, hdp h0]) hs (intCells cur) e hg (ints ys) (by rw [hl]; exact (Nat.min_eq_left hle).symm) had (by simpa [hl, intCells, ints] using hfit) (ints_one ys) ?_
    rw [hl]
    refine h _ ?_ ?_
    · show _ = _
      rw [setRow_heap w g _ _ e _ hg]
      simp [splice, intCells, ints]
    · exact ⟨rfl, rfl, rfl, by simp [World.setRow], fun k hk hn => setRow_other w g k _ hn⟩

theorem splice2 (xs ys : List Int) : splice (splice (zeros (xs.length + ys.length)) 0 xs) xs.length ys = xs ++ ys := by
  have h1 : splice (zeros (xs.length + ys.length)) 0 xs = xs ++ zeros ys.length := by
    simp [splice, zeros]
  rw [h1]
  simp [splice, zeros]
theorem splice_length (L : List Int) (off : Nat) (cs : List Int) (h : off + cs.length ≤ L.length) : (splice L off cs).length = L.length := length_splice L off cs h

end Go.Proofs.An
