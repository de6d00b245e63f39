/-
  Rows of places: sorted, each once.
-/
import Derived.Test.YtjdmpockaflcnaaGreatDoorStd
namespace Go.Proofs.An
open Go.RowKit
def srt (xs : List Int) : List Int := xs.mergeSort fun x y => decide (x ≤ y)
def join1 (xs ys : List Int) : List Int := Lib.compact (srt (xs ++ ys))
def Rising (l : List Int) : Prop := l.Pairwise (· < ·)
theorem srt_mem (xs : List Int) (x : Int) : x ∈ srt xs ↔ x ∈ xs := by unfold srt; exact List.mem_mergeSort
theorem srt_sorted (xs : List Int) : (srt xs).Pairwise (· ≤ ·) := by
  have := List.pairwise_mergeSort (le := fun x y : Int => decide (x ≤ y)) (fun a b c => by simp; omega) (fun a b => by simp; omega) xs
  exact this.imp (by intro a b h; simpa using h)
theorem compact_spec (zs : List Int) (hs : zs.Pairwise (· ≤ ·)) : Rising (Lib.compact zs) ∧ ∀ x, x ∈ Lib.compact zs ↔ x ∈ zs := by
  have hg : ∀ j, j < zs.length → zs.toArray[j]! = zs.getD j 0 := fun j hj => by simp [hj]
  have hle : ∀ i j, i ≤ j → j < zs.length → zs.getD i 0 ≤ zs.getD j 0 := by
    intro i j hij hj
    rcases Nat.lt_or_ge i j with h | h
    · have := List.pairwise_iff_getElem.1 hs i j (by omega) hj h
      simpa [List.getD_eq_getElem?_getD, List.getElem?_eq_getElem, hj, (by omega : i < zs.length)] using this
    · have : i = j := by omega
      subst this; exact Int.le_refl _
  have key : ∀ m, m ≤ zs.length → Rising (Lib.compactUpTo zs.toArray m) ∧ (∀ x ∈ Lib.compactUpTo zs.toArray m, 0 < m ∧ x ≤ zs.getD (m - 1) 0) ∧ ∀ x, x ∈ Lib.compactUpTo zs.toArray m ↔ ∃ j, j < m ∧ zs.getD j 0 = x := by
    intro m
    induction m with
    | zero => exact fun _ => ⟨List.Pairwise.nil, fun x hx => by simp [Lib.compactUpTo] at hx, fun x => by simp [Lib.compactUpTo]⟩
    | succ m ih =>
      intro hm
      obtain ⟨h1, h2, h3⟩ := ih (by omega)
      rw [Lib.compactUpTo_succ]
      by_cases hk : Lib.keeps zs.toArray m = true
      · rw [if_pos hk, hg m (by omega)]
        have hlt : ∀ x ∈ Lib.compactUpTo zs.toArray m, x < zs.getD m 0 := by
          intro x hx
          obtain ⟨hp, hxl⟩ := h2 x hx
          have h4 := hle (m - 1) m (by omega) (by omega)
          have hne : zs.getD (m - 1) 0 ≠ zs.getD m 0 := by
            intro he
            have : Lib.keeps zs.toArray m = false := Lib.keeps_neg hp (by rw [hg m (by omega), hg (m - 1) (by omega), he])
            rw [this] at hk; cases hk
          omega
        refine ⟨List.pairwise_append.2 ⟨h1, by simp, fun x hx y hy => ?_⟩, fun x hx => ⟨by omega, ?_⟩, fun x => ?_⟩
        · simp at hy; rw [hy]; exact hlt x hx
        · rcases List.mem_append.1 hx with h | h
          · have := hlt x h; simp only [Nat.add_sub_cancel]; omega
          · simp at h; rw [h]; simp
        · rw [List.mem_append, h3]
          constructor
          · rintro (⟨j, hj, rfl⟩ | h)
            · exact ⟨j, by omega, rfl⟩
            · simp at h; exact ⟨m, by omega, by rw [h]; simp⟩
          · rintro ⟨j, hj, rfl⟩
            rcases Nat.lt_or_ge j m with h | h
            · exact .inl ⟨j, h, rfl⟩
            · have : j = m := by omega
              subst this; right; simp
      · have hk : Lib.keeps zs.toArray m = false := by simpa using hk
        rw [hk]
        simp only [Bool.false_eq_true, if_false, List.append_nil]
        have hp : 0 < m := by
          rcases Nat.eq_zero_or_pos m with h | h
          · rw [h] at hk; simp [Lib.keeps] at hk
          · exact h
        have he : zs.getD m 0 = zs.getD (m - 1) 0 := by
          by_cases h : zs.getD m 0 = zs.getD (m - 1) 0
          · exact h
          · have := Lib.keeps_pos (d := zs.toArray) (m := m) (by rw [hg m (by omega), hg (m - 1) (by omega)]; exact h)
            rw [this] at hk; cases hk
        refine ⟨h1, fun x hx => ⟨by omega, ?_⟩, fun x => ?_⟩
        · simp only [Nat.add_sub_cancel]; rw [he]; exact (h2 x hx).2
        · rw [h3]
          constructor
          · rintro ⟨j, hj, rfl⟩; exact ⟨j, by omega, rfl⟩
          · rintro ⟨j, hj, rfl⟩
            rcases Nat.lt_or_ge j m with h | h
            · exact ⟨j, h, rfl⟩
            · have : j = m := by omega
              subst this; exact ⟨j - 1, by omega, he.symm⟩
  obtain ⟨h1, -, h3⟩ := key zs.length (Nat.le_refl _)
  refine ⟨h1, fun x => (h3 x).trans ?_⟩
  constructor
  · rintro ⟨j, hj, rfl⟩
    simp [List.getD_eq_getElem?_getD, List.getElem?_eq_getElem, hj]
  · intro hx
    obtain ⟨j, hj, rfl⟩ := List.getElem_of_mem hx
    exact ⟨j, hj, by simp [List.getD_eq_getElem?_getD, List.getElem?_eq_getElem, hj]⟩
theorem join1_rising (xs ys : List Int) : Rising (join1 xs ys) := (compact_spec _ (srt_sorted _)).1
theorem join1_mem (xs ys : List Int) (x : Int) : x ∈ join1 xs ys ↔ x ∈ xs ∨ x ∈ ys := by
  unfold join1
  rw [(compact_spec _ (srt_sorted _)).2, srt_mem, List.mem_append]
theorem rising_len (n : Nat) : ∀ (l : List Int) (a : Int), Rising l → (∀ x ∈ l, a ≤ x ∧ x < n) → 0 ≤ a → a ≤ n → l.length ≤ n - a.toNat := by
  intro l
  induction l with
  | nil => intro a _ _ _ _; simp
  | cons x l ih =>
    intro a hr hx h0 hn
    have h1 := hx x (by simp)
    have h2 := List.pairwise_cons.1 hr
    have := ih (x + 1) h2.2 (fun y hy => ⟨by have := h2.1 y hy; omega, (hx y (by simp [hy])).2⟩) (by omega) (by omega)
    simp only [List.length_cons]
    omega
def InPlaces (n : Nat) (l : List Int) : Prop := ∀ i ∈ l, 0 ≤ i ∧ i < n
/-- A row of places that follow: in range, rising. -/
def GoodRow (n : Nat) (l : List Int) : Prop := InPlaces n l ∧ Rising l
theorem GoodRow.len {n : Nat} {l : List Int} (h : GoodRow n l) : l.length ≤ n := by
  have := rising_len n l 0 h.2 h.1 (by omega) (by omega)
  simpa using this
theorem GoodRow.join {n : Nat} {xs ys : List Int} (h : InPlaces n xs) (k : InPlaces n ys) : GoodRow n (join1 xs ys) :=
  ⟨fun i hi => by rcases (join1_mem _ _ _).1 hi with h1 | h1; exact h i h1; exact k i h1, join1_rising _ _⟩
theorem GoodRow.more {n m : Nat} {l : List Int} (h : GoodRow n l) (hm : n ≤ m) : GoodRow m l := ⟨fun i hi => by have := h.1 i hi; omega, h.2⟩
def thenStep (first : List Int) (fs : List (List Int)) (i : Int) : List (List Int) := fs.set i.toNat (join1 (fs.getD i.toNat []) first)
def thenF (fs : List (List Int)) (last first : List Int) : List (List Int) := last.foldl (thenStep first) fs
theorem thenStep_length (first : List Int) (fs : List (List Int)) (i : Int) : (thenStep first fs i).length = fs.length := by simp [thenStep]
theorem thenF_length (last first : List Int) : ∀ fs, (thenF fs last first).length = fs.length := by
  induction last with
  | nil => intro fs; rfl
  | cons i last ih => intro fs; show (thenF (thenStep first fs i) last first).length = _; rw [ih, thenStep_length]
theorem thenF_snoc (fs : List (List Int)) (last first : List Int) (i : Int) : thenF fs (last ++ [i]) first = thenStep first (thenF fs last first) i := by simp [thenF]
def GoodF (n : Nat) (fs : List (List Int)) : Prop := ∀ r ∈ fs, GoodRow n r
theorem GoodF.step {n : Nat} {fs : List (List Int)} {first : List Int} (h : GoodF n fs) (hf : InPlaces n first) (i : Int) : GoodF n (thenStep first fs i) := by
  intro r hr
  unfold thenStep at hr
  rcases List.mem_or_eq_of_mem_set hr with h1 | h1
  · exact h r h1
  · rw [h1]
    refine GoodRow.join ?_ hf
    rw [List.getD_eq_getElem?_getD]
    cases hk : fs[i.toNat]? with
    | none => intro x hx; simp at hx
    | some q => exact (h q (List.mem_of_getElem? hk)).1
theorem GoodF.then {n : Nat} {first : List Int} (hf : InPlaces n first) (last : List Int) : ∀ {fs : List (List Int)}, GoodF n fs → GoodF n (thenF fs last first) := by
  induction last with
  | nil => intro fs h; exact h
  | cons i last ih => intro fs h; exact ih (h.step hf i)
end Go.Proofs.An
