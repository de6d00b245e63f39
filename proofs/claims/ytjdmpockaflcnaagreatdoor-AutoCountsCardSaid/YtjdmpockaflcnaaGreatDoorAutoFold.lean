/-
  auto.Build as a function of lists.
-/
import Derived.Test.YtjdmpockaflcnaaGreatDoorRowOf
import Derived.Test.YtjdmpockaflcnaaGreatDoorPath
namespace Go.Proofs.An
open Go.RowKit
structure BSt where
  ls : List Step
  fs : List (List Int)
  st : List Part
def bstep (s : BSt) (x : Step) : BSt :=
  if x.kind = 1 ∨ x.kind = 2 then ⟨s.ls ++ [x], s.fs ++ [[]], s.st ++ [⟨[(s.ls.length : Int)], [(s.ls.length : Int)], false⟩]⟩
  else if x.kind = 3 then ⟨s.ls, thenF s.fs (nth s.st (s.st.length - 2)).last (nth s.st (s.st.length - 1)).first, s.st.take (s.st.length - 2) ++ [rowP (nth s.st (s.st.length - 2)) (nth s.st (s.st.length - 1))]⟩
  else if x.kind = 4 then ⟨s.ls, s.fs, s.st.take (s.st.length - 2) ++ [⟨(nth s.st (s.st.length - 2)).first ++ (nth s.st (s.st.length - 1)).first, (nth s.st (s.st.length - 2)).last ++ (nth s.st (s.st.length - 1)).last, (nth s.st (s.st.length - 2)).empty || (nth s.st (s.st.length - 1)).empty⟩]⟩
  else if x.kind = 7 then ⟨s.ls, s.fs, s.st.set (s.st.length - 1) ⟨(nth s.st (s.st.length - 1)).first, (nth s.st (s.st.length - 1)).last, true⟩⟩
  else ⟨s.ls, thenF s.fs (nth s.st (s.st.length - 1)).last (nth s.st (s.st.length - 1)).first, s.st.set (s.st.length - 1) ⟨(nth s.st (s.st.length - 1)).first, (nth s.st (s.st.length - 1)).last, (nth s.st (s.st.length - 1)).empty || decide (x.kind = 5)⟩⟩
def built (xs : List Step) : BSt := xs.foldl bstep ⟨[], [], []⟩
theorem built_snoc (xs : List Step) (x : Step) : built (xs ++ [x]) = bstep (built xs) x := by simp [built]
def firsts (st : List Part) : List Int := st.flatMap Part.first
def lasts (st : List Part) : List Int := st.flatMap Part.last
structure BInv (s : BSt) : Prop where
  len : s.fs.length = s.ls.length
  good : GoodF s.ls.length s.fs
  fin : InPlaces s.ls.length (firsts s.st)
  fnd : (firsts s.st).Nodup
  flen : (firsts s.st).length ≤ s.ls.length
  lin : InPlaces s.ls.length (lasts s.st)
  llen : (lasts s.st).length ≤ s.ls.length
theorem BInv.nil : BInv ⟨[], [], []⟩ := ⟨rfl, by intro r h; simp at h, by intro r h; simp [firsts] at h, by simp [firsts], by simp [firsts], by intro r h; simp [lasts] at h, by simp [lasts]⟩
theorem split1 (st : List Part) (h : 1 ≤ st.length) : st = st.take (st.length - 1) ++ [nth st (st.length - 1)] := by
  rw [nth_eq _ _ (by omega), ← List.take_succ_eq_append_getElem (by omega), List.take_of_length_le (by omega)]
theorem split2 (st : List Part) (h : 2 ≤ st.length) : st = st.take (st.length - 2) ++ [nth st (st.length - 2), nth st (st.length - 1)] := by
  have h1 := split1 st (by omega)
  have e : st.take (st.length - 1) = st.take (st.length - 2) ++ [nth st (st.length - 2)] := by
    rw [nth_eq _ _ (by omega), ← List.take_succ_eq_append_getElem (by omega)]
    congr 1; omega
  rw [e] at h1
  simpa using h1
theorem set_top (st : List Part) (h : 1 ≤ st.length) (y : Part) : st.set (st.length - 1) y = st.take (st.length - 1) ++ [y] := by
  refine List.ext_getElem? fun k => ?_
  rw [List.getElem?_set]
  by_cases hk : st.length - 1 = k
  · subst hk
    rw [if_pos rfl, if_pos (by omega), List.getElem?_append_right (by rw [List.length_take]; omega), List.length_take]
    have : st.length - 1 - min (st.length - 1) st.length = 0 := by omega
    rw [this]; rfl
  · rw [if_neg hk]
    rcases Nat.lt_or_ge k (st.length - 1) with h1 | h1
    · rw [List.getElem?_append_left (by rw [List.length_take]; omega), List.getElem?_take, if_pos h1]
    · rw [List.getElem?_eq_none (by omega), List.getElem?_eq_none (by simp; omega)]
theorem firsts_append (a b : List Part) : firsts (a ++ b) = firsts a ++ firsts b := by simp [firsts]
theorem lasts_append (a b : List Part) : lasts (a ++ b) = lasts a ++ lasts b := by simp [lasts]
/-- A step that adds no place. -/
theorem BInv.sub {s : BSt} {fs : List (List Int)} {st : List Part} (h : BInv s) (hl : fs.length = s.fs.length) (hg : GoodF s.ls.length fs) (h1 : (firsts st).Sublist (firsts s.st)) (h2 : (lasts st).Sublist (lasts s.st)) : BInv ⟨s.ls, fs, st⟩ :=
  ⟨hl.trans h.len, hg, fun i hi => h.fin i (h1.subset hi), h.fnd.sublist h1, Nat.le_trans h1.length_le h.flen, fun i hi => h.lin i (h2.subset hi), Nat.le_trans h2.length_le h.llen⟩
theorem mem_firsts {st : List Part} {k : Nat} (hk : k < st.length) {i : Int} (hi : i ∈ (nth st k).first) : i ∈ firsts st := by
  rw [nth_eq _ _ hk] at hi
  exact List.mem_flatMap.2 ⟨_, List.getElem_mem hk, hi⟩
theorem mem_lasts {st : List Part} {k : Nat} (hk : k < st.length) {i : Int} (hi : i ∈ (nth st k).last) : i ∈ lasts st := by
  rw [nth_eq _ _ hk] at hi
  exact List.mem_flatMap.2 ⟨_, List.getElem_mem hk, hi⟩
theorem BInv.first {s : BSt} (h : BInv s) (k : Nat) (hk : k < s.st.length) : InPlaces s.ls.length (nth s.st k).first := fun i hi => h.fin i (mem_firsts hk hi)
theorem BInv.last {s : BSt} (h : BInv s) (k : Nat) (hk : k < s.st.length) : InPlaces s.ls.length (nth s.st k).last := fun i hi => h.lin i (mem_lasts hk hi)
theorem len_flat {α β : Type} (f : α → List β) (l : List α) (x : α) (h : x ∈ l) : (f x).length ≤ (l.flatMap f).length := by
  induction l with
  | nil => simp at h
  | cons y l ih =>
    rw [List.flatMap_cons, List.length_append]
    rcases List.mem_cons.1 h with rfl | h
    · omega
    · have := ih h; omega
theorem BInv.firstLen {s : BSt} (h : BInv s) (k : Nat) (hk : k < s.st.length) : (nth s.st k).first.length ≤ s.ls.length := by
  rw [nth_eq _ _ hk]
  exact Nat.le_trans (len_flat Part.first _ _ (List.getElem_mem hk)) h.flen
theorem BInv.lastLen {s : BSt} (h : BInv s) (k : Nat) (hk : k < s.st.length) : (nth s.st k).last.length ≤ s.ls.length := by
  rw [nth_eq _ _ hk]
  exact Nat.le_trans (len_flat Part.last _ _ (List.getElem_mem hk)) h.llen
theorem sub_row (a b : Part) : (rowP a b).first.Sublist (a.first ++ b.first) ∧ (rowP a b).last.Sublist (a.last ++ b.last) := by
  unfold rowP
  constructor
  · cases a.empty <;> simp
  · cases b.empty <;> simp
/-- How deep the stack must be for a step. -/
def needs (k : Int) : Nat := if k = 1 ∨ k = 2 then 0 else if k = 3 ∨ k = 4 then 2 else 1
theorem BInv.step {s : BSt} (h : BInv s) (x : Step) (hn : needs x.kind ≤ s.st.length) : BInv (bstep s x) := by
  unfold bstep
  unfold needs at hn
  split
  · refine ⟨by simp [h.len], ?_, ?_, ?_, ?_, ?_, ?_⟩
    · intro r hr
      rcases List.mem_append.1 hr with hr | hr
      · exact (h.good r hr).more (by simp)
      · simp at hr; subst hr
        exact ⟨fun i hi => by simp at hi, List.Pairwise.nil⟩
    · intro i hi
      simp only [firsts_append] at hi
      rcases List.mem_append.1 hi with hi | hi
      · have := h.fin i hi; simp; omega
      · simp [firsts] at hi; subst hi; simp; omega
    · simp only [firsts_append]
      refine List.nodup_append.2 ⟨h.fnd, by simp [firsts], fun a ha b hb => ?_⟩
      simp [firsts] at hb
      have := h.fin a ha
      omega
    · simp only [firsts_append, List.length_append]
      have := h.flen
      simp [firsts] at *; omega
    · intro i hi
      simp only [lasts_append] at hi
      rcases List.mem_append.1 hi with hi | hi
      · have := h.lin i hi; simp; omega
      · simp [lasts] at hi; subst hi; simp; omega
    · simp only [lasts_append, List.length_append]
      have := h.llen
      simp [lasts] at *; omega
  · rename_i h12
    rw [if_neg h12] at hn
    split
    · rename_i h3
      rw [if_pos (.inl h3)] at hn
      have e := split2 s.st hn
      refine h.sub (thenF_length _ _ _) (h.good.then (h.first _ (by omega)) _) ?_ ?_
      · conv => rhs; rw [e]
        rw [firsts_append, firsts_append]
        refine List.Sublist.append (List.Sublist.refl _) ?_
        simpa [firsts] using (sub_row _ _).1
      · conv => rhs; rw [e]
        rw [lasts_append, lasts_append]
        refine List.Sublist.append (List.Sublist.refl _) ?_
        simpa [lasts] using (sub_row _ _).2
    · rename_i h3
      split
      · rename_i h4
        rw [if_pos (.inr h4)] at hn
        have e := split2 s.st hn
        refine h.sub rfl h.good ?_ ?_
        · conv => rhs; rw [e]
          rw [firsts_append, firsts_append]
          refine List.Sublist.append (List.Sublist.refl _) ?_
          simp [firsts]
        · conv => rhs; rw [e]
          rw [lasts_append, lasts_append]
          refine List.Sublist.append (List.Sublist.refl _) ?_
          simp [lasts]
      · rename_i h4
        rw [if_neg (by rintro (h | h); exact h3 h; exact h4 h)] at hn
        have e := split1 s.st hn
        have key : ∀ (b : Bool), (firsts (s.st.set (s.st.length - 1) ⟨(nth s.st (s.st.length - 1)).first, (nth s.st (s.st.length - 1)).last, b⟩)) = firsts s.st ∧
            (lasts (s.st.set (s.st.length - 1) ⟨(nth s.st (s.st.length - 1)).first, (nth s.st (s.st.length - 1)).last, b⟩)) = lasts s.st := by
          intro b
          rw [set_top _ hn]
          constructor
          · conv => rhs; rw [e]
            rw [firsts_append, firsts_append]; simp [firsts]
          · conv => rhs; rw [e]
            rw [lasts_append, lasts_append]; simp [lasts]
        split
        · exact h.sub rfl h.good (by rw [(key _).1]; exact List.Sublist.refl _) (by rw [(key _).2]; exact List.Sublist.refl _)
        · exact h.sub (thenF_length _ _ _) (h.good.then (h.first _ (by omega)) _) (by rw [(key _).1]; exact List.Sublist.refl _) (by rw [(key _).2]; exact List.Sublist.refl _)
theorem bstep_depth {s : BSt} {ps ps' : List Piece} {x : Step} (hl : s.st.length = ps.length) (h : pathStep ps x = some ps') :
    1 ≤ x.kind ∧ x.kind ≤ 7 ∧ needs x.kind ≤ s.st.length ∧ (bstep s x).st.length = ps'.length := by
  unfold pathStep at h
  split at h
  · cases h
  rename_i h17
  refine ⟨by omega, by omega, ?_⟩
  split at h
  · rename_i h2
    have e : x.kind = 1 ∨ x.kind = 2 := by omega
    split at h
    · cases h
    injection h with h
    subst h
    exact ⟨by simp [needs, e], by simp [bstep, e, hl]⟩
  · rename_i h2
    have e : ¬ (x.kind = 1 ∨ x.kind = 2) := by omega
    split at h
    · cases h
    rename_i hc
    simp only [not_or, not_and] at hc
    simp only [] at h
    split at h
    · rename_i h3
      injection h with h
      subst h
      exact ⟨by simp [needs, h3]; omega, by simp [bstep, h3, hl]⟩
    · rename_i h3
      split at h
      · rename_i h4
        injection h with h
        subst h
        exact ⟨by simp [needs, h4]; omega, by simp [bstep, h4, hl]⟩
      · rename_i h4
        injection h with h
        subst h
        refine ⟨by simp [needs, e, h3, h4]; omega, ?_⟩
        unfold bstep
        rw [if_neg e, if_neg h3, if_neg h4]
        split <;> simp <;> omega
theorem built_depth {xs : List Step} : ∀ k, k ≤ xs.length → ∀ ps, pathSt (xs.take k) = some ps → (built (xs.take k)).st.length = ps.length ∧ BInv (built (xs.take k)) ∧ (built (xs.take k)).ls.length ≤ k ∧ ∀ y ∈ (built (xs.take k)).ls, y ∈ xs := by
  intro k
  induction k with
  | zero => intro _ ps h; injection h with h; subst h; exact ⟨rfl, BInv.nil, by simp [built], by simp [built]⟩
  | succ k ih =>
    intro hk ps h
    rw [List.take_succ_eq_append_getElem (by omega), pathSt_snoc] at h
    rw [List.take_succ_eq_append_getElem (by omega), built_snoc]
    cases hs : pathSt (xs.take k) with
    | none => rw [hs] at h; cases h
    | some st0 =>
      rw [hs] at h
      obtain ⟨i1, i2, i3, i4⟩ := ih (by omega) st0 hs
      obtain ⟨-, -, hn, hd⟩ := bstep_depth i1 h
      refine ⟨hd, i2.step _ hn, ?_, ?_⟩
      · unfold bstep
        repeat' split
        all_goals simp
        all_goals omega
      · intro y hy
        unfold bstep at hy
        split at hy
        · rcases List.mem_append.1 hy with hy | hy
          · exact i4 y hy
          · simp at hy; subst hy; exact List.getElem_mem _
        · repeat' split at hy
          all_goals exact i4 y hy
theorem right_st {xs : List Step} (h : rightB xs = true) : xs.length ≤ 100 ∧ ∃ p, pathSt xs = some [p] := by
  unfold rightB pathT at h
  split at h
  · exact absurd h (by decide)
  · rename_i hl
    refine ⟨by omega, ?_⟩
    cases hp : pathSt xs with
    | none => rw [hp] at h; exact absurd h (by decide)
    | some ps =>
      rw [hp] at h
      match ps, h with
      | [], h => exact absurd h (by decide)
      | [p], _ => exact ⟨p, rfl⟩
      | _ :: _ :: _, h => exact absurd h (by simp [bl])
/-- What a right path's steps may be, one by one. -/
theorem right_step {xs : List Step} (h : rightB xs = true) (k : Nat) (hk : k < xs.length) :
    BInv (built (xs.take k)) ∧ (built (xs.take k)).ls.length ≤ k ∧ 1 ≤ (xs[k]).kind ∧ (xs[k]).kind ≤ 7 ∧ needs (xs[k]).kind ≤ (built (xs.take k)).st.length ∧ (built (xs.take k)).st.length ≤ k ∧ ∀ y ∈ (built (xs.take k)).ls, y ∈ xs := by
  obtain ⟨hl, p, hp⟩ := right_st h
  have hne : ∀ m, pathSt (xs.take m) ≠ none := fun m hm => by rw [pathSt_none m hm] at hp; cases hp
  obtain ⟨ps, hps⟩ := Option.ne_none_iff_exists'.1 (hne k)
  obtain ⟨ps', hps'⟩ := Option.ne_none_iff_exists'.1 (hne (k + 1))
  obtain ⟨d1, d2, d3, d4⟩ := built_depth k (by omega) ps hps
  have hi := pathSt_inv k (by omega) ps hps
  rw [List.take_succ_eq_append_getElem hk, pathSt_snoc, hps] at hps'
  obtain ⟨e1, e2, e3, -⟩ := bstep_depth d1 hps'
  exact ⟨d2, d3, e1, e2, e3, by rw [d1]; exact hi.2.2, d4⟩
theorem right_end {xs : List Step} (h : rightB xs = true) : xs.length ≤ 100 ∧ BInv (built xs) ∧ (built xs).ls.length ≤ xs.length ∧ (built xs).st.length = 1 ∧ ∀ y ∈ (built xs).ls, y ∈ xs := by
  obtain ⟨hl, p, hp⟩ := right_st h
  obtain ⟨d1, d2, d3, d4⟩ := built_depth (xs := xs) xs.length (Nat.le_refl _) [p] (by rw [List.take_length]; exact hp)
  rw [List.take_length] at d1 d2 d3 d4
  exact ⟨hl, d2, d3, d1, d4⟩
end Go.Proofs.An
