/-
  show.Path as a function of lists; each piece of its stack is a text of words and marks.
-/
import Derived.Test.YtjdmpockaflcnaaGreatDoorDeep
namespace Go.Proofs.An
open Go.RowKit
def signT (k : Int) : ByteArray := if k = 3 then bytes [47] else if k = 4 then bytes [124] else if k = 5 then bytes [42] else if k = 6 then bytes [43] else if k = 7 then bytes [63] else ByteArray.empty
def Piece.zero : Piece := ⟨ByteArray.empty, 0⟩
def pathStep (st : List Piece) (x : Step) : Option (List Piece) :=
  if x.kind < 1 ∨ 7 < x.kind then none
  else if x.kind ≤ 2 then (if labelT x = ByteArray.empty then none else some (st ++ [⟨labelT x, 3⟩]))
  else if x.label ≠ ByteArray.empty ∨ st.length < 1 ∨ (x.kind ≤ 4 ∧ st.length < 2) then none
  else
    let top := st.getD (st.length - 1) .zero
    let two := st.getD (st.length - 2) .zero
    if x.kind = 3 then some (st.take (st.length - 2) ++ [⟨leastT two 2 ++ signT 3 ++ leastT top 3, 2⟩])
    else if x.kind = 4 then some (st.take (st.length - 2) ++ [⟨two.text ++ signT 4 ++ leastT top 2, 1⟩])
    else some (st.take (st.length - 1) ++ [⟨leastT top 3 ++ signT x.kind, 3⟩])
def pathFrom (st : List Piece) : List Step → Option (List Piece)
  | [] => some st
  | x :: xs => match pathStep st x with
    | none => none
    | some st' => pathFrom st' xs
def pathSt (xs : List Step) : Option (List Piece) := pathFrom [] xs
theorem pathFrom_append (xs ys : List Step) : ∀ st, pathFrom st (xs ++ ys) = (pathFrom st xs).bind fun st' => pathFrom st' ys := by
  induction xs with
  | nil => intro st; rfl
  | cons x xs ih =>
    intro st
    simp only [List.cons_append, pathFrom]
    cases pathStep st x with
    | none => rfl
    | some st' => exact ih st'
theorem pathSt_snoc (xs : List Step) (x : Step) : pathSt (xs ++ [x]) = (pathSt xs).bind fun st => pathStep st x := by
  unfold pathSt
  rw [pathFrom_append]
  congr 1
  funext st
  simp only [pathFrom]
  cases pathStep st x <;> rfl
theorem pathSt_none {xs : List Step} (k : Nat) (h : pathSt (xs.take k) = none) : pathSt xs = none := by
  have : pathSt xs = (pathFrom [] (xs.take k)).bind fun st => pathFrom st (xs.drop k) := by
    conv => lhs; rw [← List.take_append_drop k xs]
    exact pathFrom_append _ _ _
  rw [this]
  unfold pathSt at h
  rw [h]
  rfl
/-- How deep ( are nested in a text, byte by byte. -/
def deepB (l : List UInt8) : Int := (deepTs (l.map fun c => [c])).2
def pathT (xs : List Step) : ByteArray :=
  if 100 < xs.length then ByteArray.empty
  else match pathSt xs with
    | some [p] => if 32 < deepB (bl p.text) then ByteArray.empty else p.text
    | _ => ByteArray.empty

theorem deep_word (t : List UInt8) (h : ∀ c ∈ t, c ≠ 40 ∧ c ≠ 41) (st : Int × Int) (h2 : st.1 ≤ st.2) : (t.map fun c => [c]).foldl deepStep st = st := by
  induction t with
  | nil => rfl
  | cons c t ih =>
    have hc := h c (by simp)
    have : deepStep st [c] = st := by
      simp only [deepStep, List.cons.injEq, and_true, hc.1, hc.2, if_false]
      exact Prod.ext rfl (by simp only []; omega)
    simp only [List.map_cons, List.foldl_cons, this]
    exact ih fun c hc => h c (by simp [hc])
theorem deep_good (ts : List (List UInt8)) : ∀ (st : Int × Int), 0 ≤ st.1 → st.1 ≤ st.2 → GoodTs ts → (ts.flatten.map fun c => [c]).foldl deepStep st = ts.foldl deepStep st := by
  induction ts with
  | nil => intro st _ _ _; rfl
  | cons t ts ih =>
    intro st h1 h2 h
    rw [List.flatten_cons, List.map_append, List.foldl_append, List.foldl_cons]
    have hst : 0 ≤ (deepStep st t).1 ∧ (deepStep st t).1 ≤ (deepStep st t).2 := by
      simp only [deepStep]
      split
      · omega
      · split <;> omega
    have e : (t.map fun c => [c]).foldl deepStep st = deepStep st t := by
      rcases h.head with hw | hm
      · simp only [wordL, Bool.and_eq_true, List.all_eq_true, decide_eq_true_eq] at hw
        have hne : ∀ c ∈ t, c ≠ 40 ∧ c ≠ 41 := by
          intro c hc
          have := hw.2 c hc
          constructor <;> (rintro rfl; exact absurd this (by decide))
        rw [deep_word t hne st h2]
        have h40 : t ≠ [40] := by rintro rfl; exact (hne 40 (by simp)).1 rfl
        have h41 : t ≠ [41] := by rintro rfl; exact (hne 41 (by simp)).2 rfl
        simp only [deepStep, h40, h41, if_false]
        exact Prod.ext rfl (by simp only []; omega)
      · simp only [markL, Bool.and_eq_true, decide_eq_true_eq] at hm
        match t, hm with
        | [c], _ => rfl
    rw [e]
    exact ih _ hst.1 hst.2 h.tail
theorem deepB_good {ts : List (List UInt8)} (h : GoodTs ts) : deepB ts.flatten = (deepTs ts).2 := by
  unfold deepB deepTs
  rw [deep_good ts (0, 0) (by simp) (by simp) h]

theorem good_join {a : List (List UInt8)} {m : List UInt8} {b : List (List UInt8)} (ha : GoodTs a) (hm : markL m = true) (hb : GoodTs b) : GoodTs (a ++ m :: b) := by
  have hmb : GoodTs (m :: b) := by
    cases b with
    | nil => exact .inr hm
    | cons u r => exact ⟨.inl hm, hb⟩
  induction a with
  | nil => exact hmb
  | cons t a ih =>
    cases a with
    | nil =>
      refine ⟨?_, hmb⟩
      rcases ha with h | h
      · exact .inr ⟨h, hm⟩
      · exact .inl h
    | cons u r => exact ⟨ha.1, ih ha.2⟩
def TextOk (s : ByteArray) : Prop := ∃ ts, GoodTs ts ∧ bl s = ts.flatten
theorem bl_append (a b : ByteArray) : bl (a ++ b) = bl a ++ bl b := by simp [bl, ByteArray.data_append]
theorem bl_bytes (l : List UInt8) : bl (bytes l) = l := by simp [bl, bytes]
theorem TextOk.join {a b : ByteArray} {c : UInt8} (ha : TextOk a) (hc : p8 markB c = true) (hb : TextOk b) : TextOk (a ++ bytes [c] ++ b) := by
  obtain ⟨ta, ga, ea⟩ := ha
  obtain ⟨tb, gb, eb⟩ := hb
  refine ⟨ta ++ [c] :: tb, good_join ga (by simp [markL, hc]) gb, ?_⟩
  rw [bl_append, bl_append, bl_bytes, ea, eb]
  simp
theorem TextOk.empty : TextOk ByteArray.empty := ⟨[], trivial, rfl⟩
theorem append_empty (a : ByteArray) : a ++ ByteArray.empty = a := bl_inj (by rw [bl_append]; exact List.append_nil _)
theorem empty_append (a : ByteArray) : ByteArray.empty ++ a = a := bl_inj (by rw [bl_append]; rfl)
theorem TextOk.sign {a : ByteArray} {c : UInt8} (ha : TextOk a) (hc : p8 markB c = true) : TextOk (a ++ bytes [c]) := by
  have := ha.join hc TextOk.empty
  rwa [append_empty] at this
theorem TextOk.least {p : Piece} (h : TextOk p.text) (b : Int) : TextOk (leastT p b) := by
  unfold leastT
  split
  · have h1 := TextOk.empty.join (c := 40) (by decide) h
    rw [empty_append] at h1
    exact h1.sign (by decide)
  · exact h
theorem TextOk.label {x : Step} : TextOk (labelT x) := by
  unfold labelT
  split
  · rename_i hp
    have hw : wordL (bl x.label) = true := by
      rw [← nameB_list]
      simp only [predB, Bool.and_eq_true] at hp
      exact hp.1
    have hl : TextOk x.label := ⟨[bl x.label], .inl hw, by simp⟩
    split
    · have h1 := TextOk.empty.join (c := 94) (by decide) hl
      rwa [empty_append] at h1
    · split
      · exact hl
      · exact .empty
  · exact .empty
theorem size_append (a b : ByteArray) : (a ++ b).size = a.size + b.size := by rw [← bl_len, bl_append, List.length_append, bl_len, bl_len]
theorem size_bytes (l : List UInt8) : (bytes l).size = l.length := by rw [← bl_len, bl_bytes]
theorem size_least (p : Piece) (b : Int) : (leastT p b).size ≤ p.text.size + 2 := by
  unfold leastT
  split
  · rw [size_append, size_append, size_bytes, size_bytes]; simp; omega
  · omega
theorem size_label (x : Step) : (labelT x).size ≤ 41 := by
  unfold labelT
  split
  · rename_i hp
    have h40 : x.label.size ≤ 40 := by simp [predB, nameB] at hp; omega
    split
    · rw [size_append, size_bytes]; simp; omega
    · split
      · omega
      · decide
  · decide
def total (st : List Piece) : Nat := (st.map fun p => p.text.size).sum
theorem total_append (a b : List Piece) : total (a ++ b) = total a + total b := by simp [total]
theorem total_get (st : List Piece) (k : Nat) (hk : k < st.length) : (st.getD k .zero).text.size ≤ total st := by
  have : st.getD k .zero = st[k] := by simp [List.getD_eq_getElem?_getD, List.getElem?_eq_getElem hk]
  rw [this]
  induction st generalizing k with
  | nil => simp at hk
  | cons p st ih =>
    cases k with
    | zero => simp [total]
    | succ k => have := ih k (by simpa using hk) (by simp [List.getD_eq_getElem?_getD, List.getElem?_eq_getElem (show k < st.length by simpa using hk)])
                simp [total] at *; omega
theorem total_last1 (st : List Piece) (h : 1 ≤ st.length) : total (st.take (st.length - 1)) + (st.getD (st.length - 1) .zero).text.size = total st := by
  have e : st.take (st.length - 1) ++ [st.getD (st.length - 1) .zero] = st := by
    have : st.getD (st.length - 1) .zero = st[st.length - 1] := by simp [List.getD_eq_getElem?_getD, List.getElem?_eq_getElem (show st.length - 1 < st.length by omega)]
    rw [this, ← List.take_succ_eq_append_getElem (by omega), List.take_of_length_le (by omega)]
  conv => rhs; rw [← e]
  rw [total_append]; simp [total]
theorem total_last2 (st : List Piece) (h : 2 ≤ st.length) : total (st.take (st.length - 2)) + (st.getD (st.length - 2) .zero).text.size + (st.getD (st.length - 1) .zero).text.size = total st := by
  have h1 := total_last1 st (by omega)
  have h2 := total_last1 (st.take (st.length - 1)) (by rw [List.length_take]; omega)
  have hl : (st.take (st.length - 1)).length = st.length - 1 := by rw [List.length_take]; omega
  rw [hl, List.take_take, Nat.min_eq_left (by omega)] at h2
  have e : (st.take (st.length - 1)).getD (st.length - 1 - 1) .zero = st.getD (st.length - 2) .zero := by
    simp only [List.getD_eq_getElem?_getD, List.getElem?_take]
    rw [if_pos (by omega)]
    rfl
  rw [e, show st.length - 1 - 1 = st.length - 2 by omega] at h2
  omega
def PathInv (st : List Piece) (k : Nat) : Prop := (∀ p ∈ st, TextOk p.text) ∧ total st ≤ 44 * k ∧ st.length ≤ k
theorem ok_get {st : List Piece} (h : ∀ p ∈ st, TextOk p.text) (k : Nat) : TextOk (st.getD k .zero).text := by
  rw [List.getD_eq_getElem?_getD]
  cases hk : st[k]? with
  | none => exact TextOk.empty
  | some p => exact h p (List.mem_of_getElem? hk)
theorem PathInv.step {st st' : List Piece} {k : Nat} {x : Step} (h : PathInv st k) (hs : pathStep st x = some st') : PathInv st' (k + 1) := by
  obtain ⟨h1, h2, h3⟩ := h
  unfold pathStep at hs
  split at hs
  · cases hs
  · split at hs
    · split at hs
      · cases hs
      · injection hs with hs
        subst hs
        refine ⟨fun p hp => ?_, ?_, by simp; omega⟩
        · rcases List.mem_append.1 hp with hp | hp
          · exact h1 p hp
          · simp at hp; subst hp; exact TextOk.label
        · rw [total_append]
          have := size_label x
          simp [total] at *; omega
    · split at hs
      · cases hs
      · rename_i hc
        have hn : 1 ≤ st.length := by simp only [not_or, not_and] at hc; omega
        simp only [] at hs
        split at hs
        · injection hs with hs
          subst hs
          have hn2 : 2 ≤ st.length := by simp only [not_or, not_and] at hc; omega
          refine ⟨fun p hp => ?_, ?_, by simp; omega⟩
          · rcases List.mem_append.1 hp with hp | hp
            · exact h1 p (List.mem_of_mem_take hp)
            · simp at hp; subst hp; exact ((ok_get h1 _).least _).join (c := 47) (by decide) ((ok_get h1 _).least _)
          · have e1 := total_last2 st hn2
            have e2 := size_least (st.getD (st.length - 2) .zero) 2
            have e3 := size_least (st.getD (st.length - 1) .zero) 3
            have e4 : (signT 3).size = 1 := by decide
            rw [total_append]
            simp only [total, List.map_cons, List.map_nil, List.sum_cons, List.sum_nil, size_append, e4] at *
            omega
        · split at hs
          · injection hs with hs
            subst hs
            have hn2 : 2 ≤ st.length := by simp only [not_or, not_and] at hc; omega
            refine ⟨fun p hp => ?_, ?_, by simp; omega⟩
            · rcases List.mem_append.1 hp with hp | hp
              · exact h1 p (List.mem_of_mem_take hp)
              · simp at hp; subst hp; exact (ok_get h1 _).join (c := 124) (by decide) ((ok_get h1 _).least _)
            · have e1 := total_last2 st hn2
              have e3 := size_least (st.getD (st.length - 1) .zero) 2
              have e4 : (signT 4).size = 1 := by decide
              rw [total_append]
              simp only [total, List.map_cons, List.map_nil, List.sum_cons, List.sum_nil, size_append, e4] at *
              omega
          · injection hs with hs
            subst hs
            rename_i hk1 hk2 hk3 hk4
            have hk : x.kind = 5 ∨ x.kind = 6 ∨ x.kind = 7 := by omega
            refine ⟨fun p hp => ?_, ?_, by simp; omega⟩
            · rcases List.mem_append.1 hp with hp | hp
              · exact h1 p (List.mem_of_mem_take hp)
              · simp at hp; subst hp
                rcases hk with hk | hk | hk <;> rw [hk]
                · exact ((ok_get h1 _).least _).sign (c := 42) (by decide)
                · exact ((ok_get h1 _).least _).sign (c := 43) (by decide)
                · exact ((ok_get h1 _).least _).sign (c := 63) (by decide)
            · have e1 := total_last1 st hn
              have e3 := size_least (st.getD (st.length - 1) .zero) 3
              have e4 : (signT x.kind).size = 1 := by rcases hk with hk | hk | hk <;> rw [hk] <;> decide
              rw [total_append]
              simp only [total, List.map_cons, List.map_nil, List.sum_cons, List.sum_nil, size_append, e4] at *
              omega
theorem pathSt_inv {xs : List Step} : ∀ k, k ≤ xs.length → ∀ st, pathSt (xs.take k) = some st → PathInv st k := by
  intro k
  induction k with
  | zero => intro _ st h; injection h with h; subst h; exact ⟨by simp, by simp [total], by simp⟩
  | succ k ih =>
    intro hk st h
    rw [List.take_succ_eq_append_getElem (by omega), pathSt_snoc] at h
    cases hs : pathSt (xs.take k) with
    | none => rw [hs] at h; cases h
    | some st0 =>
      rw [hs] at h
      exact (ih (by omega) st0 hs).step h
end Go.Proofs.An
