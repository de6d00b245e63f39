/-
  Texts of words and marks, as lists of bytes. No program.
-/
import Derived.Test.YtjdmpockaflcnaaGreatDoorLex
namespace Go.Proofs.An
open Go.RowKit
abbrev bl (s : ByteArray) : List UInt8 := s.data.toList
theorem bl_len (s : ByteArray) : (bl s).length = s.size := data_len s
def p8 (p : Int → Bool) (c : UInt8) : Bool := p (c.toNat : Int)
theorem byteAt_bl (s : ByteArray) (k : Nat) : byteAt s k = (((bl s).getD k 0).toNat : Int) := byteAt_list s k
theorem drop_cons {l : List UInt8} {k : Nat} (h : k < l.length) : l.drop k = l.getD k 0 :: l.drop (k + 1) := by
  rw [List.drop_eq_getElem_cons h, List.getD_eq_getElem?_getD, List.getElem?_eq_getElem h]; rfl
theorem runFrom_list (p : Int → Bool) (s : ByteArray) (n : Nat) : ∀ k, k + n = (bl s).length → runFrom p s k n = (((bl s).drop k).takeWhile (p8 p)).length := by
  induction n with
  | zero => intro k hk; rw [List.drop_eq_nil_of_le (by omega)]; rfl
  | succ n ih =>
    intro k hk
    rw [drop_cons (by omega)]
    simp only [runFrom, byteAt_bl, List.takeWhile_cons]
    unfold p8
    split
    · rw [ih (k + 1) (by omega)]; rfl
    · rfl
theorem runOf_list (p : Int → Bool) (s : ByteArray) : runOf p s = ((bl s).takeWhile (p8 p)).length := by
  unfold runOf
  rw [runFrom_list p s s.size 0 (by rw [data_len]; omega), List.drop_zero]
theorem allTo_list (p : Int → Bool) (s : ByteArray) (n : Nat) : n ≤ (bl s).length → allTo p s n = ((bl s).take n).all (p8 p) := by
  induction n with
  | zero => intro _; simp [allTo]
  | succ n ih =>
    intro hn
    simp only [allTo, ih (by omega), byteAt_bl]
    rw [List.take_succ_eq_append_getElem (by omega), List.all_append]
    simp [p8, List.getD_eq_getElem?_getD, List.getElem?_eq_getElem (show n < (bl s).length by omega)]
def wordL (l : List UInt8) : Bool := decide (0 < l.length) && decide (l.length ≤ 40) && p8 smallB (l.getD 0 0) && l.all (p8 innerB)
def markL (l : List UInt8) : Bool := decide (l.length = 1) && p8 markB (l.getD 0 0)
theorem nameB_list (s : ByteArray) : nameB s = wordL (bl s) := by
  unfold nameB wordL
  rw [allTo_list _ _ _ (by rw [data_len]; exact Nat.le_refl _), byteAt_bl, ← data_len, List.take_length]
  rfl
/-- Words and marks, no word behind a word. -/
def GoodTs : List (List UInt8) → Prop
  | [] => True
  | [t] => wordL t = true ∨ markL t = true
  | t :: u :: r => (markL t = true ∨ wordL t = true ∧ markL u = true) ∧ GoodTs (u :: r)
theorem GoodTs.tail {t : List UInt8} {r : List (List UInt8)} (h : GoodTs (t :: r)) : GoodTs r := by
  cases r with
  | nil => trivial
  | cons u r => exact h.2
theorem GoodTs.head {t : List UInt8} {r : List (List UInt8)} (h : GoodTs (t :: r)) : wordL t = true ∨ markL t = true := by
  cases r with
  | nil => exact h
  | cons u r => rcases h.1 with h | h
                · exact .inr h
                · exact .inl h.1
theorem GoodTs.pos {ts : List (List UInt8)} (h : GoodTs ts) : ∀ t ∈ ts, 0 < t.length := by
  induction ts with
  | nil => simp
  | cons t r ih =>
    intro x hx
    rcases List.mem_cons.1 hx with rfl | hx
    · rcases h.head with h | h
      · simp [wordL] at h; omega
      · simp [markL] at h; omega
    · exact ih h.tail x hx
theorem mark_not_inner {c : UInt8} (h : p8 markB c = true) : p8 innerB c = false := by
  unfold p8 at *
  rcases mark_cases h with h | h | h | h | h | h | h | h <;> rw [h] <;> decide
theorem mark_not_small {c : UInt8} (h : p8 markB c = true) : p8 smallB c = false := by
  unfold p8 at *
  rcases mark_cases h with h | h | h | h | h | h | h | h <;> rw [h] <;> decide
/-- A word that is followed by a mark, or by nothing, is as long as the run. -/
theorem word_run {t : List UInt8} {r : List (List UInt8)} (h : GoodTs (t :: r)) (hw : wordL t = true) : (t ++ r.flatten).takeWhile (p8 innerB) = t := by
  have hall : ∀ c ∈ t, p8 innerB c = true := by
    simp [wordL] at hw
    exact hw.2
  rw [List.takeWhile_append_of_pos hall]
  have : r.flatten.takeWhile (p8 innerB) = [] := by
    cases r with
    | nil => rfl
    | cons u r =>
      have hm : markL u = true := by
        rcases h.1 with h | h
        · exfalso
          simp only [wordL, markL, Bool.and_eq_true, decide_eq_true_eq] at hw h
          have := mark_not_small h.2
          rw [hw.1.2] at this
          exact absurd this (by decide)
        · exact h.2
      simp only [markL, Bool.and_eq_true, decide_eq_true_eq] at hm
      match u, hm with
      | [c], hm =>
        simp only [List.getD_cons_zero] at hm
        simp [List.flatten, mark_not_inner hm.2]
  rw [this, List.append_nil]
theorem good_head {ts : List (List UInt8)} (h : GoodTs ts) : ts.flatten.getD 0 0 ≠ 45 := by
  cases ts with
  | nil => decide
  | cons t r =>
    have hp := h.pos t (by simp)
    have e : (t :: r).flatten.getD 0 0 = t.getD 0 0 := by
      match t, hp with
      | c :: t, _ => rfl
    rw [e]
    intro h45
    rcases h.head with h | h
    · simp only [wordL, Bool.and_eq_true] at h
      have := h.1.2
      rw [h45] at this
      exact absurd this (by decide)
    · simp only [markL, Bool.and_eq_true] at h
      have := h.2
      rw [h45] at this
      exact absurd this (by decide)
theorem mark_next {t : List UInt8} {r : List (List UInt8)} (h : GoodTs (t :: r)) (hm : markL t = true) : (t ++ r.flatten).getD 1 0 ≠ 45 := by
  have := good_head h.tail
  simp only [markL, Bool.and_eq_true, decide_eq_true_eq] at hm
  match t, hm with
  | [c], _ => exact this
theorem take_all {ts : List (List UInt8)} (h : GoodTs ts) {j : Nat} (hj : j ≤ ts.length) (hl : ts.flatten.length ≤ (ts.take j).flatten.length) : ts.take j = ts := by
  rcases Nat.lt_or_ge j ts.length with hlt | hge
  · exfalso
    have e : ts = ts.take j ++ ts.drop j := (List.take_append_drop j ts).symm
    have h2 : ts.flatten.length = (ts.take j).flatten.length + (ts.drop j).flatten.length := by
      rw [← List.length_append, ← List.flatten_append, List.take_append_drop]
    have hp := h.pos ts[j] (List.getElem_mem hlt)
    rw [List.drop_eq_getElem_cons hlt, List.flatten_cons, List.length_append] at h2
    omega
  · exact List.take_of_length_le hge
theorem GoodTs.drop {ts : List (List UInt8)} (h : GoodTs ts) (j : Nat) : GoodTs (ts.drop j) := by
  induction j generalizing ts with
  | zero => exact h
  | succ j ih =>
    cases ts with
    | nil => trivial
    | cons t r => exact ih h.tail
theorem flatten_drop (ts : List (List UInt8)) (j : Nat) : ts.flatten.drop (ts.take j).flatten.length = (ts.drop j).flatten := by
  conv => lhs; rw [← List.take_append_drop j ts, List.flatten_append]
  rw [List.take_append_drop]
  simp
theorem bl_extract (s : ByteArray) (a b : Nat) : bl (s.extract a b) = ((bl s).take b).drop a := by
  rw [bl, ByteArray.data_extract, Array.toList_extract, List.extract_eq_take_drop, List.drop_take]
theorem bl_inj {a b : ByteArray} (h : bl a = bl b) : a = b := by
  cases a; cases b
  congr
  exact Array.toList_inj.1 h
end Go.Proofs.An
