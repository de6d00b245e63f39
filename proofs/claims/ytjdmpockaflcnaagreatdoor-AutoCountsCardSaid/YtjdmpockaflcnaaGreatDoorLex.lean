/-
  lex.next and lex.Tokens on texts of words and single marks.
-/
import Derived.Test.YtjdmpockaflcnaaGreatDoorShow1
import Derived.Test.YtjdmpockaflcnaaGreatDoorStd
namespace Go.Proofs.An
open Go.RowKit
/-- The single marks of a path's text. -/
def markB (c : Int) : Bool := c == 40 || c == 41 || c == 47 || c == 124 || c == 42 || c == 43 || c == 63 || c == 94

theorem hasPrefix_no (s p : ByteArray) (w : World) (h : Lib.hasPrefix s.data.toList p.data.toList = false) :
    Calls Tryz.prog 80 #[.string s, .string p] w fun e w' => e = .returned (.bool false) ∧ w = w' :=
  (Tryz.strings_HasPrefix s p w).mono fun _ _ ⟨he, hw⟩ => ⟨by rw [he, h], hw.symm⟩
theorem indexByte_any (s : ByteArray) (c : Int) (w : World) :
    Calls Tryz.prog 190 #[.string s, .int .u8 c] w fun e w' => e = .returned (.int .i64 (Lib.indexByte s.data.toList c.toNat.toUInt8)) ∧ w = w' :=
  (Tryz.strings_IndexByte s c w).mono fun _ _ ⟨he, hw⟩ => ⟨he, hw.symm⟩
theorem data_len (s : ByteArray) : s.data.toList.length = s.size := by rw [Array.length_toList]; rfl
theorem byteAt_list (s : ByteArray) (k : Nat) : byteAt s k = ((s.data.toList.getD k 0).toNat : Int) := by
  unfold byteAt
  split
  · rename_i h
    have h' : k < s.data.toList.length := by rw [data_len]; exact h
    rw [List.getD_eq_getElem?_getD, List.getElem?_eq_getElem h']
    simp
    rfl
  · rename_i h
    have h' : s.data.toList.length ≤ k := by rw [data_len]; omega
    rw [List.getD_eq_getElem?_getD, List.getElem?_eq_none h']
    rfl
/-- A text that begins otherwise. -/
theorem hasPrefix_head (s : ByteArray) (a b : UInt8) (h : byteAt s 0 ≠ (a.toNat : Int) ∨ byteAt s 1 ≠ (b.toNat : Int)) : Lib.hasPrefix s.data.toList [a, b] = false := by
  rw [byteAt_list, byteAt_list] at h
  unfold Lib.hasPrefix
  match hs : s.data.toList, h with
  | [], _ => rfl
  | [x], _ => simp [List.isPrefixOf]
  | x :: y :: l, h =>
    simp only [List.getD_cons_zero, List.getD_cons_succ] at h
    simp only [List.isPrefixOf, Bool.and_true]
    rcases h with h | h
    · have : a ≠ x := fun e => h (by rw [e])
      simp [this]
    · have : b ≠ y := fun e => h (by rw [e])
      simp [this]
structure Tok where
  kind : Int
  text : ByteArray
  place : Int
instance encTok : Enc Tok where
  n := 3
  dflt := ⟨0, ByteArray.empty, 0⟩
  rep _ _ cs x := cs = [.int .i64 x.kind, .string x.text, .int .i64 x.place] ∧ x.text.size ≤ maxLen
  rep_len h := by rw [h.1]; rfl
  rep_ext _ h := h
instance : Enc1 Tok where pos := by decide
instance : Flat Tok where flat h := h

set_option maxRecDepth 100000 in
set_option maxHeartbeats 1600000 in
theorem next_word (s : ByteArray) (pl : Int) (w : World) (hs : s.size ≤ maxLen) (h0 : 0 < s.size) (hc : smallB (byteAt s 0) = true) (hn : nameB (s.extract 0 (runOf innerB s)) = true) :
    Calls Tryz.prog 191 #[.string s, .int .i64 pl] w fun e w' => e = .returned (.agg #[.int .i64 1, .string (s.extract 0 (runOf innerB s)), .int .i64 pl]) ∧ Ext No w w' := by
  have hb := byteAt_range s 0
  have hb0 := byteAt_eq s 0 h0
  have hr := runFrom_le innerB s s.size 0
  have hr : runOf innerB s ≤ s.size := hr
  have hse : (s.extract 0 (runOf innerB s)).size ≤ maxLen := by simp; omega
  have hrun := run_any 211 innerB low_any enter_low s
  unfold maxLen at hs
  have HR := Lib.hid hrun; clear hrun
  have HSE := Lib.hid hse; clear hse
  go_enter Tryz.func191, Tryz.ntmps191
  go_wp2_with (first
    | (go_at_call 209; refine (small_any _ _ (by omega) (by omega)).mono ?_; rintro e w' ⟨rfl, rfl⟩)
    | (go_at_call 210; refine (HR.out _ hs).mono ?_; rintro e w' ⟨rfl, rfl⟩)
    | (go_at_call 187; refine (name_any _ _ HSE.out).mono ?_; rintro e w' ⟨rfl, rfl⟩))
  refine bodyPost_ret (v := .agg #[.int .i64 1, .string (s.extract 0 (runOf innerB s)), .int .i64 pl]) (by simp [results, Tryz.results191, go_sem]) rfl ⟨rfl, ?_⟩
  exact Ext.alloc (Ext.refl _ _) _
theorem mark_cases {c : Int} (h : markB c = true) : c = 40 ∨ c = 41 ∨ c = 47 ∨ c = 124 ∨ c = 42 ∨ c = 43 ∨ c = 63 ∨ c = 94 := by
  simp [markB] at h
  omega
theorem index_mark (s : ByteArray) (w : World) (h : markB (byteAt s 0) = true) :
    Calls Tryz.prog 190 #[.string ⟨#[40, 41, 44, 46, 60, 61, 47, 124, 42, 43, 63, 94]⟩, .int .u8 (byteAt s 0)] w fun e w' => (∃ q : Int, e = .returned (.int .i64 q) ∧ 0 ≤ q) ∧ w = w' := by
  refine (indexByte_any _ _ _).mono ?_
  rintro e w' ⟨rfl, rfl⟩
  refine ⟨⟨_, rfl, ?_⟩, rfl⟩
  rcases mark_cases h with h | h | h | h | h | h | h | h <;> rw [h] <;> decide
set_option maxRecDepth 100000 in
set_option maxHeartbeats 1600000 in
theorem next_mark (s : ByteArray) (pl : Int) (w : World) (hs : s.size ≤ maxLen) (h0 : 0 < s.size) (hc : markB (byteAt s 0) = true) (hq : byteAt s 0 = 63 → byteAt s 1 ≠ 45) :
    Calls Tryz.prog 191 #[.string s, .int .i64 pl] w fun e w' => e = .returned (.agg #[.int .i64 4, .string (s.extract 0 1), .int .i64 pl]) ∧ Ext No w w' := by
  have hb := byteAt_range s 0
  have hb0 := byteAt_eq s 0 h0
  have hm := mark_cases hc
  have c1 : smallB (byteAt s 0) = false := by rcases hm with h | h | h | h | h | h | h | h <;> rw [h] <;> decide
  have c2 : greatB (byteAt s 0) = false := by rcases hm with h | h | h | h | h | h | h | h <;> rw [h] <;> decide
  have c3 : digitB (byteAt s 0) = false := by rcases hm with h | h | h | h | h | h | h | h <;> rw [h] <;> decide
  have c4 : (byteAt s 0 == 35) = false := by rcases hm with h | h | h | h | h | h | h | h <;> rw [h] <;> decide
  have c5 : (byteAt s 0 == 45) = false := by rcases hm with h | h | h | h | h | h | h | h <;> rw [h] <;> decide
  have p1 := Lib.hid (hasPrefix_head s 60 61 (.inl (by rcases hm with h | h | h | h | h | h | h | h <;> rw [h] <;> decide)))
  have p2 := Lib.hid (hasPrefix_head s 33 61 (.inl (by rcases hm with h | h | h | h | h | h | h | h <;> rw [h] <;> decide)))
  have p3 := Lib.hid (hasPrefix_head s 58 45 (.inl (by rcases hm with h | h | h | h | h | h | h | h <;> rw [h] <;> decide)))
  have p4 := Lib.hid (hasPrefix_head s 63 45 (by
    by_cases h : byteAt s 0 = 63
    · exact .inr (hq h)
    · exact .inl h))
  have HC := Lib.hid hc
  clear hc hm hq
  unfold maxLen at hs
  go_enter Tryz.func191, Tryz.ntmps191
  go_wp2_with (first
    | (go_at_call 209; refine (small_any _ _ (by omega) (by omega)).mono ?_; rintro e w' ⟨rfl, rfl⟩)
    | (go_at_call 212; refine (great_any _ _ (by omega) (by omega)).mono ?_; rintro e w' ⟨rfl, rfl⟩)
    | (go_at_call 215; refine (digit_any _ _ (by omega) (by omega)).mono ?_; rintro e w' ⟨rfl, rfl⟩)
    | (go_at_call 80; refine (hasPrefix_no s ⟨#[60, 61]⟩ _ p1.out).mono ?_; rintro e w' ⟨rfl, rfl⟩)
    | (go_at_call 80; refine (hasPrefix_no s ⟨#[33, 61]⟩ _ p2.out).mono ?_; rintro e w' ⟨rfl, rfl⟩)
    | (go_at_call 80; refine (hasPrefix_no s ⟨#[58, 45]⟩ _ p3.out).mono ?_; rintro e w' ⟨rfl, rfl⟩)
    | (go_at_call 80; refine (hasPrefix_no s ⟨#[63, 45]⟩ _ p4.out).mono ?_; rintro e w' ⟨rfl, rfl⟩)
    | (go_at_call 190; refine (index_mark s _ HC.out).mono ?_; rintro e w' ⟨⟨q, rfl, hq⟩, rfl⟩))
  refine bodyPost_ret (v := .agg #[.int .i64 4, .string (s.extract 0 1), .int .i64 pl]) (by simp [results, Tryz.results191, go_sem]) rfl ⟨rfl, ?_⟩
  exact Ext.alloc (Ext.refl _ _) _
end Go.Proofs.An
