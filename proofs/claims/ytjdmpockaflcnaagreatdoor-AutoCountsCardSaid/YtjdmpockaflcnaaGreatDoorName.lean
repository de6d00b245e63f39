/-
  value.Name, lex.Key, show.predicate, lex.run, lex.Variable.
-/
import Derived.Test.YtjdmpockaflcnaaGreatDoorChars
namespace Go.Proofs.An
open Go.RowKit
def byteAt (s : ByteArray) (k : Nat) : Int := if h : k < s.size then (s[k].toNat : Int) else 0
theorem byteAt_eq (s : ByteArray) (k : Nat) (h : k < s.size) : (s[k].toNat : Int) = byteAt s k := by simp [byteAt, h]
theorem byteAt_range (s : ByteArray) (k : Nat) : 0 ≤ byteAt s k ∧ byteAt s k ≤ 255 := by
  unfold byteAt
  split
  · rename_i h
    have := s[k].toNat_lt
    omega
  · omega
def allTo (p : Int → Bool) (s : ByteArray) : Nat → Bool
  | 0 => true
  | k + 1 => allTo p s k && p (byteAt s k)
theorem allTo_false {p : Int → Bool} {s : ByteArray} {k n : Nat} (h : allTo p s k = false) (hk : k ≤ n) : allTo p s n = false := by
  induction n with
  | zero => obtain rfl : k = 0 := by omega
            exact h
  | succ n ih =>
    rcases Nat.lt_or_ge k (n + 1) with hlt | hge
    · simp [allTo, ih (by omega)]
    · obtain rfl : k = n + 1 := by omega
      exact h
theorem toList_size (s : ByteArray) : s.toList.length = s.size := by
  rw [ByteArray.toList_eq]; rfl
theorem ne_of_pos {s : ByteArray} (h : 0 < s.size) : ¬ s.toList = [] := by
  intro e
  have := toList_size s
  rw [e] at this
  simp at this
  omega
theorem empty_of_pos {s : ByteArray} (h : 0 < s.size) : s.toList.isEmpty = false := by
  have := ne_of_pos h
  cases hl : s.toList with
  | nil => exact absurd hl this
  | cons a l => rfl
theorem ret_bool {a b : Bool} (h : a = b) : Ending.returned (.bool a) = .returned (.bool b) := by rw [h]
theorem ret_int {a b : Int} (h : a = b) : Ending.returned (.int .i64 a) = .returned (.int .i64 b) := by rw [h]
theorem ret_str {a b : ByteArray} (h : a = b) : Ending.returned (.string a) = .returned (.string b) := by rw [h]
def nameB (s : ByteArray) : Bool := decide (0 < s.size) && decide (s.size ≤ 40) && smallB (byteAt s 0) && allTo innerB s s.size
set_option maxRecDepth 100000 in
set_option maxHeartbeats 400000 in
theorem name_any (s : ByteArray) (w : World) (hs : s.size ≤ maxLen) :
    Calls Tryz.prog 187 #[.string s] w fun e w' => e = .returned (.bool (nameB s)) ∧ w = w' := by
  unfold maxLen at hs
  by_cases hc : 0 < s.size ∧ s.size ≤ 40 ∧ smallB (byteAt s 0) = true
  · obtain ⟨h0, h40, hsm⟩ := hc
    have hb := byteAt_range s 0
    have hb0 := byteAt_eq s 0 h0
    have he1 := ne_of_pos h0
    have he2 := empty_of_pos h0
    go_enter Tryz.func187, Tryz.ntmps187
    go_wp2
    go_step3
    go_wp2_with (first | (go_at_call 206; refine (letter_any _ _ (by omega) (by omega)).mono ?_; rintro e w' ⟨rfl, rfl⟩))
    go_step3
    go_wp2
    go_loop [3, 20] (fun t i => ∃ k : Nat, k ≤ s.size ∧ i = .int .i64 k ∧ t = .bool true ∧ Hid (allTo innerB s k = true)) (fun _ i => s.size - (intOf i).toNat)
    case atStart => exact ⟨0, Nat.zero_le _, rfl, rfl, rfl⟩
    case round =>
      obtain ⟨k, hk, rfl, rfl, hall⟩ := hrel
      by_cases hlt : k < s.size
      · have hbk := byteAt_range s k
        have hbk0 := byteAt_eq s k hlt
        go_wp2_with (first | (go_at_call 207; refine (inner_any _ _ (by omega) (by omega)).mono ?_; rintro e w' ⟨rfl, rfl⟩))
        · rw [Exit.noGoto_ret]
          go_ret
          refine ⟨ret_bool ?_, rfl⟩
          rename_i hin
          have hin : innerB (byteAt s k) = false := by simpa using hin
          rw [hin]
          have := allTo_false (p := innerB) (s := s) (k := k + 1) (n := s.size) (by simp [allTo, hin]) hlt
          simp [nameB, this]
        · rename_i hin
          have hin : innerB (byteAt s k) = true := by simpa using hin
          refine ⟨⟨k + 1, by omega, by go_num, by rw [hin], ?_⟩, by simp [intOf]; omega⟩
          show _ = _
          simp [allTo, hin, hall.out]
      · have : k = s.size := by omega
        subst this
        go_wp2
        go_ret
        refine ⟨ret_bool ?_, rfl⟩
        simp [nameB, hall.out, h0, h40, hsm]
  · have hf : nameB s = false := by
      simp only [nameB]
      simp only [Bool.and_eq_false_iff, decide_eq_false_iff_not]
      by_cases h1 : 0 < s.size
      · by_cases h2 : s.size ≤ 40
        · exact .inl (.inr (by simpa using fun h3 => hc ⟨h1, h2, h3⟩))
        · exact .inl (.inl (.inr h2))
      · exact .inl (.inl (.inl h1))
    have hf := Lib.hid hf
    rcases Nat.eq_zero_or_pos s.size with h0 | h0
    · have he : s.toList = [] := List.eq_nil_of_length_eq_zero (by rw [toList_size, h0])
      have he2 : s.toList.isEmpty = true := by rw [he]; rfl
      have h0 := Lib.hid h0
      go_enter Tryz.func187, Tryz.ntmps187
      go_wp2
      go_step3
      go_wp2
      rw [Exit.noGoto_ret]
      go_ret
      exact ⟨ret_bool hf.out.symm, rfl⟩
    · have hb := byteAt_range s 0
      have hb0 := byteAt_eq s 0 h0
      have he1 := ne_of_pos h0
      have he2 := empty_of_pos h0
      have hc2 := Lib.hid hc
      clear hc
      by_cases h40 : s.size ≤ 40
      · have hsm : smallB (byteAt s 0) = false := by simpa using fun h3 => hc2.out ⟨h0, h40, h3⟩
        go_enter Tryz.func187, Tryz.ntmps187
        go_wp2
        go_step3
        go_wp2_with (first | (go_at_call 206; refine (letter_any _ _ (by omega) (by omega)).mono ?_; rintro e w' ⟨rfl, rfl⟩))
        try rw [Exit.noGoto_ret]
        go_ret
        exact ⟨ret_bool hf.out.symm, rfl⟩
      · go_enter Tryz.func187, Tryz.ntmps187
        go_wp2
        go_step3
        go_wp2
        try rw [Exit.noGoto_ret]
        go_ret
        exact ⟨ret_bool hf.out.symm, rfl⟩
end Go.Proofs.An
