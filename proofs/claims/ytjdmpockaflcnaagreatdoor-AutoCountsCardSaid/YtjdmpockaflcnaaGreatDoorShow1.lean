/-
  lex.Key, show.predicate, lex.run, show.label, (show.piece).least.
-/
import Derived.Test.YtjdmpockaflcnaaGreatDoorName
namespace Go.Proofs.An
open Go.RowKit
def keyB (s : ByteArray) : Bool :=
  s.toList == [110, 111, 116] || s.toList == [105, 115] || s.toList == [112, 108, 117, 115] || s.toList == [109, 105, 110, 117, 115] || s.toList == [116, 105, 109, 101, 115] || s.toList == [119, 97, 108, 107] ||
  s.toList == [99, 111, 117, 110, 116] || s.toList == [115, 117, 109] || s.toList == [109, 105, 110] || s.toList == [109, 97, 120] || s.toList == [109, 101, 97, 110]
set_option maxRecDepth 100000 in
set_option maxHeartbeats 800000 in
theorem key_any (s : ByteArray) (w : World) :
    Calls Tryz.prog 188 #[.string s] w fun e w' => e = .returned (.bool (keyB s)) ∧ w = w' := by
  go_enter Tryz.func188, Tryz.ntmps188
  go_wp2
  all_goals (go_ret; exact ⟨ret_bool (by simp_all [keyB]), rfl⟩)
def predB (s : ByteArray) : Bool := nameB s && !keyB s
theorem predicate_any (s : ByteArray) (w : World) (hs : s.size ≤ maxLen) :
    Calls Tryz.prog 156 #[.string s] w fun e w' => e = .returned (.bool (predB s)) ∧ w = w' := by
  go_enter Tryz.func156, Tryz.ntmps156
  go_wp2_with (first | (go_at_call 187; refine (name_any _ _ hs).mono ?_; rintro e w' ⟨rfl, rfl⟩) | (go_at_call 188; refine (key_any _ _).mono ?_; rintro e w' ⟨rfl, rfl⟩))
  all_goals (go_ret; exact ⟨ret_bool (by simp_all [predB]), rfl⟩)

/-- How many bytes from place k on are so, one behind the other, at most n. -/
def runFrom (p : Int → Bool) (s : ByteArray) (k : Nat) : Nat → Nat
  | 0 => 0
  | n + 1 => if p (byteAt s k) then runFrom p s (k + 1) n + 1 else 0
theorem runFrom_le (p : Int → Bool) (s : ByteArray) (n : Nat) : ∀ k, runFrom p s k n ≤ n := by
  induction n with
  | zero => intro k; simp [runFrom]
  | succ n ih => intro k; simp only [runFrom]; split
                 · have := ih (k + 1); omega
                 · omega
def runOf (p : Int → Bool) (s : ByteArray) : Nat := runFrom p s 0 s.size
set_option maxRecDepth 100000 in
set_option maxHeartbeats 800000 in
theorem run_any (f : FuncId) (p : Int → Bool) (hp : ByteFn f p) (hf : ∀ args W, (callFunc f args).run Tryz.prog W = .ok (.enter f args) W) (s : ByteArray) (w : World) (hs : s.size ≤ maxLen) :
    Calls Tryz.prog 210 #[.string s, .func (.func f) #[] #[]] w fun e w' => e = .returned (.int .i64 (runOf p s)) ∧ w = w' := by
  unfold maxLen at hs
  have HP := Lib.hid hp
  clear hp
  go_enter Tryz.func210, Tryz.ntmps210
  go_wp2
  go_loop [5] (fun i => ∃ k : Nat, k ≤ s.size ∧ i = .int .i64 k ∧ Hid (k + runFrom p s k (s.size - k) = runOf p s)) (fun i => s.size - (intOf i).toNat)
  case atStart => exact ⟨0, Nat.zero_le _, rfl, by show _ = _; simp [runOf]⟩
  case round =>
    obtain ⟨k, hk, rfl, hrun⟩ := hrel
    by_cases hlt : k < s.size
    · have hbk := byteAt_range s k
      have hbk0 := byteAt_eq s k hlt
      go_wp2_with (first | (refine (HP.out _ _ (by omega) (by omega)).mono ?_; rintro e w' ⟨rfl, rfl⟩))
      · rename_i hin
        refine ⟨⟨k + 1, by omega, by go_num, ?_⟩, by simp [intOf]; omega⟩
        have := hrun.out
        rw [show s.size - k = (s.size - (k + 1)) + 1 from by omega] at this
        simp only [runFrom, hin, if_true] at this
        show _ = _
        omega
      · rename_i hin
        go_ret
        have := hrun.out
        rw [show s.size - k = (s.size - (k + 1)) + 1 from by omega] at this
        simp only [runFrom, hin] at this
        simp at this
        exact ⟨ret_int (by omega), rfl⟩
    · go_wp2
      go_ret
      have : k = s.size := by omega
      subst this
      have := hrun.out
      simp [runFrom] at this
      exact ⟨ret_int (by omega), rfl⟩
theorem enter_low (args : Array Value) (W : World) : (callFunc 211 args).run Tryz.prog W = .ok (.enter 211 args) W := by kernel_rfl
theorem enter_sign (args : Array Value) (W : World) : (callFunc 213 args).run Tryz.prog W = .ok (.enter 213 args) W := by kernel_rfl

def bytes (l : List UInt8) : ByteArray := ⟨l.toArray⟩
def labelT (x : Step) : ByteArray :=
  if predB x.label then (if x.kind = 2 then bytes [94] ++ x.label else if x.kind = 1 then x.label else ByteArray.empty) else ByteArray.empty
set_option maxRecDepth 100000 in
set_option maxHeartbeats 800000 in
theorem label_any (x : Step) (w : World) (hs : x.label.size ≤ maxLen) :
    Calls Tryz.prog 123 #[.agg #[.int .i64 x.kind, .string x.label]] w fun e w' => e = .returned (.string (labelT x)) ∧ Ext No w w' := by
  obtain ⟨kd, lb⟩ := x
  have hs : lb.size ≤ maxLen := hs
  by_cases hp : predB lb = true
  · have h40 : lb.size ≤ 40 := by simp [predB, nameB] at hp; omega
    go_enter Tryz.func123, Tryz.ntmps123
    go_wp2_with (first | (go_at_call 156; refine (predicate_any _ _ hs).mono ?_; rintro e w' ⟨rfl, rfl⟩))
    all_goals (go_ret; refine ⟨ret_str ?_, Ext.alloc (Ext.refl _ _) _⟩)
    all_goals (simp_all [labelT, bytes]; try rfl)
  · have hp : predB lb = false := by simpa using hp
    go_enter Tryz.func123, Tryz.ntmps123
    go_wp2_with (first | (go_at_call 156; refine (predicate_any _ _ hs).mono ?_; rintro e w' ⟨rfl, rfl⟩))
    all_goals (go_ret; refine ⟨ret_str ?_, Ext.alloc (Ext.refl _ _) _⟩)
    all_goals (simp_all [labelT]; try rfl)
structure Piece where
  text : ByteArray
  binds : Int
def leastT (p : Piece) (b : Int) : ByteArray := if p.binds < b then bytes [40] ++ p.text ++ bytes [41] else p.text
set_option maxRecDepth 100000 in
set_option maxHeartbeats 800000 in
theorem least_any (p : Piece) (b : Int) (w : World) (hs : p.text.size ≤ 1000000) :
    Calls Tryz.prog 124 #[.agg #[.string p.text, .int .i64 p.binds], .int .i64 b] w fun e w' => e = .returned (.string (leastT p b)) ∧ Ext No w w' := by
  obtain ⟨tx, bd⟩ := p
  have hs : tx.size ≤ 1000000 := hs
  go_enter Tryz.func124, Tryz.ntmps124
  go_wp2
  all_goals (go_ret; refine ⟨ret_str ?_, Ext.alloc (Ext.refl _ _) _⟩)
  · rename_i h
    simp only [leastT]
    rw [if_pos h]
    rfl
  · rename_i h
    simp only [leastT]
    rw [if_neg (by omega)]
end Go.Proofs.An
