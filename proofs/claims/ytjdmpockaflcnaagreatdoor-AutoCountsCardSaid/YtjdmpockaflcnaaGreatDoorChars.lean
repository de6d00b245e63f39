/-
  The program's predicates of bytes.
-/
import Derived.Test.YtjdmpockaflcnaaGreatDoorProg
import Derived.Test.YtjdmpockaflcnaaGreatDoorInts
namespace Go.Proofs.An
open Go.RowKit
def smallB (c : Int) : Bool := decide (97 ≤ c) && decide (c ≤ 122)
def greatB (c : Int) : Bool := decide (65 ≤ c) && decide (c ≤ 90)
def digitB (c : Int) : Bool := decide (48 ≤ c) && decide (c ≤ 57)
def innerB (c : Int) : Bool := smallB c || digitB c || c == 95
def signB (c : Int) : Bool := innerB c || greatB c
/-- A function of bytes that only computes. -/
def ByteFn (f : FuncId) (p : Int → Bool) : Prop := ∀ (c : Int) (w : World), 0 ≤ c → c ≤ 255 → Calls Tryz.prog f #[.int .u8 c] w fun e w' => e = .returned (.bool (p c)) ∧ w = w'
theorem letter_any : ByteFn 206 smallB := by
  intro c w h0 h1
  go_enter Tryz.func206, Tryz.ntmps206
  go_wp2 <;> (go_ret; refine ⟨?_, rfl⟩; simp [smallB]; try omega)
theorem small_any : ByteFn 209 smallB := by
  intro c w h0 h1
  go_enter Tryz.func209, Tryz.ntmps209
  go_wp2 <;> (go_ret; refine ⟨?_, rfl⟩; simp [smallB]; try omega)
theorem great_any : ByteFn 212 greatB := by
  intro c w h0 h1
  go_enter Tryz.func212, Tryz.ntmps212
  go_wp2 <;> (go_ret; refine ⟨?_, rfl⟩; simp [greatB]; try omega)
theorem digit_any : ByteFn 215 digitB := by
  intro c w h0 h1
  go_enter Tryz.func215, Tryz.ntmps215
  go_wp2 <;> (go_ret; refine ⟨?_, rfl⟩; simp [digitB]; try omega)
theorem inner_any : ByteFn 207 innerB := by
  intro c w h0 h1
  go_enter Tryz.func207, Tryz.ntmps207
  go_wp2_with (go_at_call 206; refine (letter_any _ _ (by omega) (by omega)).mono ?_; rintro e w' ⟨rfl, rfl⟩)
  all_goals (go_ret; refine ⟨?_, rfl⟩; simp_all [innerB, digitB]; try omega)
theorem low_any : ByteFn 211 innerB := by
  intro c w h0 h1
  go_enter Tryz.func211, Tryz.ntmps211
  go_wp2_with (first | (go_at_call 209; refine (small_any _ _ (by omega) (by omega)).mono ?_; rintro e w' ⟨rfl, rfl⟩) | (go_at_call 215; refine (digit_any _ _ (by omega) (by omega)).mono ?_; rintro e w' ⟨rfl, rfl⟩))
  all_goals (go_ret; refine ⟨?_, rfl⟩; simp_all [innerB])
theorem sign_any : ByteFn 213 signB := by
  intro c w h0 h1
  go_enter Tryz.func213, Tryz.ntmps213
  go_wp2_with (first | (go_at_call 211; refine (low_any _ _ (by omega) (by omega)).mono ?_; rintro e w' ⟨rfl, rfl⟩) | (go_at_call 212; refine (great_any _ _ (by omega) (by omega)).mono ?_; rintro e w' ⟨rfl, rfl⟩))
  all_goals (go_ret; refine ⟨?_, rfl⟩; simp_all [signB])
end Go.Proofs.An
