import Derived.Test.YtjdmpockaflcnaaGreatDoorStd
namespace Go.Proofs.An
open Go.RowKit
set_option maxRecDepth 100000 in
set_option maxHeartbeats 400000 in
theorem both_aux (M : Nat → Prop) (w : World) (v1 v2 : Value) (xs ys : List Int) (n m : Nat) (hn : Hid (xs.length = n)) (hm : Hid (ys.length = m)) (h1 : Sl M w v1 xs) (h2 : Sl M w v2 ys) (hb : n + m ≤ 1000000) (hc : m ≤ 0 ∨ 0 < m) :
    Calls Tryz.prog 31 #[v1, v2] w fun e w' => ∃ v, e = .returned v ∧ v ≠ .slice none 0 0 ∧ Ext No w w' ∧ Own 3 w.heap.size (fun b => v.ownBlock = some b) w' v (xs ++ ys) ∧ (∀ b, v.ownBlock = some b → w.heap.size ≤ b) := by
  have l1 : ∀ (ty : TypeId) (W : World), (Builtin.len_ #[24] ty #[v1]).run Tryz.prog W = .ok (.int .i64 (n : Int)) W := by rw [← hn.out]; exact h1.len_rule (P := Tryz.prog) 24 (by kernel_rfl)
  have l2 : ∀ (ty : TypeId) (W : World), (Builtin.len_ #[24] ty #[v2]).run Tryz.prog W = .ok (.int .i64 (m : Int)) W := by rw [← hm.out]; exact h2.len_rule (P := Tryz.prog) 24 (by kernel_rfl)
  have hmk := make_ints (P := Tryz.prog) 24 3 8 (by kernel_rfl) (by kernel_rfl) (n + m) ((n : Int) + m) (by omega) (by omega) (by decide)
  have hz3 : (Tryz.prog.info? 3).map (·.size) = some 1 := by kernel_rfl
  go_enter Tryz.func31, Tryz.ntmps31
  rcases hc with hc | hc
  all_goals
    go_wp2_with (first
      | (refine wpl_copy_ints (M := M) (.tmp 12) (.tmp 13) 24 rfl rfl 3 Tryz.underlying24 hz3 _ _ _ v1 xs rfl rfl (h1.ext (Ext.alloc (Ext.refl _ _) _)) w.heap.size 0 _ (heap_alloc_new _ _) (fun _ => rfl) ?_ ?_ ?_; (have := hn.out; omega); (have := hn.out; rw [zeros_length]; omega); intro w1 hg1 hx1; have hE1 : Ext No w w1 := (Ext.alloc (Ext.refl _ _) _).then hx1 (fun x hx e => (Nat.lt_irrefl _ (e ▸ hx)).elim))
      | (refine wpl_copy_ints (M := M) (.tmp 18) (.tmp 19) 24 rfl rfl 3 Tryz.underlying24 hz3 _ _ _ v2 ys rfl rfl (h2.ext hE1.any) w.heap.size n _ hg1.out ?_ ?_ ?_ ?_; (have := hm.out; intro hp; first | rfl | omega); (have := hm.out; omega); (have e1 := hn.out; have e2 := hm.out; rw [splice_length _ _ _ (by rw [zeros_length]; omega), zeros_length]; omega); intro w2 hg2 hx2))
    go_ret
    refine ⟨_, rfl, (fun h => by cases h), hE1.then hx2 (fun x hx e => (Nat.lt_irrefl _ (e ▸ hx)).elim), ?_, fun b hb => by simp [Value.ownBlock] at hb; omega⟩
    have hg := hg2.out
    have e1 := hn.out
    have e2 := hm.out
    subst e1 e2
    rw [splice2] at hg
    have := Own.of_ints (M := fun b => w.heap.size = b) hg (Nat.le_refl _) rfl (cap := xs.length + ys.length) (by simp only [maxLen]; omega) (by simp) (xs ++ ys) [] (by simp)
    simpa [Value.ownBlock] using this
theorem both_any (M : Nat → Prop) (w : World) (v1 v2 : Value) (xs ys : List Int) (h1 : Sl M w v1 xs) (h2 : Sl M w v2 ys) (hb : xs.length + ys.length ≤ 1000000) :
    Calls Tryz.prog 31 #[v1, v2] w fun e w' => ∃ v, e = .returned v ∧ v ≠ .slice none 0 0 ∧ Ext No w w' ∧ Own 3 w.heap.size (fun b => v.ownBlock = some b) w' v (xs ++ ys) ∧ (∀ b, v.ownBlock = some b → w.heap.size ≤ b) :=
  both_aux M w v1 v2 xs ys _ _ rfl rfl h1 h2 hb (by omega)
end Go.Proofs.An
