/-
  (*auto.Auto).then.
-/
import Derived.Test.YtjdmpockaflcnaaGreatDoorAutoPure
import Derived.Test.YtjdmpockaflcnaaGreatDoorBoth
import Derived.Test.YtjdmpockaflcnaaGreatDoorRowed
import Derived.Test.YtjdmpockaflcnaaGreatDoorFloat
import Derived.Deep.DeepMust
namespace Go.Proofs.An
open Go.RowKit
set_option maxRecDepth 100000 in
set_option maxHeartbeats 1600000 in
theorem then_any (B : Nat) (M : Nat → Prop) (w : World) (p : Nat) (fv lv rv : Value) (fs : List (List Int)) (last first : List Int)
    (hp : w.cell? ⟨p, 3, none⟩ = some fv) (hM : ∀ b, M b → b < w.heap.size) (hF : Own 24 B M w fv fs) (hfp : ¬ fv.ownBlock = some p)
    (hL : Sl (fun b => fv.ownBlock = some b) w lv last) (hR : Sl (fun b => fv.ownBlock = some b) w rv first)
    (n : Nat) (hn : n ≤ 1000) (hlen : fs.length = n) (hG : GoodF n fs) (hin : InPlaces n last) (hin2 : InPlaces n first) (hf : first.length ≤ 1000) :
    Calls Tryz.prog 32 #[.pointer (some ⟨p, 0, none⟩), lv, rv] w fun e w' => e = .returned (.tuple #[]) ∧ Own 24 B M w' fv (thenF fs last first) ∧ Ext (fun b => fv.ownBlock = some b) w w' := by
  have l1 := hL.len_rule (P := Tryz.prog) 24 (by kernel_rfl)
  have i1 := hL.idx_rule (P := Tryz.prog) 24 (by kernel_rfl) (by kernel_rfl)
  have hlm := hL.small
  unfold maxLen at hlm
  go_enter Tryz.func32, Tryz.ntmps32
  go_wp2
  go_loopw [11] (fun t11 wr => ∃ (j : Nat), j ≤ last.length ∧ t11 = .int .i64 j ∧ Ext (fun b => fv.ownBlock = some b) w wr ∧ Own 24 B M wr fv (thenF fs (last.take j) first))
    (fun t11 _ => last.length - (intOf t11).toNat)
  case atStart => exact ⟨0, Nat.zero_le _, rfl, Ext.refl _ _, hF⟩
  case round =>
    obtain ⟨j, hj, rfl, hE, hO⟩ := hrel
    by_cases hlt : j < last.length
    · obtain ⟨cs, rfl, p0, -⟩ := hL.cells j hlt
      have p0 : ∀ W, Ext No wr W → _ := fun W hW => p0 _ rfl W (hE.trans hW.any)
      have hij := hin (nth last j) (by rw [nth_eq _ _ hlt]; exact List.getElem_mem hlt)
      have hGj := hG.then hin2 (last.take j)
      have hlj : (thenF fs (last.take j) first).length = n := by rw [thenF_length]; exact hlen
      have hnext : thenF fs (last.take (j + 1)) first = thenStep first (thenF fs (last.take j) first) (nth last j) := by
        rw [List.take_succ_eq_append_getElem hlt, thenF_snoc, nth_eq _ _ hlt]
      have HX := Lib.hid hnext; clear hnext
      generalize thenF fs (last.take j) first = gs at *
      generalize nth last j = i at *
      have hpw : ∀ W, Ext No wr W → W.cell? ⟨p, 3, none⟩ = some fv := fun W hW => hW.cell id (hE.cell hfp hp)
      have hS := hO.sl (M' := No) (fun _ _ h => h) (fun _ _ h => h.elim)
      have i2 := hS.idx_rule (P := Tryz.prog) 25 (by kernel_rfl) (by kernel_rfl)
      have hi0 : i.toNat < gs.length := by omega
      obtain ⟨cs, ⟨vi, rfl, hvi⟩, q0, -⟩ := hS.cells i.toNat hi0
      have q0 : ∀ W, Ext No wr W → _ := q0 _ rfl
      have hrl : (nth gs i.toNat).length ≤ n := by rw [nth_eq _ _ hi0]; exact (hGj _ (List.getElem_mem hi0)).len
      have HB := Lib.hid (both_any No wr vi rv (nth gs i.toNat) first hvi ((hR.ext hE).free fun _ _ h => h.elim) (by omega))
      have hpl := World.block_lt_of_cell? w _ hp
      go_wp2_with (first
        | (go_at_call 31; refine HB.out.mono ?_; rintro e w1 ⟨v8, rfl, hv8, hE1, hO1, hb8⟩)
        | (go_at_call 75; refine (sort_ints hO1 hv8 (by simp; omega)).mono ?_; rintro e w2 ⟨rfl, hO2, hE2⟩))
      have hEw2 : Ext No wr w2 := hE1.then hE2 (fun x hx e => by have := hb8 x e; omega)
      have hr8 : ∀ b, v8.ownBlock = some b → wr.heap.size ≤ b := hb8
      refine wp_region_reads 6 (by kernel_rfl) (by kernel_rfl) (fun W => Ext No wr W ∧ Ext (fun b => v8.ownBlock = some b) w2 W) ⟨hEw2.drew, Ext.drew (Ext.refl _ _)⟩ ?_
      have hEd : Ext No w2 { w2 with drawn := w2.drawn + 1 } := Ext.drew (Ext.refl _ _)
      generalize ({ w2 with drawn := w2.drawn + 1 } : World) = wd at hEd ⊢
      have hEwd : Ext No wr wd := hEw2.trans hEd
      simp only [List.take, List.drop]
      refine wpRead_value rfl (.pointer (some ⟨p, 0, none⟩)) (fun W hW => by go_simp) ?_
      refine wpRead_value rfl (.pointer (some ⟨p, 0, none⟩)) (fun W hW => by go_simp) ?_
      refine wpRead_value rfl (.pointer (some ⟨p, 3, none⟩)) (fun W hW => by go_simp) ?_
      refine wpRead_value rfl fv (fun W hW => by have := hpw W hW.1; go_simp) ?_
      refine wpRead_value rfl (.int .i64 i) (fun W hW => by go_simp) ?_
      refine wpRead_value rfl v8 (fun W hW => by go_simp) ?_
      refine wpRead_nil ?_
      refine wpTail_open rfl rfl fun K hK => ?_
      go_simp
      refine (compact_ints (hO2.ext hEd) (by rw [List.length_mergeSort, List.length_append]; omega)).mono ?_
      rintro e w3 ⟨v9, rfl, hv9, hO3, hE3⟩
      have hE23 : Ext (fun b => v8.ownBlock = some b) w2 w3 := hEd.any.trans hE3
      have hEw3 : Ext No wr w3 := hEw2.then hE23 (fun x hx e => by have := hr8 x e; omega)
      have hO9 : Own 3 wr.heap.size (fun b => v8.ownBlock = some b) w3 v9 (join1 (nth gs i.toNat) first) := hO3
      refine hK _ _ ⟨hEw3, hE23⟩ ?_
      clear hK K
      refine wpTail_open rfl rfl fun K hK => ?_
      go_simp
      refine hK _ _ ⟨hEw3, hE23⟩ ?_
      clear hK K
      refine wpTail_last rfl (by kernel_rfl) ?_
      have hm9 : ∀ b, v9.ownBlock = some b → ¬ M b := fun b hb hm => by
        have h1 := hr8 b (hv9 ▸ hb)
        have h2 := hM b hm
        have := hE.size
        omega
      go_wp2_with (refine gate_ (.store 24 (.tmp 33) (.tmp 32)) rfl ?_; go_loud (
        refine wpl_set i.toNat 0 24 (.tmp 33) (.tmp 32) rfl rfl rfl _ _ rfl rfl (hO.ext hEw3) hi0 [v9] ?_ (by kernel_rfl) ?_ ?_ (join1 (nth gs i.toNat) first) ?_ (add_zero _).symm ?_
        (· obtain ⟨A, c, rfl⟩ := hO9.shape; rfl)
        (· obtain ⟨A, c, rfl⟩ := hO9.shape; intro d hd; simp at hd; subst hd; rfl)
        (· exact Nat.le_refl 1)
        (· rintro c ⟨_, rfl, _⟩; exact ⟨v9, rfl, hO9.slFlat hm9⟩)
        rintro w4 hO4 hE4))
      unfold Calm
      go_wp2
      exact ⟨⟨j + 1, by omega, by go_num, (hE.trans hEw3.any).trans hE4, by rw [HX.out]; exact hO4⟩, by simp [intOf]; omega⟩
    · go_wp2
      have e : j = last.length := by omega
      have hts : last.take j = last := List.take_of_length_le (by omega)
      rw [hts] at hO
      simp [bodyPost, results, Tryz.results32, go_sem]
      exact ⟨hO, hE⟩
end Go.Proofs.An
