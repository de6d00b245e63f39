/-
  (*auto.Auto).row.
-/
import Derived.Test.YtjdmpockaflcnaaGreatDoorPlace
namespace Go.Proofs.An
open Go.RowKit
theorem AutoAt.next {M w w' q lv fv ls fs fs'} (h : AutoAt M w q lv fv ls fs) (hE : Ext (fun b => fv.ownBlock = some b) w w') (hR : Own 24 (q + 1) M w' fv fs') : AutoAt M w' q lv fv ls fs' := by
  have nq : ¬ fv.ownBlock = some q := h.rows.low (by omega)
  refine ⟨hE.cell nq h.c0, hE.cell nq h.c1, hE.cell nq h.c2, hE.cell nq h.c3, hE.cell nq h.c4, fun j => ?_, ?_, hR, h.mq, h.ml, h.dist, fun b hb => ⟨(h.low b hb).1, Nat.lt_of_lt_of_le (h.low b hb).2 hE.size⟩⟩
  · rw [World.frozen?_of_block (w := w) (hE.block q h.qlt nq)]; exact h.fz j
  · exact h.labs.flat fun b e => ⟨e, (h.labs.above b e).1, hE.block b (h.labs.above b e).2 (h.dist b e)⟩
/-- Nothing written. -/
theorem AutoAt.ext {M w w' q lv fv ls fs} (h : AutoAt M w q lv fv ls fs) (hE : Ext No w w') : AutoAt M w' q lv fv ls fs := h.next hE.any (h.rows.ext hE)
theorem three_objs (w : World) (a b c : Obj) : (((w.alloc a).alloc b).alloc c).heap[w.heap.size]? = some a ∧ (((w.alloc a).alloc b).alloc c).heap[w.heap.size + 1]? = some b ∧ (((w.alloc a).alloc b).alloc c).heap[w.heap.size + 1 + 1]? = some c ∧
    (((w.alloc a).alloc b).alloc c).heap.size = w.heap.size + 3 := by
  have e1 : (w.alloc a).heap.size = w.heap.size + 1 := by simp
  have e2 : ((w.alloc a).alloc b).heap.size = w.heap.size + 1 + 1 := by simp
  refine ⟨?_, ?_, ?_, by simp⟩
  · rw [Below.heap_alloc _ _ _ (by omega), Below.heap_alloc _ _ _ (by omega)]; exact heap_alloc_new w a
  · rw [Below.heap_alloc _ _ _ (by omega), ← e1]; exact heap_alloc_new _ b
  · rw [← e2]; exact heap_alloc_new _ c
theorem facts3 {w : World} {b : Nat} {x y z : Value} {t : TypeId} (h : w.heap[b]? = some (.cells #[x, y, z] t (0, 0))) : (∀ W, Ext No w W → W.cell? ⟨b, 0, none⟩ = some x) ∧ (∀ W, Ext No w W → W.cell? ⟨b, 1, none⟩ = some y) ∧
    (∀ W, Ext No w W → W.cell? ⟨b, 2, none⟩ = some z) :=
  ⟨fun W hW => hW.cell id (by simp [World.cell?, h]), fun W hW => hW.cell id (by simp [World.cell?, h]), fun W hW => hW.cell id (by simp [World.cell?, h])⟩
theorem keep3 {w w2 : World} {b : Nat} {x y z : Value} {t : TypeId} (hE : Ext No w w2) (h : w.heap[b]? = some (.cells #[x, y, z] t (0, 0))) : w2.cell? ⟨b, 0, none⟩ = some x ∧ w2.cell? ⟨b, 1, none⟩ = some y ∧ w2.cell? ⟨b, 2, none⟩ = some z ∧ ∀ j, w2.frozen? ⟨b, j, none⟩ = false := by
  have hk := (hE.block b (Array.getElem?_eq_some_iff.1 h).1 id).trans h
  have := facts3 hk
  exact ⟨this.1 _ (Ext.refl _ _), this.2.1 _ (Ext.refl _ _), this.2.2 _ (Ext.refl _ _), frozen_cells hk⟩
theorem set3 {w : World} {b : Nat} {x y z u : Value} {t : TypeId} (h : w.heap[b]? = some (.cells #[x, y, z] t (0, 0))) : (w.setCell ⟨b, 0, none⟩ u).heap[b]? = some (.cells #[u, y, z] t (0, 0)) := by
  simp [World.setCell, Array.getElem?_modify, h]
theorem new_sl {M : Nat → Prop} {B : Nat} {w2 wz : World} {v : Value} {xs : List Int} (hO : Own 3 B (fun b => v.ownBlock = some b) w2 v xs) (hE : Ext (fun k => k < B) w2 wz) (hM : ∀ b, M b → b < B) : Sl M wz v xs := by
  have hO' : Own 3 B (fun b => v.ownBlock = some b) wz v xs := hO.flat fun b e => ⟨e, (hO.above b e).1, hE.block b (hO.above b e).2 (by have := (hO.above b e).1; omega)⟩
  exact hO'.slFlat fun b e hm => by have := (hO.above b e).1; have := hM b hm; omega
theorem row_fin {M w wa w1 wx wz q lv fv ls fs fs'} (h : AutoAt M w q lv fv ls fs) (hwa : Ext No w wa) {S2 : Nat} (hS : w.heap.size ≤ S2) (hR : Own 24 (q + 1) (fun b => M b ∨ b = S2) w1 fv fs')
    (hE1 : Ext (fun b => fv.ownBlock = some b) wa w1) (hX : Ext No w1 wx) (hEz : Ext (fun k => k = S2) wx wz) : AutoAt M wz q lv fv ls fs' ∧ Ext (fun b => fv.ownBlock = some b) w wz := by
  have hE : Ext (fun b => fv.ownBlock = some b) w wz := ((hwa.any.trans hE1).trans hX.any).then hEz fun b hb e => by omega
  have hE2 : Ext (fun k => k = S2) w1 wz := hX.any.trans hEz
  refine ⟨h.next hE (hR.to ⟨hE2.size, fun b hb hm => ⟨fun x => hm (.inl x), hE2.block b hb fun x => hm (.inr x)⟩⟩ fun b e => ⟨h.rows.mine b e, hE2.block b (hR.above b e).2 ?_⟩), hE⟩
  have := (h.rows.above b e).2
  omega
def rowP (p q : Part) : Part := ⟨if p.empty then p.first ++ q.first else p.first, if q.empty then p.last ++ q.last else q.last, p.empty && q.empty⟩
set_option maxRecDepth 100000 in
set_option maxHeartbeats 3200000 in
theorem row_any (M : Nat → Prop) (w : World) (q : Nat) (lv fv : Value) (ls : List Step) (fs : List (List Int)) (h : AutoAt M w q lv fv ls fs) (p1 p2 : Part) (f1 l1 f2 l2 : Value)
    (hf1 : Sl M w f1 p1.first) (hl1 : Sl M w l1 p1.last) (hf2 : Sl M w f2 p2.first) (hl2 : Sl M w l2 p2.last) (n : Nat) (hn : n ≤ 1000) (hlen : fs.length = n) (hG : GoodF n fs) (hi1 : InPlaces n p1.last) (hi2 : InPlaces n p2.first)
    (s1 : p1.first.length ≤ 1000) (s2 : p1.last.length ≤ 1000) (s3 : p2.first.length ≤ 1000) (s4 : p2.last.length ≤ 1000) :
    Calls Tryz.prog 30 #[.pointer (some ⟨q, 0, none⟩), .agg #[f1, l1, .bool p1.empty], .agg #[f2, l2, .bool p2.empty]] w fun e w' => ∃ f l, e = .returned (.agg #[f, l, .bool (rowP p1 p2).empty]) ∧
      AutoAt M w' q lv fv ls (thenF fs p1.last p2.first) ∧ Ext (fun b => fv.ownBlock = some b) w w' ∧ Sl M w' f (rowP p1 p2).first ∧ Sl M w' l (rowP p1 p2).last := by
  obtain ⟨a1, b1, e1⟩ := p1
  obtain ⟨a2, b2, e2⟩ := p2
  have hfM : ∀ b, b < w.heap.size → fv.ownBlock = some b → M b := fun b _ e => h.rows.mine b e
  obtain ⟨hA1, c1, rfl⟩ := hf1.form
  obtain ⟨hB1, d1, rfl⟩ := hl1.form
  obtain ⟨hA2, c2, rfl⟩ := hf2.form
  obtain ⟨hB2, d2, rfl⟩ := hl2.form
  go_enter Tryz.func30, Tryz.ntmps30
  have hwa : ∀ (x y : Bool), Ext No w (((w.alloc (.cells #[(.slice hA1 a1.length c1), (.slice hB1 b1.length d1), .bool x] 76)).alloc (.cells #[(.slice hA2 a2.length c2), (.slice hB2 b2.length d2), .bool y] 76)).alloc (.cells #[.slice none 0 0, .slice none 0 0, .bool false] 76)) := fun x y => ((Ext.alloc (Ext.refl No w) _).alloc _).alloc _
  have g := fun (x y : Bool) => three_objs w (.cells #[(.slice hA1 a1.length c1), (.slice hB1 b1.length d1), .bool x] 76) (.cells #[(.slice hA2 a2.length c2), (.slice hB2 b2.length d2), .bool y] 76) (.cells #[.slice none 0 0, .slice none 0 0, .bool false] 76)
  have hfv : ∀ b, fv.ownBlock = some b → q + 1 ≤ b ∧ b < w.heap.size := fun b e => h.rows.above b e
  have nq : ¬ fv.ownBlock = some q := h.rows.low (by omega)
  have hq := h.qlt
  have hwa' := hwa e1 e2
  obtain ⟨g0, g1, g2, gs⟩ := g e1 e2
  clear hwa g
  have hMa : ∀ b, (M b ∨ b = w.heap.size + 1 + 1) → b < (((w.alloc (.cells #[.slice hA1 a1.length c1, .slice hB1 b1.length d1, .bool e1] 76)).alloc (.cells #[.slice hA2 a2.length c2, .slice hB2 b2.length d2, .bool e2] 76)).alloc (.cells #[.slice none 0 0, .slice none 0 0, .bool false] 76)).heap.size := by
    rintro b (hb | hb)
    · have := (h.low b hb).2; omega
    · omega
  have hRa : Own 24 (q + 1) (fun b => M b ∨ b = w.heap.size + 1 + 1) (((w.alloc (.cells #[.slice hA1 a1.length c1, .slice hB1 b1.length d1, .bool e1] 76)).alloc (.cells #[.slice hA2 a2.length c2, .slice hB2 b2.length d2, .bool e2] 76)).alloc (.cells #[.slice none 0 0, .slice none 0 0, .bool false] 76)) fv fs :=
    h.rows.to ⟨hwa'.size, fun b hb hm => ⟨(by rintro (h1 | h1); exact hm h1; omega), hwa'.block b hb id⟩⟩ fun b e => ⟨.inl (h.rows.mine b e), hwa'.block b (hfv b e).2 id⟩
  cases e1 <;> cases e2
  · go_wp2_with (first
      | (go_at_call 32; go_loud (
         refine (then_any (q + 1) (fun b => M b ∨ b = w.heap.size + 1 + 1) _ q fv (.slice hB1 b1.length d1) (.slice hA2 a2.length c2) fs b1 a2 (hwa'.cell id h.c3) hMa hRa nq ((hl1.free hfM).ext hwa'.any) ((hf2.free hfM).ext hwa'.any) n hn hlen hG hi1 hi2 s3).mono ?_
         rintro e w1 ⟨rfl, hR1, hE1⟩
         have hs1 := hE1.size
         rw [gs] at hs1
         have k0 : w1.heap[w.heap.size]? = some _ := (hE1.block _ (by omega) (fun e => by have := (hfv _ e).2; omega)).trans g0
         have k1 : w1.heap[w.heap.size + 1]? = some _ := (hE1.block _ (by omega) (fun e => by have := (hfv _ e).2; omega)).trans g1
         have k2 : w1.heap[w.heap.size + 1 + 1]? = some _ := (hE1.block _ (by omega) (fun e => by have := (hfv _ e).2; omega)).trans g2
         have y0 := facts3 k0
         have y1 := facts3 k1
         have hE2 : Ext M w w1 := hwa'.any.trans (hE1.mono fun b _ e => h.rows.mine b e)
         have hX := Ext.alloc (Ext.refl No w1) (.cells #[(.slice hA1 a1.length c1), (.slice hB2 b2.length d2), .bool false] 76)
         have kx := heap_alloc_new w1 (.cells #[(.slice hA1 a1.length c1), (.slice hB2 b2.length d2), .bool false] 76 (0, 0))))
      | (refine gate_ (.store 76 (.tmp 6) (.tmp 41)) rfl ?_; go_loud (
         have hXX : Ext No w1 _ := hX
         refine wpl_whole 76 (.tmp 6) (.tmp 41) rfl rfl rfl (w.heap.size + 1 + 1) 76 _ #[(.slice hA1 a1.length c1), (.slice hB2 b2.length d2), .bool false] rfl rfl ((hXX.block _ (by omega) id).trans k2) (by kernel_rfl) rfl ?_ ?_
         (· intro d hd; simp at hd; rcases hd with rfl | rfl | rfl <;> rfl)
         intro wz hfz hEz
         have z0 : wz.cell? ⟨w.heap.size + 1 + 1, 0, none⟩ = some (.slice hA1 a1.length c1) := by simp [World.cell?, hfz]
         have z1 : wz.cell? ⟨w.heap.size + 1 + 1, 1, none⟩ = some (.slice hB2 b2.length d2) := by simp [World.cell?, hfz]
         have z2 : wz.cell? ⟨w.heap.size + 1 + 1, 2, none⟩ = some (.bool false) := by simp [World.cell?, hfz])))
    refine bodyPost_ret (v := .agg #[.slice hA1 a1.length c1, .slice hB2 b2.length d2, .bool false]) (by simp [results, Tryz.results30, go_sem, z0, z1, z2]) rfl ?_
    obtain ⟨hA, hE9⟩ := row_fin h hwa' (by omega) hR1 hE1 hX hEz
    have hE8 := hE9.mono (N' := M) fun b _ e => h.rows.mine b e
    exact ⟨_, _, rfl, hA, hE9, hf1.ext hE8, hl2.ext hE8⟩
  · go_wp2_with (first
      | (go_at_call 32; go_loud (
         refine (then_any (q + 1) (fun b => M b ∨ b = w.heap.size + 1 + 1) _ q fv (.slice hB1 b1.length d1) (.slice hA2 a2.length c2) fs b1 a2 (hwa'.cell id h.c3) hMa hRa nq ((hl1.free hfM).ext hwa'.any) ((hf2.free hfM).ext hwa'.any) n hn hlen hG hi1 hi2 s3).mono ?_
         rintro e w1 ⟨rfl, hR1, hE1⟩
         have hs1 := hE1.size
         rw [gs] at hs1
         have k0 : w1.heap[w.heap.size]? = some _ := (hE1.block _ (by omega) (fun e => by have := (hfv _ e).2; omega)).trans g0
         have k1 : w1.heap[w.heap.size + 1]? = some _ := (hE1.block _ (by omega) (fun e => by have := (hfv _ e).2; omega)).trans g1
         have k2 : w1.heap[w.heap.size + 1 + 1]? = some _ := (hE1.block _ (by omega) (fun e => by have := (hfv _ e).2; omega)).trans g2
         have y0 := facts3 k0
         have y1 := facts3 k1
         have hE2 : Ext M w w1 := hwa'.any.trans (hE1.mono fun b _ e => h.rows.mine b e)
         have hX := Ext.alloc (Ext.refl No w1) (.cells #[(.slice hA1 a1.length c1), (.slice hB2 b2.length d2), .bool false] 76)
         have kx := heap_alloc_new w1 (.cells #[(.slice hA1 a1.length c1), (.slice hB2 b2.length d2), .bool false] 76 (0, 0))))
      | (go_at_call 31; go_loud (
         have hX2 : Ext No w1 _ := hX
         refine (both_any No _ (.slice hB1 b1.length d1) (.slice hB2 b2.length d2) b1 b2 (((hl1.ext hE2).ext hX2.any).free fun _ _ h => h.elim) (((hl2.ext hE2).ext hX2.any).free fun _ _ h => h.elim) (by omega)).mono ?_
         rintro e w2 ⟨v2, rfl, hv2, hE2', hO2, hb2⟩
         have hx2 : Ext No w1 w2 := hX2.trans hE2'
         obtain ⟨xa2, xb2, xc2, xf2⟩ := keep3 hE2' kx
         obtain ⟨A2, m2, rfl⟩ := hO2.shape))
      | (refine gate_ (.store 76 (.tmp 6) (.tmp 41)) rfl ?_; go_loud (
         have hXX : Ext No w1 _ := hx2.setCell ⟨w1.heap.size, 1, none⟩ (.inr (Nat.le_refl _)) (.slice A2 (b1.length + b2.length) m2)
         refine wpl_whole 76 (.tmp 6) (.tmp 41) rfl rfl rfl (w.heap.size + 1 + 1) 76 _ #[(.slice hA1 a1.length c1), (.slice A2 (b1.length + b2.length) m2), .bool false] rfl rfl ((hXX.block _ (by omega) id).trans k2) (by kernel_rfl) rfl ?_ ?_
         (· intro d hd; simp at hd; rcases hd with rfl | rfl | rfl <;> rfl)
         intro wz hfz hEz
         have z0 : wz.cell? ⟨w.heap.size + 1 + 1, 0, none⟩ = some (.slice hA1 a1.length c1) := by simp [World.cell?, hfz]
         have z1 : wz.cell? ⟨w.heap.size + 1 + 1, 1, none⟩ = some (.slice A2 (b1.length + b2.length) m2) := by simp [World.cell?, hfz]
         have z2 : wz.cell? ⟨w.heap.size + 1 + 1, 2, none⟩ = some (.bool false) := by simp [World.cell?, hfz])))
    refine bodyPost_ret (v := .agg #[(.slice hA1 a1.length c1), (.slice A2 (b1.length + b2.length) m2), .bool false]) (by simp [results, Tryz.results30, go_sem, z0, z1, z2]) rfl ?_
    obtain ⟨hA, hE9⟩ := row_fin h hwa' (by omega) hR1 hE1 hXX hEz
    have hE8 := hE9.mono (N' := M) fun b _ e => h.rows.mine b e
    have hsM : ∀ b, M b → b < (w1.alloc (.cells #[.slice hA1 a1.length c1, .slice hB2 b2.length d2, .bool false] 76)).heap.size := fun b hm => by have := (h.low b hm).2; simp; omega
    have hE7 : Ext (fun k => k < (w1.alloc (.cells #[.slice hA1 a1.length c1, .slice hB2 b2.length d2, .bool false] 76)).heap.size) w2 wz := ((Ext.refl _ w2).setCell ⟨w1.heap.size, 1, none⟩ (.inl (by simp)) (.slice A2 (b1.length + b2.length) m2)).trans (hEz.mono fun b _ e => by simp; omega)
    rw [List.length_append] at hO2
    exact ⟨_, _, rfl, hA, hE9, hf1.ext hE8, new_sl hO2 hE7 hsM⟩
  · go_wp2_with (first
      | (go_at_call 32; go_loud (
         refine (then_any (q + 1) (fun b => M b ∨ b = w.heap.size + 1 + 1) _ q fv (.slice hB1 b1.length d1) (.slice hA2 a2.length c2) fs b1 a2 (hwa'.cell id h.c3) hMa hRa nq ((hl1.free hfM).ext hwa'.any) ((hf2.free hfM).ext hwa'.any) n hn hlen hG hi1 hi2 s3).mono ?_
         rintro e w1 ⟨rfl, hR1, hE1⟩
         have hs1 := hE1.size
         rw [gs] at hs1
         have k0 : w1.heap[w.heap.size]? = some _ := (hE1.block _ (by omega) (fun e => by have := (hfv _ e).2; omega)).trans g0
         have k1 : w1.heap[w.heap.size + 1]? = some _ := (hE1.block _ (by omega) (fun e => by have := (hfv _ e).2; omega)).trans g1
         have k2 : w1.heap[w.heap.size + 1 + 1]? = some _ := (hE1.block _ (by omega) (fun e => by have := (hfv _ e).2; omega)).trans g2
         have y0 := facts3 k0
         have y1 := facts3 k1
         have hE2 : Ext M w w1 := hwa'.any.trans (hE1.mono fun b _ e => h.rows.mine b e)
         have hX := Ext.alloc (Ext.refl No w1) (.cells #[(.slice hA1 a1.length c1), (.slice hB2 b2.length d2), .bool false] 76)
         have kx := heap_alloc_new w1 (.cells #[(.slice hA1 a1.length c1), (.slice hB2 b2.length d2), .bool false] 76 (0, 0))))
      | (go_at_call 31; go_loud (
         have hX2 : Ext No w1 _ := hX
         refine (both_any No _ (.slice hA1 a1.length c1) (.slice hA2 a2.length c2) a1 a2 (((hf1.ext hE2).ext hX2.any).free fun _ _ h => h.elim) (((hf2.ext hE2).ext hX2.any).free fun _ _ h => h.elim) (by omega)).mono ?_
         rintro e w2 ⟨v2, rfl, hv2, hE2', hO2, hb2⟩
         have hx2 : Ext No w1 w2 := hX2.trans hE2'
         obtain ⟨xa2, xb2, xc2, xf2⟩ := keep3 hE2' kx
         obtain ⟨A2, m2, rfl⟩ := hO2.shape))
      | (refine gate_ (.store 76 (.tmp 6) (.tmp 41)) rfl ?_; go_loud (
         have hXX : Ext No w1 _ := hx2.setCell ⟨w1.heap.size, 0, none⟩ (.inr (Nat.le_refl _)) (.slice A2 (a1.length + a2.length) m2)
         refine wpl_whole 76 (.tmp 6) (.tmp 41) rfl rfl rfl (w.heap.size + 1 + 1) 76 _ #[(.slice A2 (a1.length + a2.length) m2), (.slice hB2 b2.length d2), .bool false] rfl rfl ((hXX.block _ (by omega) id).trans k2) (by kernel_rfl) rfl ?_ ?_
         (· intro d hd; simp at hd; rcases hd with rfl | rfl | rfl <;> rfl)
         intro wz hfz hEz
         have z0 : wz.cell? ⟨w.heap.size + 1 + 1, 0, none⟩ = some (.slice A2 (a1.length + a2.length) m2) := by simp [World.cell?, hfz]
         have z1 : wz.cell? ⟨w.heap.size + 1 + 1, 1, none⟩ = some (.slice hB2 b2.length d2) := by simp [World.cell?, hfz]
         have z2 : wz.cell? ⟨w.heap.size + 1 + 1, 2, none⟩ = some (.bool false) := by simp [World.cell?, hfz])))
    refine bodyPost_ret (v := .agg #[(.slice A2 (a1.length + a2.length) m2), (.slice hB2 b2.length d2), .bool false]) (by simp [results, Tryz.results30, go_sem, z0, z1, z2]) rfl ?_
    obtain ⟨hA, hE9⟩ := row_fin h hwa' (by omega) hR1 hE1 hXX hEz
    have hE8 := hE9.mono (N' := M) fun b _ e => h.rows.mine b e
    have hsM : ∀ b, M b → b < (w1.alloc (.cells #[.slice hA1 a1.length c1, .slice hB2 b2.length d2, .bool false] 76)).heap.size := fun b hm => by have := (h.low b hm).2; simp; omega
    have hE7 : Ext (fun k => k < (w1.alloc (.cells #[.slice hA1 a1.length c1, .slice hB2 b2.length d2, .bool false] 76)).heap.size) w2 wz := ((Ext.refl _ w2).setCell ⟨w1.heap.size, 0, none⟩ (.inl (by simp)) (.slice A2 (a1.length + a2.length) m2)).trans (hEz.mono fun b _ e => by simp; omega)
    rw [List.length_append] at hO2
    exact ⟨_, _, rfl, hA, hE9, new_sl hO2 hE7 hsM, hl2.ext hE8⟩
  · go_wp2_with (first
      | (go_at_call 32; go_loud (
         refine (then_any (q + 1) (fun b => M b ∨ b = w.heap.size + 1 + 1) _ q fv (.slice hB1 b1.length d1) (.slice hA2 a2.length c2) fs b1 a2 (hwa'.cell id h.c3) hMa hRa nq ((hl1.free hfM).ext hwa'.any) ((hf2.free hfM).ext hwa'.any) n hn hlen hG hi1 hi2 s3).mono ?_
         rintro e w1 ⟨rfl, hR1, hE1⟩
         have hs1 := hE1.size
         rw [gs] at hs1
         have k0 : w1.heap[w.heap.size]? = some _ := (hE1.block _ (by omega) (fun e => by have := (hfv _ e).2; omega)).trans g0
         have k1 : w1.heap[w.heap.size + 1]? = some _ := (hE1.block _ (by omega) (fun e => by have := (hfv _ e).2; omega)).trans g1
         have k2 : w1.heap[w.heap.size + 1 + 1]? = some _ := (hE1.block _ (by omega) (fun e => by have := (hfv _ e).2; omega)).trans g2
         have y0 := facts3 k0
         have y1 := facts3 k1
         have hE2 : Ext M w w1 := hwa'.any.trans (hE1.mono fun b _ e => h.rows.mine b e)
         have hX := Ext.alloc (Ext.refl No w1) (.cells #[(.slice hA1 a1.length c1), (.slice hB2 b2.length d2), .bool true] 76)
         have kx := heap_alloc_new w1 (.cells #[(.slice hA1 a1.length c1), (.slice hB2 b2.length d2), .bool true] 76 (0, 0))))
      | (go_at_call 31; have hk3 := kx3; go_loud (
         refine (both_any No (w2.setCell ⟨w1.heap.size, 0, none⟩ (.slice A2 (a1.length + a2.length) m2)) (.slice hB1 b1.length d1) (.slice hB2 b2.length d2) b1 b2 (((hl1.ext hE2).ext hx3.any).free fun _ _ h => h.elim) (((hl2.ext hE2).ext hx3.any).free fun _ _ h => h.elim) (by omega)).mono ?_
         rintro e w3 ⟨v3, rfl, hv3, hE3', hO3, hb3⟩
         have hx4 : Ext No w1 w3 := hx3.trans hE3'
         obtain ⟨xa3, xb3, xc3, xf3⟩ := keep3 hE3' kx3
         obtain ⟨A3, m3, rfl⟩ := hO3.shape))
      | (go_at_call 31; go_loud (
         refine (both_any No (w1.alloc (.cells #[(.slice hA1 a1.length c1), (.slice hB2 b2.length d2), .bool true] 76)) (.slice hA1 a1.length c1) (.slice hA2 a2.length c2) a1 a2 (((hf1.ext hE2).ext hX.any).free fun _ _ h => h.elim) (((hf2.ext hE2).ext hX.any).free fun _ _ h => h.elim) (by omega)).mono ?_
         rintro e w2 ⟨v2, rfl, hv2, hE2', hO2, hb2⟩
         have hx2 : Ext No w1 w2 := hX.trans hE2'
         have kx2 := (hE2'.block w1.heap.size (by simp) id).trans kx
         obtain ⟨xa2, xb2, xc2, xf2⟩ := keep3 hE2' kx
         obtain ⟨A2, m2, rfl⟩ := hO2.shape
         have hx3 : Ext No w1 _ := hx2.setCell ⟨w1.heap.size, 0, none⟩ (.inr (Nat.le_refl _)) (.slice A2 (a1.length + a2.length) m2)
         have kx3 := set3 (u := .slice A2 (a1.length + a2.length) m2) kx2))
      | (refine gate_ (.store 76 (.tmp 6) (.tmp 41)) rfl ?_; go_loud (
         have hXX : Ext No w1 _ := hx4.setCell ⟨w1.heap.size, 1, none⟩ (.inr (Nat.le_refl _)) (.slice A3 (b1.length + b2.length) m3)
         refine wpl_whole 76 (.tmp 6) (.tmp 41) rfl rfl rfl (w.heap.size + 1 + 1) 76 _ #[(.slice A2 (a1.length + a2.length) m2), (.slice A3 (b1.length + b2.length) m3), .bool true] rfl rfl ((hXX.block _ (by omega) id).trans k2) (by kernel_rfl) rfl ?_ ?_
         (· intro d hd; simp at hd; rcases hd with rfl | rfl | rfl <;> rfl)
         intro wz hfz hEz
         have z0 : wz.cell? ⟨w.heap.size + 1 + 1, 0, none⟩ = some (.slice A2 (a1.length + a2.length) m2) := by simp [World.cell?, hfz]
         have z1 : wz.cell? ⟨w.heap.size + 1 + 1, 1, none⟩ = some (.slice A3 (b1.length + b2.length) m3) := by simp [World.cell?, hfz]
         have z2 : wz.cell? ⟨w.heap.size + 1 + 1, 2, none⟩ = some (.bool true) := by simp [World.cell?, hfz])))
    refine bodyPost_ret (v := .agg #[(.slice A2 (a1.length + a2.length) m2), (.slice A3 (b1.length + b2.length) m3), .bool true]) (by simp [results, Tryz.results30, go_sem, z0, z1, z2]) rfl ?_
    obtain ⟨hA, hE9⟩ := row_fin h hwa' (by omega) hR1 hE1 hXX hEz
    have hs2 : w1.heap.size < w2.heap.size := by have := hE2'.size; simp at this; omega
    have hsM : ∀ b, M b → b < (w1.alloc (.cells #[.slice hA1 a1.length c1, .slice hB2 b2.length d2, .bool true] 76)).heap.size := fun b hm => by have := (h.low b hm).2; simp; omega
    have hsM3 : ∀ b, M b → b < (w2.setCell ⟨w1.heap.size, 0, none⟩ (.slice A2 (a1.length + a2.length) m2)).heap.size := fun b hm => by have := (h.low b hm).2; simp [World.setCell]; omega
    have hE7 : Ext (fun k => k < (w1.alloc (.cells #[.slice hA1 a1.length c1, .slice hB2 b2.length d2, .bool true] 76)).heap.size) w2 wz := ((((Ext.refl _ w2).setCell ⟨w1.heap.size, 0, none⟩ (.inl (by simp)) (.slice A2 (a1.length + a2.length) m2)).trans hE3'.any).setCell ⟨w1.heap.size, 1, none⟩ (.inl (by simp)) (.slice A3 (b1.length + b2.length) m3)).trans (hEz.mono fun b _ e => by simp; omega)
    have hE8 : Ext (fun k => k < (w2.setCell ⟨w1.heap.size, 0, none⟩ (.slice A2 (a1.length + a2.length) m2)).heap.size) w3 wz := ((Ext.refl _ w3).setCell ⟨w1.heap.size, 1, none⟩ (.inl (by simp [World.setCell]; omega)) (.slice A3 (b1.length + b2.length) m3)).trans (hEz.mono fun b _ e => by simp [World.setCell]; omega)
    rw [List.length_append] at hO2 hO3
    exact ⟨_, _, rfl, hA, hE9, new_sl hO2 hE7 hsM, new_sl hO3 hE8 hsM3⟩
end Go.Proofs.An
