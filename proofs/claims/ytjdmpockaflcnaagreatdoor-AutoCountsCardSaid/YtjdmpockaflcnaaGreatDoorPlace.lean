/-
  The Auto under way; (*auto.Auto).place.
-/
import Derived.Test.YtjdmpockaflcnaaGreatDoorThen
namespace Go.Proofs.An
open Go.RowKit
structure Part where
  first : List Int
  last : List Int
  empty : Bool
instance encPart : Enc Part where
  n := 3
  dflt := ⟨[], [], false⟩
  rep M w cs x := ∃ f l, cs = [f, l, .bool x.empty] ∧ Sl M w f x.first ∧ Sl M w l x.last
  rep_len h := by obtain ⟨f, l, h, _⟩ := h; rw [h]; rfl
  rep_ext h hr := by obtain ⟨f, l, h1, h2, h3⟩ := hr; exact ⟨f, l, h1, h2.ext' (by decide) h, h3.ext' (by decide) h⟩
instance : Enc1 Part where pos := by decide
/-- The Auto that Build puts together, at block q. -/
structure AutoAt (M : Nat → Prop) (w : World) (q : Nat) (lv fv : Value) (ls : List Step) (fs : List (List Int)) : Prop where
  c0 : w.cell? ⟨q, 0, none⟩ = some lv
  c1 : w.cell? ⟨q, 1, none⟩ = some (.slice none 0 0)
  c2 : w.cell? ⟨q, 2, none⟩ = some (.slice none 0 0)
  c3 : w.cell? ⟨q, 3, none⟩ = some fv
  c4 : w.cell? ⟨q, 4, none⟩ = some (.bool false)
  fz : ∀ j, w.frozen? ⟨q, j, none⟩ = false
  labs : Own 64 (q + 1) (fun b => lv.ownBlock = some b) w lv ls
  rows : Own 24 (q + 1) M w fv fs
  mq : M q
  ml : ∀ b, lv.ownBlock = some b → M b
  dist : ∀ b, lv.ownBlock = some b → ¬ fv.ownBlock = some b
  low : ∀ b, M b → 0 ≤ b ∧ b < w.heap.size
theorem AutoAt.qlt {M w q lv fv ls fs} (h : AutoAt M w q lv fv ls fs) : q < w.heap.size := (h.low q h.mq).2
theorem frozen_cells {w : World} {b : Nat} {c : Array Value} {t : TypeId} (h : w.heap[b]? = some (.cells c t (0, 0))) (j : Nat) : w.frozen? ⟨b, j, none⟩ = false := by
  simp [World.frozen?, h]
set_option maxRecDepth 100000 in
set_option maxHeartbeats 3200000 in
theorem place_any (M : Nat → Prop) (w : World) (q : Nat) (lv fv : Value) (ls : List Step) (fs : List (List Int)) (x : Step) (h : AutoAt M w q lv fv ls fs) (hx : x.label.size ≤ maxLen ∧ I64 x.kind)
    (hls : ls.length ≤ 1000) (hfs : fs.length ≤ 1000) :
    Calls Tryz.prog 29 #[.pointer (some ⟨q, 0, none⟩), .agg #[.int .i64 x.kind, .string x.label]] w fun e w' => ∃ M' lv' fv' f l, e = .returned (.agg #[f, l, .bool false]) ∧ AutoAt M' w' q lv' fv' (ls ++ [x]) (fs ++ [[]]) ∧
      Keeps M w M' w' ∧ (∀ b, M b → M' b) ∧ (∀ b, M' b → M b ∨ w.heap.size ≤ b) ∧ Ext (fun b => b = q ∨ lv.ownBlock = some b ∨ fv.ownBlock = some b) w w' ∧ Sl M' w' f [(ls.length : Int)] ∧ Sl M' w' l [(ls.length : Int)] ∧
      (∀ b, lv'.ownBlock = some b → lv.ownBlock = some b ∨ w.heap.size ≤ b) ∧ (∀ b, fv'.ownBlock = some b → fv.ownBlock = some b ∨ w.heap.size ≤ b) := by
  obtain ⟨c0, c1, c2, c3, c4, fz, hO, hR, mq, ml, dist, low⟩ := h
  have hq := (low q mq).2
  have k0 : ∀ W, Ext No w W → W.cell? ⟨q, 0, none⟩ = some lv := fun W hW => hW.cell id c0
  have k3 : ∀ W, Ext No w W → W.cell? ⟨q, 3, none⟩ = some fv := fun W hW => hW.cell id c3
  have hS := hO.sl (M' := No) (fun _ _ h => h) (fun _ _ h => h.elim)
  have l1 := hS.len_rule (P := Tryz.prog) 22 (by kernel_rfl)
  go_enter Tryz.func29, Tryz.ntmps29
  go_wp2
  have hB := Ext.alloc (Ext.alloc (Ext.refl No w) (.cells #[.int .i64 x.kind, .string x.label] 64)) (.cells #[.slice none 0 0, .slice none 0 0, .bool false] 76)
  have b0 := (Ext.alloc (Ext.refl No _) (.cells #[.slice none 0 0, .slice none 0 0, .bool false] 76)).cell id (cell_new w #[.int .i64 x.kind, .string x.label] 64 0 rfl)
  have b1 := (Ext.alloc (Ext.refl No _) (.cells #[.slice none 0 0, .slice none 0 0, .bool false] 76)).cell id (cell_new w #[.int .i64 x.kind, .string x.label] 64 1 rfl)
  have d0 := cell_new (w.alloc (.cells #[.int .i64 x.kind, .string x.label] 64)) #[.slice none 0 0, .slice none 0 0, .bool false] 76 0 rfl
  have d1 := cell_new (w.alloc (.cells #[.int .i64 x.kind, .string x.label] 64)) #[.slice none 0 0, .slice none 0 0, .bool false] 76 1 rfl
  have d2 := cell_new (w.alloc (.cells #[.int .i64 x.kind, .string x.label] 64)) #[.slice none 0 0, .slice none 0 0, .bool false] 76 2 rfl
  have hws : (w.alloc (.cells #[.int .i64 x.kind, .string x.label] 64)).heap.size = w.heap.size + 1 := by simp
  rw [hws] at d0 d1 d2
  have hwt : ((w.alloc (.cells #[.int .i64 x.kind, .string x.label] 64)).alloc (.cells #[.slice none 0 0, .slice none 0 0, .bool false] 76)).heap.size = w.heap.size + 2 := by simp
  have hfr : ((w.alloc (.cells #[.int .i64 x.kind, .string x.label] 64)).alloc (.cells #[.slice none 0 0, .slice none 0 0, .bool false] 76)).heap[w.heap.size + 1]? = some (.cells #[.slice none 0 0, .slice none 0 0, .bool false] 76 (0, 0)) := by
    have := heap_alloc_new (w.alloc (.cells #[.int .i64 x.kind, .string x.label] 64)) (.cells #[.slice none 0 0, .slice none 0 0, .bool false] 76 (0, 0))
    rwa [hws] at this
  generalize ((w.alloc (.cells #[.int .i64 x.kind, .string x.label] 64)).alloc (.cells #[.slice none 0 0, .slice none 0 0, .bool false] 76)) = wb at *
  refine wp_region_reads 6 (by kernel_rfl) (by kernel_rfl) (fun W => Ext (fun b => lv.ownBlock = some b) wb W) (Ext.drew (Ext.refl _ _)) ?_
  have hEd : Ext No wb { wb with drawn := wb.drawn + 1 } := Ext.drew (Ext.refl _ _)
  generalize ({ wb with drawn := wb.drawn + 1 } : World) = wd at hEd ⊢
  have n1 : ¬ lv.ownBlock = some q := hO.low (by omega)
  have n2 : ¬ lv.ownBlock = some w.heap.size := hO.high (Nat.le_refl _)
  simp only [List.take, List.drop]
  refine wpRead_value rfl (.pointer (some ⟨q, 0, none⟩)) (fun W hW => by go_simp) ?_
  refine wpRead_value rfl (.pointer (some ⟨q, 0, none⟩)) (fun W hW => by go_simp) ?_
  refine wpRead_value rfl (.pointer (some ⟨q, 0, none⟩)) (fun W hW => by go_simp) ?_
  refine wpRead_value rfl (.pointer (some ⟨q, 0, none⟩)) (fun W hW => by go_simp) ?_
  refine wpRead_value rfl lv (fun W hW => by have := hW.cell n1 (k0 _ hB); go_simp) ?_
  refine wpRead_value rfl (.agg #[.int .i64 x.kind, .string x.label]) (fun W hW => by have h0 := hW.cell n2 b0; have h1 := hW.cell n2 b1; go_simp) ?_
  refine wpRead_nil ?_
  refine wpTail_open rfl rfl fun K hK => ?_
  go_simp
  refine hK _ _ (hEd.alloc _).any ?_
  clear hK K
  have hEwd : Ext No w wd := hB.trans hEd
  have hds : w.heap.size + 2 ≤ wd.heap.size := by have := hEd.size; omega
  refine wpTail_val rfl rfl (fun v1 w' => Own 64 (q + 1) (fun b => v1.ownBlock = some b) w' v1 (ls ++ [x]) ∧ Ext (fun b => lv.ownBlock = some b) wd w' ∧ (∀ b, v1.ownBlock = some b → lv.ownBlock = some b ∨ wd.heap.size ≤ b)) ?_ ?_
  · refine wpl_push1 (.tmp 15) (.tmp 17) 22 64 rfl rfl (.agg #[.int .i64 0, .string ByteArray.empty]) 24 Tryz.underlying22 (by kernel_rfl) rfl (q + 1) wd.heap.size lv ls [.int .i64 x.kind, .string x.label] x rfl rfl rfl (hO.ext hEwd) ⟨rfl, hx⟩ (by omega) ?_ (by decide) (by omega) ?_
    · rintro cs y ⟨rfl, _⟩ d hd; simp at hd; rcases hd with rfl | rfl <;> rfl
    · intro v1 w2 hO1 hx1 hb1
      exact ⟨v1, rfl, hO1, hx1, hb1⟩
  rintro lv1 w1 ⟨hO1, hx1, hb1⟩
  refine ⟨hEd.any.trans hx1, ?_⟩
  have hC1 : Ext (fun b => lv.ownBlock = some b) wb w1 := hEd.any.trans hx1
  refine wpTail_open rfl rfl fun K hK => ?_
  go_simp
  refine hK _ _ hC1 ?_
  clear hK K
  refine wpTail_open rfl rfl fun K hK => ?_
  go_simp
  refine hK _ _ hC1 ?_
  clear hK K
  refine wpTail_last rfl (by kernel_rfl) ?_
  have hE1 : Ext (fun b => lv.ownBlock = some b) w w1 := hB.any.trans hC1
  have m0 : w1.cell? ⟨q, 0, none⟩ = some lv := hE1.cell n1 c0
  have mf : w1.frozen? ⟨q, 0, none⟩ = false := by rw [World.frozen?_of_block (w := w) (hE1.block q hq n1)]; exact fz 0
  obtain ⟨A1, k1, rfl⟩ := hO1.shape
  have hln : (ls ++ [x]).length = ls.length + 1 := by simp
  rw [hln] at hO1 hb1 ⊢
  go_wp2
  unfold Calm
  have hb2 : ∀ b, (Value.slice A1 (ls.length + 1) k1).ownBlock = some b → lv.ownBlock = some b ∨ w.heap.size + 2 ≤ b := fun b hb => (hb1 b hb).imp id fun h => by omega
  have hs1 : w.heap.size + 2 ≤ w1.heap.size := by have := hx1.size; omega
  have hE2 : Ext (fun b => b = q ∨ lv.ownBlock = some b) w (w1.setCell ⟨q, 0, none⟩ (.slice A1 (ls.length + 1) k1)) := (hE1.mono fun _ _ h => .inr h).setCell _ (.inl (.inl rfl)) _
  have hx2 : Ext (fun b => b = q) w1 (w1.setCell ⟨q, 0, none⟩ (.slice A1 (ls.length + 1) k1)) := (Ext.refl (fun b => b = q) w1).setCell ⟨q, 0, none⟩ (.inl rfl) _
  have m0' : (w1.setCell ⟨q, 0, none⟩ (.slice A1 (ls.length + 1) k1)).cell? ⟨q, 0, none⟩ = some (.slice A1 (ls.length + 1) k1) := by go_simp
  have m3' : (w1.setCell ⟨q, 0, none⟩ (.slice A1 (ls.length + 1) k1)).cell? ⟨q, 3, none⟩ = some fv := by have := hE1.cell n1 c3; go_simp
  have m1' : (w1.setCell ⟨q, 0, none⟩ (.slice A1 (ls.length + 1) k1)).cell? ⟨q, 1, none⟩ = some (.slice none 0 0) := by have := hE1.cell n1 c1; go_simp
  have m2' : (w1.setCell ⟨q, 0, none⟩ (.slice A1 (ls.length + 1) k1)).cell? ⟨q, 2, none⟩ = some (.slice none 0 0) := by have := hE1.cell n1 c2; go_simp
  have m4' : (w1.setCell ⟨q, 0, none⟩ (.slice A1 (ls.length + 1) k1)).cell? ⟨q, 4, none⟩ = some (.bool false) := by have := hE1.cell n1 c4; go_simp
  have mf' : ∀ j, (w1.setCell ⟨q, 0, none⟩ (.slice A1 (ls.length + 1) k1)).frozen? ⟨q, j, none⟩ = false := by
    intro j
    have h1 : w1.frozen? ⟨q, j, none⟩ = false := by rw [World.frozen?_of_block (w := w) (hE1.block q hq n1)]; exact fz j
    go_simp
  have hs2 : w1.heap.size ≤ (w1.setCell ⟨q, 0, none⟩ (.slice A1 (ls.length + 1) k1)).heap.size := hx2.size
  generalize w1.setCell ⟨q, 0, none⟩ (.slice A1 (ls.length + 1) k1) = wc at *
  have hO1c : Own 64 (q + 1) (fun b => (Value.slice A1 (ls.length + 1) k1).ownBlock = some b) wc (Value.slice A1 (ls.length + 1) k1) (ls ++ [x]) :=
    hO1.flat fun b hb => ⟨hb, (hO1.above b hb).1, hx2.block b (hO1.above b hb).2 (by have := (hO1.above b hb).1; omega)⟩
  have hRc : Own 24 (q + 1) (fun b => M b ∨ (Value.slice A1 (ls.length + 1) k1).ownBlock = some b ∨ b = w.heap.size + 1) wc fv fs := by
    refine hR.to ⟨hE2.size, fun b hb hm => ⟨?_, hE2.block b hb ?_⟩⟩ fun b hb => ⟨.inl (hR.mine b hb), hE2.block b (hR.above b hb).2 ?_⟩
    · rintro (h | h | h)
      · exact hm h
      · rcases hb2 b h with h | h
        · exact hm (ml b h)
        · omega
      · omega
    · rintro (rfl | h)
      · exact hm mq
      · exact hm (ml b h)
    · rintro (rfl | h)
      · exact hR.low (by omega) hb
      · exact dist b h hb
  obtain ⟨A0, k0', rfl⟩ := hR.shape
  have hnil : ∀ (N : Nat → Prop) (W : World), Sl (α := Int) N W (.slice none 0 0) [] := fun N W => ⟨.inl ⟨rfl, rfl⟩, by decide, fun k hk => absurd hk (by simp)⟩
  have hnilrep : ∀ (N : Nat → Prop) (W : World), Enc.rep N W [.slice none 0 0] ([] : List Int) := fun N W => ⟨_, rfl, hnil N W⟩
  have hMc : ∀ b, (M b ∨ (Value.slice A1 (ls.length + 1) k1).ownBlock = some b ∨ b = w.heap.size + 1) → b < wc.heap.size := by
    intro b hb
    have hs := hE2.size
    rcases hb with h | h | h
    · have := (low b h).2; omega
    · exact (hO1c.above b h).2
    · omega
  have d0' : wc.cell? ⟨w.heap.size + 1, 0, none⟩ = some (.slice none 0 0) := hx2.cell (show ¬ (w.heap.size + 1 = q) by omega) (hC1.cell (fun e => absurd (hO.above _ e).2 (show ¬ (w.heap.size + 1 < w.heap.size) by omega)) d0)
  have d1' : wc.cell? ⟨w.heap.size + 1, 1, none⟩ = some (.slice none 0 0) := hx2.cell (show ¬ (w.heap.size + 1 = q) by omega) (hC1.cell (fun e => absurd (hO.above _ e).2 (show ¬ (w.heap.size + 1 < w.heap.size) by omega)) d1)
  have d2' : wc.cell? ⟨w.heap.size + 1, 2, none⟩ = some (.bool false) := hx2.cell (show ¬ (w.heap.size + 1 = q) by omega) (hC1.cell (fun e => absurd (hO.above _ e).2 (show ¬ (w.heap.size + 1 < w.heap.size) by omega)) d2)
  have hfr' : wc.heap[w.heap.size + 1]? = some (.cells #[.slice none 0 0, .slice none 0 0, .bool false] 76 (0, 0)) := by
    rw [hx2.block _ (by omega) (by omega), hC1.block _ (by omega) (fun e => absurd (hO.above _ e).2 (show ¬ (w.heap.size + 1 < w.heap.size) by omega))]; exact hfr
  go_wp2_with (first
    | (at_builtin; go_loud (
    refine wpl_append (M := fun b => M b ∨ (Value.slice A1 (ls.length + 1) k1).ownBlock = some b ∨ b = w.heap.size + 1) (.tmp 25) (.tmp 26) 25 24 rfl rfl (.slice none 0 0) 24 Tryz.underlying25 (by kernel_rfl) rfl (q + 1) (.slice A0 fs.length k0') _ fs [[]] rfl rfl ?_ ?_ ?_ ?_ ?_ ?_ ?_
    (· exact hRc.ext (Ext.alloc (Ext.refl _ _) _))
    (· exact Sl.lit1' (w := wc) (cs := [.slice none 0 0]) (hnilrep _ _) _ _ rfl hMc)
    (· simp; omega)
    (· rintro cs y ⟨u, rfl, hu⟩ d hd; simp at hd; subst hd; obtain ⟨A, c, rfl⟩ := hu.form; rfl)
    (· decide)
    (· simp; omega)
    rintro fv1 w2 ⟨M1, hR1, hK1, hsub, hup, hx3, hb3⟩
    obtain ⟨A2, k2, rfl⟩ := hR1.shape
    have hln2 : (fs ++ [[]]).length = fs.length + 1 := by simp
    have hE3 : Ext (fun b => (Value.slice A0 fs.length k0').ownBlock = some b) wc w2 := (Ext.alloc (Ext.refl No wc) _).any.trans hx3
    have p3 := hE3.cell (hR.low (by show q < q + 1; omega)) m3'
    have pf : ∀ j, w2.frozen? ⟨q, j, none⟩ = false := fun j => by rw [World.frozen?_of_block (w := wc) (hE3.block q (by omega) (hR.low (by omega)))]; exact mf' j
    have nS : ¬ (Value.slice A0 fs.length k0').ownBlock = some (w.heap.size + 1) := hR.high (by omega)
    have e0 := hE3.cell nS d0'
    have e1 := hE3.cell nS d1'
    have e2 := hE3.cell nS d2'
    have hfr2 : w2.heap[w.heap.size + 1]? = some (.cells #[.slice none 0 0, .slice none 0 0, .bool false] 76 (0, 0)) := by rw [hE3.block _ (by omega) nS]; exact hfr'
    have ef : ∀ j, w2.frozen? ⟨w.heap.size + 1, j, none⟩ = false := fun j => frozen_cells hfr2 j
    have hs3 : wc.heap.size < w2.heap.size := (by have := hx3.size; simp at this; omega)))
    | (refine gate_ (.store 76 (.tmp 4) (.tmp 34)) rfl ?_; go_loud (
       have hE4 := (((Ext.refl (fun b => b = q) w2).setCell ⟨q, 3, none⟩ (.inl rfl) (.slice A2 (fs.length + 1) k2)).alloc (.cells #[.int .i64 (ls.length : Int)] 3)).alloc (.cells #[.int .i64 (ls.length : Int)] 3)
       refine wpl_whole 76 (.tmp 4) (.tmp 34) rfl rfl rfl (w.heap.size + 1) 76 _ #[.slice (some ⟨w2.heap.size, 0, none⟩) 1 1, .slice (some ⟨w2.heap.size + 1, 0, none⟩) 1 1, .bool false] rfl rfl ((hE4.block _ (by omega) (by omega)).trans hfr2) (by kernel_rfl) rfl ?_ ?_
       (· intro d hd; simp at hd; rcases hd with rfl | rfl | rfl <;> rfl)
       rintro wz hfz hEz
       have z0 : wz.cell? ⟨w.heap.size + 1, 0, none⟩ = some (.slice (some ⟨w2.heap.size, 0, none⟩) 1 1) := by simp [World.cell?, hfz]
       have z1 : wz.cell? ⟨w.heap.size + 1, 1, none⟩ = some (.slice (some ⟨w2.heap.size + 1, 0, none⟩) 1 1) := by simp [World.cell?, hfz]
       have z2 : wz.cell? ⟨w.heap.size + 1, 2, none⟩ = some (.bool false) := by simp [World.cell?, hfz])))
  refine bodyPost_ret (v := .agg #[.slice (some ⟨w2.heap.size, 0, none⟩) 1 1, .slice (some ⟨w2.heap.size + 1, 0, none⟩) 1 1, .bool false]) (by simp [results, Tryz.results29, go_sem, z0, z1, z2]) rfl ?_
  rw [hln2] at hR1 hb3
  have hws : w2.heap.size = (w2.setCell ⟨q, 3, none⟩ (.slice A2 (fs.length + 1) k2)).heap.size := by simp [World.setCell]
  have hE6 : Ext (fun b => b = w.heap.size + 1) (w2.setCell ⟨q, 3, none⟩ (.slice A2 (fs.length + 1) k2)) wz := ((Ext.alloc (Ext.alloc (Ext.refl No _) _) _).any).trans hEz
  have hE7 : Ext (fun b => b = q) w2 (w2.setCell ⟨q, 3, none⟩ (.slice A2 (fs.length + 1) k2)) := (Ext.refl (fun b => b = q) w2).setCell ⟨q, 3, none⟩ (.inl rfl) _
  have hqS : ¬ q = w.heap.size + 1 := by omega
  have nq : ¬ (Value.slice A0 fs.length k0').ownBlock = some q := hR.low (by omega)
  have r3 : (w2.setCell ⟨q, 3, none⟩ (.slice A2 (fs.length + 1) k2)).cell? ⟨q, 3, none⟩ = some (.slice A2 (fs.length + 1) k2) := by go_simp
  have r0 : (w2.setCell ⟨q, 3, none⟩ (.slice A2 (fs.length + 1) k2)).cell? ⟨q, 0, none⟩ = some (.slice A1 (ls.length + 1) k1) := by have := hE3.cell nq m0'; go_simp
  have r1 : (w2.setCell ⟨q, 3, none⟩ (.slice A2 (fs.length + 1) k2)).cell? ⟨q, 1, none⟩ = some (.slice none 0 0) := by have := hE3.cell nq m1'; go_simp
  have r2 : (w2.setCell ⟨q, 3, none⟩ (.slice A2 (fs.length + 1) k2)).cell? ⟨q, 2, none⟩ = some (.slice none 0 0) := by have := hE3.cell nq m2'; go_simp
  have r4 : (w2.setCell ⟨q, 3, none⟩ (.slice A2 (fs.length + 1) k2)).cell? ⟨q, 4, none⟩ = some (.bool false) := by have := hE3.cell nq m4'; go_simp
  have rf : ∀ j, (w2.setCell ⟨q, 3, none⟩ (.slice A2 (fs.length + 1) k2)).frozen? ⟨q, j, none⟩ = false := by
    intro j
    have := pf j
    go_simp
  have hL0 := fun (N : Nat → Prop) (hN : ∀ b, N b → b < w2.heap.size) => Sl.lit1' (M := N) (w := w2.setCell ⟨q, 3, none⟩ (.slice A2 (fs.length + 1) k2)) (cs := [.int .i64 (ls.length : Int)]) (x := (ls.length : Int)) rfl 3 w2.heap.size hws (fun b hb => by rw [← hws]; exact hN b hb)
  have hL1 := fun (N : Nat → Prop) (hN : ∀ b, N b → b < w2.heap.size) => Sl.lit1' (M := N) (w := (w2.setCell ⟨q, 3, none⟩ (.slice A2 (fs.length + 1) k2)).alloc (.cells #[.int .i64 (ls.length : Int)] 3)) (cs := [.int .i64 (ls.length : Int)]) (x := (ls.length : Int)) rfl 3 (w2.heap.size + 1) (by simp) (fun b hb => by have := hN b hb; simp; omega)
  have hz1 : Ext (fun b => b = w.heap.size + 1) ((w2.setCell ⟨q, 3, none⟩ (.slice A2 (fs.length + 1) k2)).alloc (.cells #[.int .i64 (ls.length : Int)] 3)) wz := ((Ext.alloc (Ext.refl No _) _).any).trans hEz
  generalize hwsd : w2.setCell ⟨q, 3, none⟩ (.slice A2 (fs.length + 1) k2) = ws at *
  have hfvl : ∀ b, (Value.slice A0 fs.length k0').ownBlock = some b → q + 1 ≤ b ∧ b < w.heap.size := fun b e => hR.above b e
  have hlv1 : ∀ b, (Value.slice A1 (ls.length + 1) k1).ownBlock = some b → q + 1 ≤ b ∧ b < wc.heap.size := fun b e => hO1c.above b e
  have hfv1 : ∀ b, (Value.slice A2 (fs.length + 1) k2).ownBlock = some b → (Value.slice A0 fs.length k0').ownBlock = some b ∨ wc.heap.size + 1 ≤ b := fun b e => by have := hb3 b e; simpa using this
  have hfv2 : ∀ b, (Value.slice A2 (fs.length + 1) k2).ownBlock = some b → q + 1 ≤ b ∧ b < w2.heap.size := fun b e => hR1.above b e
  have hE8 : Ext (fun b => b = q ∨ b = w.heap.size + 1) w2 wz := (hE7.mono fun _ _ h => .inl h).trans (hE6.mono fun _ _ h => .inr h)
  have hEall : Ext (fun b => b = q ∨ lv.ownBlock = some b ∨ (Value.slice A0 fs.length k0').ownBlock = some b) w wz :=
    ((hE2.mono fun b _ h => h.imp id .inl).trans (hE3.mono fun b _ h => .inr (.inr h))).then hE8 fun b hb h => h.imp id fun h => by omega
  have hm2 : ∀ b, (M b ∨ (Value.slice A1 (ls.length + 1) k1).ownBlock = some b ∨ b = w.heap.size + 1) ∨ (Value.slice A2 (fs.length + 1) k2).ownBlock = some b → b < w2.heap.size := by
    rintro b (h | h)
    · have := hMc b h; omega
    · exact (hfv2 b h).2
  refine ⟨fun b => (M b ∨ (Value.slice A1 (ls.length + 1) k1).ownBlock = some b ∨ b = w.heap.size + 1) ∨ (Value.slice A2 (fs.length + 1) k2).ownBlock = some b, .slice A1 (ls.length + 1) k1, .slice A2 (fs.length + 1) k2, _, _, rfl, ?_, ?_, ?_, ?_, hEall, ?_, ?_, ?_, ?_⟩
  · refine ⟨hE6.cell hqS r0, hE6.cell hqS r1, hE6.cell hqS r2, hE6.cell hqS r3, hE6.cell hqS r4, ?_, ?_, ?_, .inl (.inl mq), fun b e => .inl (.inr (.inl e)), ?_, ?_⟩
    · intro j
      rw [World.frozen?_of_block (w := ws) (hE6.block q (by omega) hqS)]; exact rf j
    · refine hO1c.flat fun b e => ⟨e, (hlv1 b e).1, ?_⟩
      have h1 := hlv1 b e
      have g1 : ¬ (b = q ∨ b = w.heap.size + 1) := by
        rintro (h | h)
        · omega
        · rcases hb2 b e with h' | h'
          · have := (hO.above b h').2; omega
          · omega
      have g2 : ¬ (Value.slice A0 fs.length k0').ownBlock = some b := by
        intro h
        rcases hb2 b e with h' | h'
        · exact dist b h' h
        · have := (hfvl b h).2; omega
      rw [hE8.block b (by omega) g1, hE3.block b h1.2 g2]
    · refine hR1.to ⟨hE8.size, fun b hb hm => ⟨?_, hE8.block b hb ?_⟩⟩ fun b e => ⟨.inr e, hE8.block b (hfv2 b e).2 ?_⟩
      · rintro (h | h)
        · exact hm (hsub b h)
        · exact hm (hR1.mine b h)
      · rintro (h | h)
        · subst h; exact hm (hsub _ (.inl mq))
        · subst h; exact hm (hsub _ (.inr (.inr rfl)))
      · rintro (h | h)
        · have := (hfv2 b e).1; omega
        · rcases hfv1 b e with h' | h'
          · have := (hfvl b h').2; omega
          · omega
    · intro b e1 e2
      have h1 := hlv1 b e1
      rcases hfv1 b e2 with h | h
      · rcases hb2 b e1 with h' | h'
        · exact dist b h' h
        · have := (hfvl b h).2; omega
      · omega
    · intro b hb
      have h1 := hm2 b hb
      have h2 := hE8.size
      refine ⟨?_, by omega⟩
      rcases hb with (h | h | h) | h
      · exact (low b h).1
      · have := (hlv1 b h).1; omega
      · omega
      · have := (hfv2 b h).1; omega
  · refine ⟨hEall.size, fun b hb hm => ⟨?_, hEall.block b hb ?_⟩⟩
    · rintro ((h | h | h) | h)
      · exact hm h
      · rcases hb2 b h with h' | h'
        · exact hm (ml b h')
        · omega
      · omega
      · rcases hfv1 b h with h' | h'
        · exact hm (hR.mine b h')
        · omega
    · rintro (h | h | h)
      · subst h; exact hm mq
      · exact hm (ml b h)
      · exact hm (hR.mine b h)
  · exact fun b h => .inl (.inl h)
  · rintro b ((h | h | h) | h)
    · exact .inl h
    · rcases hb2 b h with h' | h'
      · exact .inl (ml b h')
      · exact .inr (by omega)
    · exact .inr (by omega)
    · rcases hfv1 b h with h' | h'
      · exact .inl (hR.mine b h')
      · exact .inr (by omega)
  · exact (hL0 _ hm2).ext (hz1.mono fun b _ h => .inl (.inr (.inr h)))
  · exact (hL1 _ hm2).ext (hEz.mono fun b _ h => .inl (.inr (.inr h)))
  · intro b e
    rcases hb2 b e with h | h
    · exact .inl h
    · exact .inr (by omega)
  · intro b e
    rcases hfv1 b e with h | h
    · exact .inl h
    · exact .inr (by omega)
end Go.Proofs.An
