/-
  (auto.Auto).Count.
-/
import Derived.Test.YtjdmpockaflcnaaGreatDoorCountPure
import Derived.Test.YtjdmpockaflcnaaGreatDoorPlan
namespace Go.Proofs.An
open Go.RowKit
/-- What Count and Walks ask of an Auto that is read. -/
structure AutoIs (M : Nat → Prop) (w : World) (lv f l fv : Value) (ls : List Step) (first last : List Int) (fs : List (List Int)) : Prop where
  labs : Sl M w lv ls
  sf : Sl M w f first
  sl : Sl M w l last
  rows : Sl M w fv fs
  len : fs.length = ls.length
  small : ls.length ≤ 1000
  good : GoodF ls.length fs
  fin : InPlaces ls.length first
  lin : InPlaces ls.length last
  flen : first.length ≤ 1000
  llen : last.length ≤ 1000
theorem AutoIs.ext {M w w' lv f l fv ls first last fs} (h : AutoIs M w lv f l fv ls first last fs) (hE : Ext M w w') : AutoIs M w' lv f l fv ls first last fs :=
  ⟨h.labs.ext hE, h.sf.ext hE, h.sl.ext hE, h.rows.ext hE, h.len, h.small, h.good, h.fin, h.lin, h.flen, h.llen⟩
theorem five {w : World} {b : Nat} {x0 x1 x2 x3 x4 : Value} {t : TypeId} (h : w.heap[b]? = some (.cells #[x0, x1, x2, x3, x4] t (0, 0))) : w.cell? ⟨b, 0, none⟩ = some x0 ∧ w.cell? ⟨b, 1, none⟩ = some x1 ∧ w.cell? ⟨b, 2, none⟩ = some x2 ∧ w.cell? ⟨b, 3, none⟩ = some x3 ∧ w.cell? ⟨b, 4, none⟩ = some x4 :=
  ⟨by simp [World.cell?, h], by simp [World.cell?, h], by simp [World.cell?, h], by simp [World.cell?, h], by simp [World.cell?, h]⟩
theorem nth_getD (l : List Int) (k : Nat) : nth l k = l.getD k 0 := rfl
set_option maxRecDepth 100000 in
set_option maxHeartbeats 3200000 in
theorem count_any (M0 : Nat → Prop) (w : World) (lv f l fv : Value) (e0 : Bool) (ls : List Step) (first last : List Int) (fs : List (List Int)) (most : Int) (hm : -9223372036854775808 ≤ most ∧ most ≤ 9223372036854775807)
    (hI0 : AutoIs M0 w lv f l fv ls first last fs) :
    Calls Tryz.prog 11 #[.agg #[lv, f, l, fv, .bool e0], .int .i64 most] w fun e w' => e = .returned (.int .i64 (countM ls.length first last fs most)) ∧ Ext No w w' := by
  have hI : AutoIs No w lv f l fv ls first last fs := ⟨hI0.labs.free fun _ _ h => h.elim, hI0.sf.free fun _ _ h => h.elim, hI0.sl.free fun _ _ h => h.elim, hI0.rows.free fun _ _ h => h.elim, hI0.len, hI0.small, hI0.good, hI0.fin, hI0.lin, hI0.flen, hI0.llen⟩
  clear hI0
  obtain ⟨Al, cl, rfl⟩ := hI.labs.form
  obtain ⟨Af, cf, rfl⟩ := hI.sf.form
  obtain ⟨Aq, cq, rfl⟩ := hI.sl.form
  obtain ⟨Av, cv, rfl⟩ := hI.rows.form
  have lf := hI.sf.len_rule (P := Tryz.prog) 24 (by kernel_rfl)
  have xf := hI.sf.idx_rule (P := Tryz.prog) 24 (by kernel_rfl) (by kernel_rfl)
  have ll := hI.sl.len_rule (P := Tryz.prog) 24 (by kernel_rfl)
  have xl := hI.sl.idx_rule (P := Tryz.prog) 24 (by kernel_rfl) (by kernel_rfl)
  have lq := hI.rows.len_rule (P := Tryz.prog) 25 (by kernel_rfl)
  have xq := hI.rows.idx_rule (P := Tryz.prog) 25 (by kernel_rfl) (by kernel_rfl)
  have hmk := make_ints (P := Tryz.prog) 24 3 8 (by kernel_rfl) (by kernel_rfl) ls.length (ls.length : Int) rfl (by have := hI.small; omega) (by decide)
  go_enter Tryz.func11, Tryz.ntmps11
  go_wp2
  have hws : (w.alloc (.cells #[.slice Al ls.length cl, .slice Af first.length cf, .slice Aq last.length cq, .slice Av fs.length cv, .bool e0] 27)).heap.size = w.heap.size + 1 := by simp
  have hEa := Ext.alloc (Ext.refl No w) (.cells #[.slice Al ls.length cl, .slice Af first.length cf, .slice Aq last.length cq, .slice Av fs.length cv, .bool e0] 27)
  have hb5 := heap_alloc_new w (.cells #[.slice Al ls.length cl, .slice Af first.length cf, .slice Aq last.length cq, .slice Av fs.length cv, .bool e0] 27)
  have hR0 := heap_alloc_new (w.alloc (.cells #[.slice Al ls.length cl, .slice Af first.length cf, .slice Aq last.length cq, .slice Av fs.length cv, .bool e0] 27)) (.cells (intCells (zeros ls.length)) 3)
  rw [hws] at hR0
  have hIa := hI.ext hEa
  generalize w.alloc (.cells #[.slice Al ls.length cl, .slice Af first.length cf, .slice Aq last.length cq, .slice Av fs.length cv, .bool e0] 27) = wa at *
  have hr0 : Own 3 (w.heap.size + 1) (fun b => b = w.heap.size + 1) (wa.alloc (.cells (intCells (zeros ls.length)) 3)) (.slice (some ⟨w.heap.size + 1, 0, none⟩) ls.length ls.length) (zeros ls.length) := by
    have := Own.of_ints (M := fun b => b = w.heap.size + 1) hR0 (Nat.le_refl _) rfl (cap := ls.length) (by have := hI.small; simp only [maxLen]; omega) (zeros_length _) (zeros ls.length) [] (by simp)
    rwa [zeros_length] at this
  go_loopw [23] (fun t23 W => ∃ j, j ≤ first.length ∧ t23 = .int .i64 j ∧ Ext No wa W ∧ Own 3 (w.heap.size + 1) (fun b => b = w.heap.size + 1) W (.slice (some ⟨w.heap.size + 1, 0, none⟩) ls.length ls.length) ((first.take j).foldl (fun r i => r.set i.toNat 1) (zeros' ls.length)))
    (fun t23 _ => first.length - (intOf t23).toNat)
  case atStart => exact ⟨0, Nat.zero_le _, rfl, Ext.alloc (Ext.refl _ _) _, hr0⟩
  case round =>
    obtain ⟨j, hj, rfl, hE, hO⟩ := hrel
    have hfl := hI.flen
    by_cases hlt : j < first.length
    · obtain ⟨cs, rfl, p0, -⟩ := hI.sf.cells j hlt
      have p0 : ∀ W, Ext No wr W → _ := fun W hW => p0 _ rfl W ((hEa.trans hE).trans hW)
      have hij := hI.fin (nth first j) (by rw [nth_eq _ _ hlt]; exact List.getElem_mem hlt)
      have hnext : (first.take (j + 1)).foldl (fun r i => r.set i.toNat 1) (zeros' ls.length) = ((first.take j).foldl (fun r i => r.set i.toNat 1) (zeros' ls.length)).set (nth first j).toNat 1 := by
        rw [List.take_succ_eq_append_getElem hlt, List.foldl_append, nth_eq _ _ hlt]; rfl
      have hlr : ((first.take j).foldl (fun r i => r.set i.toNat 1) (zeros' ls.length)).length = ls.length := by rw [(row0_aux _ _ (Small.zeros _)).1]; simp [zeros']
      have HX := Lib.hid hnext; clear hnext
      generalize (first.take j).foldl (fun r i => r.set i.toNat 1) (zeros' ls.length) = row at *
      generalize nth first j = i at *
      have xr := (hO.sl (M' := No) (fun _ _ h => h) (fun _ _ h => h.elim)).idx_rule (P := Tryz.prog) 24 (by kernel_rfl) (by kernel_rfl)
      go_wp2_with (refine gate_ (.store 3 (.tmp 29) (.const (.int .i64 1))) rfl ?_; go_loud (
        refine wpl_set i.toNat 0 3 (.tmp 29) (.const (.int .i64 1)) rfl rfl rfl _ _ rfl rfl hO (by omega) [.int .i64 1] rfl (by kernel_rfl) ?_ (Nat.le_refl 1) 1 ?_ (add_zero _).symm ?_
        (· intro q hq; simp at hq; subst hq; rfl)
        (· rintro c rfl; rfl)
        intro w2 hO2 hx2))
      exact ⟨⟨j + 1, by omega, by go_num, hE.then hx2 (fun b hb e => by simp [Value.ownBlock] at e; omega), by rw [HX.out]; exact hO2⟩, by simp [intOf]; omega⟩
    · have e : j = first.length := by omega
      subst e
      rw [List.take_length] at hO
      have hO : Own 3 (w.heap.size + 1) (fun b => b = w.heap.size + 1) wr (.slice (some ⟨w.heap.size + 1, 0, none⟩) ls.length ls.length) (row0 ls.length first) := hO
      have hsm := row0_small ls.length first
      have hrl := row0_length ls.length first
      obtain ⟨m, hm1, hm2⟩ : ∃ m : Nat, m ≤ 8 ∧ max 0 (min most 8) = (m : Int) := ⟨(max 0 (min most 8)).toNat, by omega, by omega⟩
      have HM : Hid (countM ls.length first last fs most = ctally fs last (row0 ls.length first) m) := Lib.hid (by unfold countM; rw [show (max 0 (min most 8)).toNat = m by omega])
      generalize row0 ls.length first = r0 at *
      have y2 : ∀ W, Ext No wa W → W.cell? ⟨w.heap.size, 2, none⟩ = some (.slice Aq last.length cq) := fun W hW => hW.cell id (five hb5).2.2.1
      have y3 : ∀ W, Ext No wa W → W.cell? ⟨w.heap.size, 3, none⟩ = some (.slice Av fs.length cv) := fun W hW => hW.cell id (five hb5).2.2.2.1
      have hls := hI.small
      have hfl2 : fs.length ≤ ls.length ∧ ls.length ≤ fs.length := by have := hI.len; omega
      have hll := hI.llen
      clear hr0 hR0
      go_wp2
      go_loopw [5, 8, 34] (fun t5 t8 t34 W => ∃ t, t ≤ m ∧ t34 = .int .i64 t ∧ t8 = .int .i64 (ctally fs last r0 t) ∧ Ext No wa W ∧ ∃ g, t5 = .slice (some ⟨g, 0, none⟩) ls.length ls.length ∧ Own 3 (w.heap.size + 1) (fun b => b = g) W (.slice (some ⟨g, 0, none⟩) ls.length ls.length) (crow fs r0 t))
        (fun _ _ t34 _ => m - (intOf t34).toNat)
      case atStart => exact ⟨0, Nat.zero_le _, rfl, rfl, hE, _, rfl, hO⟩
      case round =>
        obtain ⟨t, htm, rfl, rfl, hE1, g, rfl, hO1⟩ := hrel
        by_cases htl : t < m
        · have hcr := crow_small fs hsm t
          have hct := ctally_small fs last hsm t
          have hlr : (crow fs r0 t).length = ls.length := by rw [crow_length, hrl]
          have HC1 : Hid (ctally fs last r0 (t + 1) = min 1000000 (tally (crow fs r0 t) last (ctally fs last r0 t))) := Lib.hid rfl
          have HC2 : Hid (crow fs r0 (t + 1) = nextTo fs (crow fs r0 t) fs.length) := Lib.hid rfl
          generalize crow fs r0 t = row at *
          generalize ctally fs last r0 t = n0 at *
          have y2w := y2 _ hE1
          go_wp2
          go_loopw [8, 39] (fun t8 t39 W => ∃ j, j ≤ last.length ∧ t39 = .int .i64 j ∧ t8 = .int .i64 (tally row (last.take j) n0) ∧ Ext No wa W ∧ Own 3 (w.heap.size + 1) (fun b => b = g) W (.slice (some ⟨g, 0, none⟩) ls.length ls.length) row)
            (fun _ t39 _ => last.length - (intOf t39).toNat)
          case atStart => exact ⟨0, Nat.zero_le _, rfl, rfl, hE1, hO1⟩
          case round =>
            obtain ⟨j, hj, rfl, rfl, hE2, hO2⟩ := hrel
            have htle := tally_le hcr (last.take j) n0
            have hlj : (last.take j).length ≤ 1000 := by rw [List.length_take]; omega
            by_cases hlt : j < last.length
            · obtain ⟨cs, rfl, p0, -⟩ := hI.sl.cells j hlt
              have p0 : ∀ W, Ext No wr W → _ := fun W hW => p0 _ rfl W ((hEa.trans hE2).trans hW)
              have hij := hI.lin (nth last j) (by rw [nth_eq _ _ hlt]; exact List.getElem_mem hlt)
              have hnext : tally row (last.take (j + 1)) n0 = tally row (last.take j) n0 + nth row (nth last j).toNat := by
                rw [List.take_succ_eq_append_getElem hlt, tally, List.foldl_append, nth_eq _ _ hlt]; rfl
              have HX := Lib.hid hnext; clear hnext
              generalize nth last j = i at *
              generalize tally row (last.take j) n0 = n1 at *
              have hS2 := hO2.sl (M' := No) (fun _ _ h => h) (fun _ _ h => h.elim)
              have xr := hS2.idx_rule (P := Tryz.prog) 24 (by kernel_rfl) (by kernel_rfl)
              obtain ⟨cs, rfl, q0, -⟩ := hS2.cells i.toNat (by omega)
              have q0 : ∀ W, Ext No wr W → _ := q0 _ rfl
              have hrow := hcr i.toNat
              rw [← nth_getD] at hrow
              generalize nth row i.toNat = x at *
              go_wp2
              exact ⟨⟨j + 1, by omega, by go_num, by rw [HX.out], hE2, hO2⟩, by simp [intOf]; omega⟩
            · have e : j = last.length := by omega
              subst e
              rw [List.take_length] at htle
              have HT : Hid (tally row (last.take last.length) n0 = tally row last n0) := Lib.hid (by rw [List.take_length])
              obtain ⟨nt, hnt⟩ : ∃ z, tally row (last.take last.length) n0 = z := ⟨_, rfl⟩
              rw [HT.out] at hnt
              rw [hnt] at htle HC1
              have HT2 := HT.out.trans hnt
              clear hnt HT
              have y3w := y3 _ hE2
              generalize tally row (last.take last.length) n0 = ntl at *
              subst HT2
              go_wp2
              have hgl : g < wr.heap.size := (hO2.above g rfl).2
              have hwl : w.heap.size + 1 ≤ wr.heap.size := by have := hE2.size; omega
              have hE3 : Ext No wr (wr.alloc (.cells (intCells (zeros ls.length)) 3)) := Ext.alloc (Ext.refl _ _) _
              have hN0 : Own 3 (w.heap.size + 1) (fun b => b = wr.heap.size) (wr.alloc (.cells (intCells (zeros ls.length)) 3)) (.slice (some ⟨wr.heap.size, 0, none⟩) ls.length ls.length) (zeros ls.length) := by
                have := Own.of_ints (M := fun b => b = wr.heap.size) (heap_alloc_new wr (.cells (intCells (zeros ls.length)) 3)) hwl rfl (cap := ls.length) (by simp only [maxLen]; omega) (zeros_length _) (zeros ls.length) [] (by simp)
                rwa [zeros_length] at this
              have hzr : zeros ls.length = nextTo fs row 0 := by rw [nextTo, hlr]; rfl
              have hO3 := hO2.ext hE3
              have hE4 := hE2.trans hE3
              generalize wr.alloc (.cells (intCells (zeros ls.length)) 3) = wm at *
              rw [hzr] at hN0
              generalize wr.heap.size = g2 at *
              go_loopw [56] (fun t56 W => ∃ i, i ≤ fs.length ∧ t56 = .int .i64 i ∧ Ext No wa W ∧ Own 3 (w.heap.size + 1) (fun b => b = g) W (.slice (some ⟨g, 0, none⟩) ls.length ls.length) row ∧ Own 3 (w.heap.size + 1) (fun b => b = g2) W (.slice (some ⟨g2, 0, none⟩) ls.length ls.length) (nextTo fs row i))
                (fun t56 _ => fs.length - (intOf t56).toNat)
              case atStart => exact ⟨0, Nat.zero_le _, rfl, hE4, hO3, hN0⟩
              case round =>
                obtain ⟨i, hi, rfl, hE5, hO5, hN5⟩ := hrel
                by_cases hil : i < fs.length
                · obtain ⟨cs, ⟨vi, rfl, hvi⟩, p0, -⟩ := hI.rows.cells i hil
                  have p0 : ∀ W, Ext No wr W → _ := fun W hW => p0 _ rfl W ((hEa.trans hE5).trans hW)
                  have hgr : GoodRow ls.length (nth fs i) := by rw [nth_eq _ _ hil]; exact hI.good _ (List.getElem_mem hil)
                  have hgl2 := hgr.len
                  have hNx := nextTo_succ fs row i
                  have hfi : fs.getD i [] = nth fs i := rfl
                  rw [hfi] at hNx
                  have hsi := (hcr.nextTo (fs := fs) i)
                  have hli : (nextTo fs row i).length = ls.length := by rw [nextTo_length, hlr]
                  have hvi2 := hvi.ext (hEa.trans hE5)
                  have HN := Lib.hid hNx; clear hNx
                  generalize nextTo fs row i = nx at *
                  generalize nth fs i = r at *
                  have lr := hvi2.len_rule (P := Tryz.prog) 24 (by kernel_rfl)
                  have xr := hvi2.idx_rule (P := Tryz.prog) 24 (by kernel_rfl) (by kernel_rfl)
                  have hS5 := hO5.sl (M' := No) (fun _ _ h => h) (fun _ _ h => h.elim)
                  obtain ⟨cs, rfl, q0, -⟩ := hS5.cells i (by omega)
                  have q0 : ∀ W, Ext No wr W → _ := q0 _ rfl
                  have hrow := hcr i
                  rw [← nth_getD] at hrow HN
                  have xrow := hS5.idx_rule (P := Tryz.prog) 24 (by kernel_rfl) (by kernel_rfl)
                  have hli0 : 0 ≤ (i : Int) ∧ (i : Int) < ls.length := by omega
                  go_wp2
                  go_loopw [63] (fun t63 W => ∃ k, k ≤ r.length ∧ t63 = .int .i64 k ∧ Ext No wa W ∧ Own 3 (w.heap.size + 1) (fun b => b = g) W (.slice (some ⟨g, 0, none⟩) ls.length ls.length) row ∧ Own 3 (w.heap.size + 1) (fun b => b = g2) W (.slice (some ⟨g2, 0, none⟩) ls.length ls.length) ((r.take k).foldl (bump (nth row i)) nx))
                    (fun t63 _ => r.length - (intOf t63).toNat)
                  case atStart => exact ⟨0, Nat.zero_le _, rfl, hE5, hO5, hN5⟩
                  case round =>
                    obtain ⟨k, hk, rfl, hE6, hO6, hN6⟩ := hrel
                    have hsk := Small.bumps hrow.1 (r.take k) hsi
                    have hlk : ((r.take k).foldl (bump (nth row i)) nx).length = ls.length := by rw [bumps_length, hli]
                    by_cases hkl : k < r.length
                    · obtain ⟨cs, rfl, p0, -⟩ := (hvi.ext (hEa.trans hE6)).cells k hkl
                      have p0 : ∀ W, Ext No wr W → _ := p0 _ rfl
                      have hkin := hgr.1 (nth r k) (by rw [nth_eq _ _ hkl]; exact List.getElem_mem hkl)
                      have hnext : (r.take (k + 1)).foldl (bump (nth row i)) nx = bump (nth row i) ((r.take k).foldl (bump (nth row i)) nx) (nth r k) := by
                        rw [List.take_succ_eq_append_getElem hkl, List.foldl_append, nth_eq _ _ hkl]; rfl
                      have HX := Lib.hid hnext; clear hnext
                      generalize (r.take k).foldl (bump (nth row i)) nx = nk at *
                      generalize nth r k = kk at *
                      have hS6 := hO6.sl (M' := No) (fun _ _ h => h) (fun _ _ h => h.elim)
                      obtain ⟨cs, rfl, a0, -⟩ := hS6.cells i (by omega)
                      have a0 : ∀ W, Ext No wr W → _ := a0 _ rfl
                      have hN6' := hN6.sl (M' := No) (fun _ _ h => h) (fun _ _ h => h.elim)
                      have xn := hN6'.idx_rule (P := Tryz.prog) 24 (by kernel_rfl) (by kernel_rfl)
                      obtain ⟨cs, rfl, b0, -⟩ := hN6'.cells kk.toNat (by omega)
                      have b0 : ∀ W, Ext No wr W → _ := b0 _ rfl
                      have hb0 := hsk kk.toNat
                      rw [← nth_getD] at hb0
                      have hbump : Hid (bump (nth row i) nk kk = nk.set kk.toNat (min 1000000 (nth nk kk.toNat + nth row i))) := Lib.hid rfl
                      generalize nth row i = x at *
                      generalize nth nk kk.toNat = y at *
                      go_wp2
                      refine wp_region_reads 12 (by kernel_rfl) (by kernel_rfl) (fun W => Ext No wr W) (Ext.drew (Ext.refl _ _)) ?_
                      have hEd : Ext No wr { wr with drawn := wr.drawn + 1 } := Ext.drew (Ext.refl _ _)
                      generalize ({ wr with drawn := wr.drawn + 1 } : World) = wd at hEd ⊢
                      simp only [List.take]
                      refine wpRead_value rfl (.slice (some ⟨g2, 0, none⟩) ls.length ls.length) (fun W hW => by go_simp) ?_
                      refine wpRead_value rfl (.int .i64 kk) (fun W hW => by go_simp) ?_
                      refine wpRead_value rfl (.slice (some ⟨g2, 0, none⟩) ls.length ls.length) (fun W hW => by go_simp) ?_
                      refine wpRead_value rfl (.int .i64 kk) (fun W hW => by go_simp) ?_
                      refine wpRead_value rfl (.pointer (some (eaddr (.slice (some ⟨g2, 0, none⟩) ls.length ls.length) (Enc.n Int) kk.toNat))) (fun W hW => by go_simp) ?_
                      refine wpRead_value rfl (.int .i64 y) (fun W hW => by have h1 := b0 W hW; go_simp) ?_
                      refine wpRead_value rfl (.slice (some ⟨g, 0, none⟩) ls.length ls.length) (fun W hW => by go_simp) ?_
                      refine wpRead_value rfl (.int .i64 i) (fun W hW => by go_simp) ?_
                      refine wpRead_value rfl (.pointer (some (eaddr (.slice (some ⟨g, 0, none⟩) ls.length ls.length) (Enc.n Int) i))) (fun W hW => by go_simp) ?_
                      refine wpRead_value rfl (.int .i64 x) (fun W hW => by have h1 := a0 W hW; go_simp) ?_
                      refine wpRead_value rfl (.int .i64 (y + x)) (fun W hW => by go_simp; exact wrap_small _ (by omega) (by omega)) ?_
                      refine wpRead_value rfl (.int .i64 (min 1000000 (y + x))) (fun W hW => by go_simp) ?_
                      refine wpRead_nil ?_
                      refine wpTail_drop (by kernel_rfl) ?_
                      simp only [List.drop]
                      have hN7 := hN6.ext hEd
                      go_wp2_with (refine gate_ (.store 3 (.tmp 79) (.tmp 78)) rfl ?_; go_loud (
                        refine wpl_set kk.toNat 0 3 (.tmp 79) (.tmp 78) rfl rfl rfl _ _ rfl rfl hN7 (by omega) [.int .i64 (min 1000000 (y + x))] rfl (by kernel_rfl) ?_ (Nat.le_refl 1) (min 1000000 (y + x)) ?_ (add_zero _).symm ?_
                        (· intro q hq; simp at hq; subst hq; rfl)
                        (· rintro c rfl; rfl)
                        intro w2 hO2' hx2))
                      unfold Calm
                      go_wp2
                      have hx3 := hEd.any.trans hx2
                      refine ⟨⟨k + 1, by omega, by go_num, hE6.then hx3 (fun b hb e => ?_), ?_, by rw [HX.out, hbump.out]; exact hO2'⟩, by simp [intOf]; omega⟩
                      · simp [Value.ownBlock] at e; omega
                      · exact hO6.flat fun b e => ⟨by simp [Value.ownBlock] at e; omega, (hO6.above b e).1, hx3.block b (hO6.above b e).2 (fun e2 => by simp [Value.ownBlock] at e e2; omega)⟩
                    · have e : k = r.length := by omega
                      subst e
                      rw [List.take_length] at hN6
                      go_wp2
                      exact ⟨⟨i + 1, by omega, by go_num, hE6, hO6, by rw [HN.out]; exact hN6⟩, by simp [intOf]; omega⟩
                · have e : i = fs.length := by omega
                  subst e
                  go_wp2
                  exact ⟨⟨t + 1, by omega, by go_num, by rw [HC1.out], hE5, g2, rfl, by rw [HC2.out]; exact hN5⟩, by simp [intOf]; omega⟩
        · have e : t = m := by omega
          subst e
          go_wp2
          go_ret
          exact ⟨by rw [HM.out]; rfl, hEa.trans hE1⟩
end Go.Proofs.An
