/-
  (auto.Auto).Walks.
-/
import Derived.Test.YtjdmpockaflcnaaGreatDoorFuncs
import Derived.Test.YtjdmpockaflcnaaGreatDoorCount
namespace Go.Proofs.An
open Go.RowKit
theorem step_eq (y x : Step) : y = x ↔ (y.kind = x.kind ∧ y.label.toList = x.label.toList) := by
  refine ⟨fun h => by subst h; exact ⟨rfl, rfl⟩, fun ⟨h1, h2⟩ => ?_⟩
  rw [toList_bl, toList_bl] at h2
  cases y; cases x
  simp only [Step.mk.injEq]
  exact ⟨h1, bl_inj h2⟩
def hasLab (ls : List Step) (x : Step) (i : Int) : Bool := decide (nth ls i.toNat = x)
set_option maxRecDepth 100000 in
set_option maxHeartbeats 800000 in
theorem closure1 (W : World) (b2 b7 : Nat) (lv : Value) (ls : List Step) (x : Step) (hl : W.cell? ⟨b2, 0, none⟩ = some lv) (hS : Sl No W lv ls) (hx0 : W.cell? ⟨b7, 0, none⟩ = some (.int .i64 x.kind)) (hx1 : W.cell? ⟨b7, 1, none⟩ = some (.string x.label))
    (i : Int) (h0 : 0 ≤ i) (h1 : i < ls.length) (hbig : ls.length ≤ 1000) :
    Calls Tryz.prog 71 #[.int .i64 i, .pointer (some ⟨b2, 0, none⟩), .pointer (some ⟨b7, 0, none⟩)] W fun e w' => e = .returned (.bool (!hasLab ls x i)) ∧ ∃ q, w' = W.drewN q := by
  have l1 := hS.len_rule (P := Tryz.prog) 22 (by kernel_rfl)
  have i1 := hS.idx_rule (P := Tryz.prog) 22 (by kernel_rfl) (by kernel_rfl)
  obtain ⟨cs, ⟨rfl, hsz, hk64⟩, p0, p1⟩ := hS.cells i.toNat (by omega)
  have p1 : ∀ W', Ext No W W' → _ := p1 1 (by decide) _ rfl
  have p0 : ∀ W', Ext No W W' → _ := p0 _ rfl
  unfold hasLab
  generalize nth ls i.toNat = y at *
  have hit : ∀ W, (Instr.indexAt 22 lv (.int .i64 i)).run Tryz.prog W = .ok (.pointer (some (eaddr lv (Enc.n Step) i.toNat))) W := fun W => i1 i W h0 h1
  go_enter Tryz.func71, Tryz.ntmps71
  go_wp2
  refine wp_region_reads 7 (by kernel_rfl) (by kernel_rfl) (fun W' => Ext No W W') (Ext.drew (Ext.refl _ _)) ?_
  simp only [List.take]
  refine wpRead_value rfl (.pointer (some ⟨b2, 0, none⟩)) (fun W hW => by go_simp) ?_
  refine wpRead_value rfl lv (fun W hW => by have := hW.cell id hl; go_simp) ?_
  refine wpRead_value rfl (.int .i64 i) (fun W hW => by go_simp) ?_
  refine wpRead_value rfl (.pointer (some (eaddr lv (Enc.n Step) i.toNat))) (fun W hW => by go_simp) ?_
  refine wpRead_value rfl (.agg #[.int .i64 y.kind, .string y.label]) (fun W hW => by have := p0 W hW; have := p1 W hW; go_simp) ?_
  refine wpRead_value rfl (.agg #[.int .i64 x.kind, .string x.label]) (fun W hW => by have := hW.cell id hx0; have := hW.cell id hx1; go_simp) ?_
  refine wpRead_value rfl (.bool (!decide (y = x))) (fun W hW => by go_simp; by_cases a : y.kind = x.kind <;> by_cases b : y.label.toList = x.label.toList <;> simp [step_eq, a, b]) ?_
  refine wpRead_nil ?_
  refine wpTail_drop (by kernel_rfl) ?_
  simp only [List.drop]
  unfold Calm
  go_wp2
  go_ret
  exact ⟨rfl, 1, rfl⟩
set_option maxRecDepth 100000 in
set_option maxHeartbeats 800000 in
theorem closure2 (W : World) (b2 : Nat) (v : Value) (last : List Int) (hl : W.cell? ⟨b2, 2, none⟩ = some v) (hS : Sl No W v last) (i : Int) (hbig : last.length ≤ 1000) :
    Calls Tryz.prog 73 #[.int .i64 i, .pointer (some ⟨b2, 0, none⟩)] W fun e w' => e = .returned (.bool (last.contains i)) ∧ ∃ q, w' = W.drewN q := by
  have HC := Lib.hid (contains_ints hS i (by omega))
  go_enter Tryz.func73, Tryz.ntmps73
  go_wp2_with (go_at_call 74; refine HC.out.mono ?_; rintro e w1 ⟨rfl, rfl⟩)
  go_ret
  exact ⟨ret_bool (by simp), 0, rfl⟩
def atPl (ls : List Step) (nx : List Int) (x : Step) : List Int := nx.filter (hasLab ls x)
def nextPl (ls : List Step) (fs : List (List Int)) (nx : List Int) (x : Step) : List Int := Lib.compact (srt ((atPl ls nx x).flatMap (follow fs)))
def walkFrom (ls : List Step) (last : List Int) (fs : List (List Int)) : List Int → List Step → Bool
  | _, [] => false
  | nx, [x] => (atPl ls nx x).any fun i => last.contains i
  | nx, x :: y :: r => walkFrom ls last fs (nextPl ls fs nx x) (y :: r)
def walksM (ls : List Step) (first last : List Int) (fs : List (List Int)) (e0 : Bool) (word : List Step) : Bool :=
  if word = [] then e0 else walkFrom ls last fs first word
def nextsTo (ls : List Step) (fs : List (List Int)) (first : List Int) (l : List Step) : List Int := l.foldl (nextPl ls fs) first
theorem walkFrom_drop (ls : List Step) (last : List Int) (fs : List (List Int)) : ∀ (word : List Step) (nx : List Int) (j : Nat), j < word.length → walkFrom ls last fs nx word = walkFrom ls last fs (nextsTo ls fs nx (word.take j)) (word.drop j) := by
  intro word
  induction word with
  | nil => intro nx j h; simp at h
  | cons x word ih =>
    intro nx j h
    cases j with
    | zero => rfl
    | succ j =>
      match word, ih, h with
      | [], _, h => simp at h
      | y :: r, ih, h =>
        simp only [walkFrom]
        rw [ih _ j (by simpa using h)]
        rfl
theorem nextsTo_snoc (ls : List Step) (fs : List (List Int)) (first : List Int) (l : List Step) (x : Step) : nextsTo ls fs first (l ++ [x]) = nextPl ls fs (nextsTo ls fs first l) x := by simp [nextsTo]
theorem atPl_in {n : Nat} {ls : List Step} {nx : List Int} (h : InPlaces n nx) (x : Step) : InPlaces n (atPl ls nx x) := fun i hi => h i (List.mem_filter.1 hi).1
theorem follow_in {n : Nat} {fs : List (List Int)} (h : GoodF n fs) (e : Int) : InPlaces n (follow fs e) ∧ (follow fs e).length ≤ n := by
  unfold follow
  rw [List.getD_eq_getElem?_getD]
  cases hk : fs[e.toNat]? with
  | none => exact ⟨fun i hi => by simp at hi, by simp⟩
  | some q => exact ⟨(h q (List.mem_of_getElem? hk)).1, (h q (List.mem_of_getElem? hk)).len⟩
theorem flat_in {n : Nat} {fs : List (List Int)} (h : GoodF n fs) (l : List Int) : InPlaces n (l.flatMap (follow fs)) := by
  intro i hi
  obtain ⟨e, _, he⟩ := List.mem_flatMap.1 hi
  exact (follow_in h e).1 i he
theorem flatF_len {n : Nat} {fs : List (List Int)} (h : GoodF n fs) (l : List Int) : (l.flatMap (follow fs)).length ≤ l.length * n := by
  induction l with
  | nil => simp
  | cons e l ih =>
    rw [List.flatMap_cons, List.length_append, List.length_cons, Nat.add_mul, Nat.one_mul]
    have := (follow_in h e).2
    omega
theorem nextPl_good {n : Nat} {ls : List Step} {fs : List (List Int)} (h : GoodF n fs) (nx : List Int) (x : Step) : GoodRow n (nextPl ls fs nx x) := by
  have := compact_spec (srt ((atPl ls nx x).flatMap (follow fs))) (srt_sorted _)
  exact ⟨fun i hi => flat_in h _ i ((srt_mem _ _).1 ((this.2 i).1 hi)), this.1⟩
theorem sort_own {E B M w v} {xs : List Int} (h : Own E B M w v xs) (hl : xs.length ≤ 1000000) :
    Calls Tryz.prog 75 #[v] w fun e w' => e = .returned (.tuple #[]) ∧ Own E B M w' v (srt xs) ∧ Ext (fun b => v.ownBlock = some b) w w' := by
  by_cases hv : v = .slice none 0 0
  · subst hv
    obtain ⟨cells, hr, _⟩ := h.row
    have hx : xs = [] := by
      rcases hr.2 with ⟨_, h0⟩ | ⟨g, cap, cur, he, _⟩
      · exact List.eq_nil_of_length_eq_zero h0
      · cases he
    subst hx
    refine (sort_none none 0 w).mono ?_
    rintro e w' ⟨rfl, rfl⟩
    exact ⟨rfl, by simpa [srt] using h, Ext.refl _ _⟩
  · exact sort_ints h hv hl
set_option maxRecDepth 100000 in
set_option maxHeartbeats 3200000 in
theorem walks_any (M0 M1 : Nat → Prop) (w : World) (lv f l fv v : Value) (e0 : Bool) (ls : List Step) (first last : List Int) (fs : List (List Int)) (word : List Step) (hne : 0 < ls.length)
    (hI0 : AutoIs M0 w lv f l fv ls first last fs) (hV0 : Sl M1 w v word) :
    Calls Tryz.prog 27 #[.agg #[lv, f, l, fv, .bool e0], v] w fun e w' => e = .returned (.bool (walksM ls first last fs e0 word)) ∧ Ext No w w' := by
  have hI : AutoIs No w lv f l fv ls first last fs := ⟨hI0.labs.free fun _ _ h => h.elim, hI0.sf.free fun _ _ h => h.elim, hI0.sl.free fun _ _ h => h.elim, hI0.rows.free fun _ _ h => h.elim, hI0.len, hI0.small, hI0.good, hI0.fin, hI0.lin, hI0.flen, hI0.llen⟩
  have hV : Sl No w v word := hV0.free fun _ _ h => h.elim
  clear hI0 hV0
  have lw := hV.len_rule (P := Tryz.prog) 22 (by kernel_rfl)
  have xw := hV.idx_rule (P := Tryz.prog) 22 (by kernel_rfl) (by kernel_rfl)
  have hvs := hV.small
  unfold maxLen at hvs
  obtain ⟨Al, cl, rfl⟩ := hI.labs.form
  obtain ⟨Af, cf, rfl⟩ := hI.sf.form
  obtain ⟨Aq, cq, rfl⟩ := hI.sl.form
  obtain ⟨Av, cv, rfl⟩ := hI.rows.form
  have xq := hI.rows.idx_rule (P := Tryz.prog) 25 (by kernel_rfl) (by kernel_rfl)
  have hfl2 : fs.length ≤ ls.length ∧ ls.length ≤ fs.length := by have := hI.len; omega
  have hsm := hI.small
  have hEa := Ext.alloc (Ext.refl No w) (.cells #[.slice Al ls.length cl, .slice Af first.length cf, .slice Aq last.length cq, .slice Av fs.length cv, .bool e0] 27)
  have hb5 := heap_alloc_new w (.cells #[.slice Al ls.length cl, .slice Af first.length cf, .slice Aq last.length cq, .slice Av fs.length cv, .bool e0] 27)
  have hwa : (w.alloc (.cells #[.slice Al ls.length cl, .slice Af first.length cf, .slice Aq last.length cq, .slice Av fs.length cv, .bool e0] 27)).heap.size = w.heap.size + 1 := by simp
  by_cases hw0 : word = []
  · subst hw0
    have hz : ((([] : List Step).length : Int) == 0) = true := rfl
    go_enter Tryz.func27, Tryz.ntmps27
    go_wp2
    all_goals go_ret
    all_goals exact ⟨ret_bool (by simp [walksM]), hEa⟩
  · have hwl : 0 < word.length := List.length_pos_iff.2 hw0
    have HW : Hid (walksM ls first last fs e0 word = walkFrom ls last fs first word) := Lib.hid (by simp [walksM, hw0])
    have HD := Lib.hid (walkFrom_drop ls last fs word first)
    clear hw0
    have hz : ((word.length : Int) == 0) = false := beq_eq_false_iff_ne.2 (by omega)
    go_enter Tryz.func27, Tryz.ntmps27
    go_wp2
    generalize w.alloc (.cells #[.slice Al ls.length cl, .slice Af first.length cf, .slice Aq last.length cq, .slice Av fs.length cv, .bool e0] 27) = wa at *
    have y0 : ∀ W, Ext No wa W → W.cell? ⟨w.heap.size, 0, none⟩ = some (.slice Al ls.length cl) := fun W hW => hW.cell id (five hb5).1
    have y2 : ∀ W, Ext No wa W → W.cell? ⟨w.heap.size, 2, none⟩ = some (.slice Aq last.length cq) := fun W hW => hW.cell id (five hb5).2.2.1
    have y3 : ∀ W, Ext No wa W → W.cell? ⟨w.heap.size, 3, none⟩ = some (.slice Av fs.length cv) := fun W hW => hW.cell id (five hb5).2.2.2.1
    go_loopw [5, 20] (fun t5 t20 W => ∃ j, j < word.length ∧ t20 = .int .i64 j ∧ Ext No wa W ∧ Sl No W t5 (nextsTo ls fs first (word.take j)) ∧ InPlaces ls.length (nextsTo ls fs first (word.take j)) ∧ (nextsTo ls fs first (word.take j)).length ≤ 1000)
      (fun _ t20 _ => word.length - (intOf t20).toNat)
    case atStart => exact ⟨0, hwl, rfl, Ext.refl _ _, hI.sf.ext hEa, hI.fin, hI.flen⟩
    case round =>
      obtain ⟨j, hlt, rfl, hE, hN, hNi, hNl⟩ := hrel
      obtain ⟨cs, ⟨rfl, hsz, hk64⟩, p0, p1⟩ := hV.cells j hlt
      have p1 : ∀ W, Ext No wr W → _ := fun W hW => p1 1 (by decide) _ rfl W ((hEa.trans hE).trans hW)
      have p0 : ∀ W, Ext No wr W → _ := fun W hW => p0 _ rfl W ((hEa.trans hE).trans hW)
      have HJ : Hid (walksM ls first last fs e0 word = walkFrom ls last fs (nextsTo ls fs first (word.take j)) (nth word j :: word.drop (j + 1))) := Lib.hid (by
        rw [HW.out, HD.out j hlt, List.drop_eq_getElem_cons hlt, nth_eq _ _ hlt])
      have HX : Hid (nextsTo ls fs first (word.take (j + 1)) = nextPl ls fs (nextsTo ls fs first (word.take j)) (nth word j)) := Lib.hid (by
        rw [List.take_succ_eq_append_getElem hlt, nextsTo_snoc, nth_eq _ _ hlt])
      generalize nth word j = x at *
      generalize nextsTo ls fs first (word.take j) = nx at *
      have hXE := Ext.alloc (Ext.refl No wr) (.cells #[.int .i64 x.kind, .string x.label] 64)
      have hx0 := cell_new wr #[.int .i64 x.kind, .string x.label] 64 0 rfl
      have hx1 := cell_new wr #[.int .i64 x.kind, .string x.label] 64 1 rfl
      have hxs : (wr.alloc (.cells #[.int .i64 x.kind, .string x.label] 64)).heap.size = wr.heap.size + 1 := by simp
      have hws := hE.size
      by_cases hlast : j + 1 = word.length
      · have HL : Hid (walkFrom ls last fs nx (x :: word.drop (j + 1)) = (atPl ls nx x).any fun i => last.contains i) := Lib.hid (by rw [List.drop_eq_nil_of_le (by omega)]; rfl)
        go_wp2_with (first
        | (go_at_call 70; go_loud (
           refine (clone_ints (hN.ext hXE) (by omega)).mono ?_
           rintro e w2 ⟨vc, rfl, hOc, hE2, hbc⟩
           have hE02 : Ext No wa w2 := (hE.trans hXE).trans hE2))
        | (go_at_call 69; go_loud (
           refine (delete_ints hne hOc hNi (by omega) (fun i => !hasLab ls x i) 71 #[.pointer (some ⟨w.heap.size, 0, none⟩), .pointer (some ⟨wr.heap.size, 0, none⟩)] (enters_of Tryz.func71 (by kernel_rfl) rfl) ?_).mono ?_
           (· intro W i h0 h1 hW
              have hlow : ∀ b, vc.ownBlock = some b → wr.heap.size + 1 ≤ b := fun b e => by have := hbc b e; omega
              have hws := hE.size
              have hW2 : Ext No w W := ((hEa.trans hE02)).then hW fun b hb e => by have := hlow b e; omega
              exact closure1 W w.heap.size wr.heap.size (.slice Al ls.length cl) ls x (hW.cell (fun e => by have := hlow _ e; simp at this; omega) (y0 w2 hE02)) (hI.labs.ext hW2) (hW.cell (fun e => absurd (hlow _ e) (show ¬ (wr.heap.size + 1 ≤ wr.heap.size) by omega)) (hE2.cell id hx0)) (hW.cell (fun e => absurd (hlow _ e) (show ¬ (wr.heap.size + 1 ≤ wr.heap.size) by omega)) (hE2.cell id hx1)) i h0 h1 hsm)
           rintro e w3 ⟨vd, rfl, hvd, hOd, hE3⟩
           have hE03 : Ext No wa w3 := hE02.then hE3 fun b hb e => by have := hbc b e; have := hE.size; omega
           have hfa : (nx.filter fun i => !(!hasLab ls x i)) = atPl ls nx x := by simp [atPl]
           rw [hfa] at hOd
           have hal : (atPl ls nx x).length ≤ nx.length := List.length_filter_le _ _
           have hai := atPl_in hNi x (ls := ls)))
        | (go_at_call 72; go_loud (
           refine (contains_func hne (hOd.sl (M' := No) (fun _ _ h => h) (fun _ _ h => h.elim)) hai (by omega) (fun i => last.contains i) 73 #[.pointer (some ⟨w.heap.size, 0, none⟩)] (enters_of Tryz.func73 (by kernel_rfl) rfl) ?_).mono ?_
           (· intro W i h0 h1 hW
              exact closure2 W w.heap.size (.slice Aq last.length cq) last (y2 W (hE03.trans hW)) (hI.sl.ext (hEa.trans (hE03.trans hW))) i hI.llen)
           rintro e w4 ⟨rfl, hE4⟩)))
        go_ret
        exact ⟨ret_bool (by rw [HJ.out, HL.out]; simp), (hEa.trans hE03).trans hE4⟩
      · have hjl : ((j : Int) == (word.length : Int) - 1) = false := beq_eq_false_iff_ne.2 (by omega)
        go_wp2_with (first
        | (go_at_call 70; go_loud (
           refine (clone_ints (hN.ext hXE) (by omega)).mono ?_
           rintro e w2 ⟨vc, rfl, hOc, hE2, hbc⟩
           have hE02 : Ext No wa w2 := (hE.trans hXE).trans hE2))
        | (go_at_call 69; go_loud (
           refine (delete_ints hne hOc hNi (by omega) (fun i => !hasLab ls x i) 71 #[.pointer (some ⟨w.heap.size, 0, none⟩), .pointer (some ⟨wr.heap.size, 0, none⟩)] (enters_of Tryz.func71 (by kernel_rfl) rfl) ?_).mono ?_
           (· intro W i h0 h1 hW
              have hlow : ∀ b, vc.ownBlock = some b → wr.heap.size + 1 ≤ b := fun b e => by have := hbc b e; omega
              have hws := hE.size
              have hW2 : Ext No w W := ((hEa.trans hE02)).then hW fun b hb e => by have := hlow b e; omega
              exact closure1 W w.heap.size wr.heap.size (.slice Al ls.length cl) ls x (hW.cell (fun e => by have := hlow _ e; simp at this; omega) (y0 w2 hE02)) (hI.labs.ext hW2) (hW.cell (fun e => absurd (hlow _ e) (show ¬ (wr.heap.size + 1 ≤ wr.heap.size) by omega)) (hE2.cell id hx0)) (hW.cell (fun e => absurd (hlow _ e) (show ¬ (wr.heap.size + 1 ≤ wr.heap.size) by omega)) (hE2.cell id hx1)) i h0 h1 hsm)
           rintro e w3 ⟨vd, rfl, hvd, hOd, hE3⟩
           have hE03 : Ext No wa w3 := hE02.then hE3 fun b hb e => by have := hbc b e; have := hE.size; omega
           have hfa : (nx.filter fun i => !(!hasLab ls x i)) = atPl ls nx x := by simp [atPl]
           rw [hfa] at hOd
           have hal : (atPl ls nx x).length ≤ nx.length := List.length_filter_le _ _
           have hai := atPl_in hNi x (ls := ls)
           have hSd := hOd.sl (M' := No) (fun _ _ h => h) (fun _ _ h => h.elim)
           have ld := hSd.len_rule (P := Tryz.prog) 24 (by kernel_rfl)
           have xd := hSd.idx_rule (P := Tryz.prog) 24 (by kernel_rfl) (by kernel_rfl))))
        have HP : Hid (nextPl ls fs nx x = Lib.compact (srt ((atPl ls nx x).flatMap (follow fs)))) := Lib.hid rfl
        have hgn := nextPl_good (ls := ls) hI.good nx x
        generalize atPl ls nx x = atl at *
        go_loopw [5, 39] (fun t5 t39 W => ∃ k, k ≤ atl.length ∧ t39 = .int .i64 k ∧ Ext No w3 W ∧ Own 3 wa.heap.size (fun b => wa.heap.size ≤ b) W t5 ((atl.take k).flatMap (follow fs)))
          (fun _ t39 _ => atl.length - (intOf t39).toNat)
        case atStart => exact ⟨0, Nat.zero_le _, rfl, Ext.refl _ _, Own.nil _ _ _ _⟩
        case round =>
          obtain ⟨k, hk, rfl, hE4, hO4⟩ := hrel
          have hfl := flatF_len hI.good (atl.take k)
          by_cases hkl : k < atl.length
          · obtain ⟨cs, rfl, q0, -⟩ := hSd.cells k hkl
            have q0 : ∀ W, Ext No wr W → _ := fun W hW => q0 _ rfl W (hE4.trans hW)
            have hik := hai (nth atl k) (by rw [nth_eq _ _ hkl]; exact List.getElem_mem hkl)
            have hacc : Hid ((atl.take (k + 1)).flatMap (follow fs) = (atl.take k).flatMap (follow fs) ++ nth fs (nth atl k).toNat) := Lib.hid (by
              rw [List.take_succ_eq_append_getElem hkl, List.flatMap_append, nth_eq _ _ hkl]
              simp [follow, nth]
              rfl)
            rw [List.length_take] at hfl
            have hm1 : min k atl.length * ls.length ≤ 999 * 1000 := Nat.mul_le_mul (by omega) hsm
            generalize (atl.take k).flatMap (follow fs) = acc at *
            generalize nth atl k = i at *
            obtain ⟨cs, ⟨vi, rfl, hvi⟩, a0, -⟩ := hI.rows.cells i.toNat (by omega)
            have a0 : ∀ W, Ext No wr W → _ := fun W hW => a0 _ rfl W (((hEa.trans hE03).trans hE4).trans hW)
            have hri : (nth fs i.toNat).length ≤ 1000 := by rw [nth_eq _ _ (by omega)]; exact Nat.le_trans (hI.good _ (List.getElem_mem _)).len hsm
            have hvi2 := hvi.ext ((hEa.trans hE03).trans hE4)
            have y3w := y3 _ (hE03.trans hE4)
            have HB := Lib.hid (both_any No wr u5 vi acc (nth fs i.toNat) (hO4.sl (M' := No) (fun _ _ h => h) (fun _ _ h => h.elim)) hvi2 (by omega))
            have hiq : ∀ W, (Instr.indexAt 25 (.slice Av fs.length cv) (.int .i64 i)).run Tryz.prog W = .ok (.pointer (some (eaddr (.slice Av fs.length cv) (Enc.n (List Int)) i.toNat))) W := fun W => xq i W hik.1 (by omega)
            go_wp2_with (go_at_call 31; go_loud (
              refine HB.out.mono ?_
              rintro e w5 ⟨vb, rfl, hvb, hE5, hO5, hb5'⟩))
            refine ⟨⟨k + 1, by omega, by go_num, hE4.trans hE5, ?_⟩, by simp [intOf]; omega⟩
            rw [hacc.out]
            exact hO5.flat fun b e => ⟨by have := hb5' b e; have := hE03.size; have := hE4.size; omega, by have := hb5' b e; have := hE03.size; have := hE4.size; omega, rfl⟩
          · have e : k = atl.length := by omega
            subst e
            rw [List.take_length] at hO4 hfl
            have hm1 : atl.length * ls.length ≤ 1000 * 1000 := Nat.mul_le_mul (by omega) hsm
            generalize atl.flatMap (follow fs) = acc at *
            have HS := Lib.hid (sort_own hO4 (by omega))
            go_wp2_with (first
              | (go_at_call 75; go_loud (
                 refine HS.out.mono ?_
                 rintro e w5 ⟨rfl, hO5, hE5⟩))
              | (go_at_call 76; go_loud (
                 refine (compact_ints hO5 (by unfold srt; rw [List.length_mergeSort]; omega)).mono ?_
                 rintro e w6 ⟨v9, rfl, hv9, hO6, hE6⟩)))
            have hE46 : Ext No wa w6 := (hE03.trans hE4).then (hE5.trans hE6) fun b hb e => by have := (hO4.above b e).1; omega
            refine ⟨⟨j + 1, by omega, by go_num, hE46, ?_, ?_, ?_⟩, by simp [intOf]; omega⟩
            · rw [HX.out, HP.out]; exact hO6.slFlat fun _ _ h => h
            · rw [HX.out]; exact hgn.1
            · rw [HX.out]; exact Nat.le_trans hgn.len hsm
end Go.Proofs.An
