/-
  antecedentlaw14.AutoCounts answers true.
-/
import Derived.Test.YtjdmpockaflcnaaGreatDoorAwake14
namespace Go.Proofs.An
open Go.RowKit
theorem auto4 {xs : List Step} (hR : rightB xs = true) (h4 : (built xs).ls.length ≤ 4) : Auto4 (built xs).ls.length (nth (built xs).st 0).first (nth (built xs).st 0).last (built xs).fs := by
  obtain ⟨hl, hi, hb, hs, _⟩ := right_end hR
  refine ⟨h4, hi.len, hi.good, hi.first 0 (by omega), ?_, hi.firstLen 0 (by omega), hi.last 0 (by omega), hi.lastLen 0 (by omega)⟩
  have h1 := hi.fnd
  have e := split1 (built xs).st (by omega)
  rw [hs] at e
  simp only [Nat.sub_self, List.take_zero, List.nil_append] at e
  rw [e] at h1
  simpa [firsts] using h1
theorem grow_len {n : Nat} {fs : List (List Int)} (h : GoodF n fs) (l : List (List Int)) : (l.flatMap (grow fs)).length ≤ l.length * n := by
  induction l with
  | nil => simp
  | cons r l ih =>
    rw [List.flatMap_cons, List.length_append, List.length_cons, Nat.add_mul, Nat.one_mul]
    have := (follow_in h (endOf r)).2
    simp only [grow, List.length_map]
    omega
theorem hits_snoc (last l : List Int) (e : Int) : hits last (l ++ [e]) = hits last l + cnt e last := by simp [hits]
theorem cnt_snoc (e a : Int) (l : List Int) : cnt e (l ++ [a]) = cnt e l + if a = e then 1 else 0 := by
  rw [cnt_append, cnt_cons]; simp [cnt]
theorem row_rep {M : Nat → Prop} {w : World} {v : Value} {xs : List Int} (h : Sl M w v xs) : Enc.rep M w [v] xs := ⟨v, rfl, h⟩
theorem row_one {M : Nat → Prop} {w : World} : ∀ cs (y : List Int), Enc.rep M w cs y → ∀ c ∈ cs, c.oneCell' = true := by
  rintro cs y ⟨u, rfl, hu⟩ d hd
  simp at hd
  subst hd
  obtain ⟨A, c, rfl⟩ := hu.form
  rfl
theorem int_one {M : Nat → Prop} {w : World} : ∀ cs (y : Int), Enc.rep M w cs y → ∀ c ∈ cs, c.oneCell' = true := by
  rintro cs y rfl d hd
  simp at hd
  subst hd
  rfl
theorem Own.flatB {α : Type} [Enc1 α] {E : TypeId} {B B' : Nat} {M : Nat → Prop} {w : World} {v : Value} {xs : List α} (h : Own E B M w v xs) (hB : ∀ b, v.ownBlock = some b → B' ≤ b) : Own E B' M w v xs := by
  refine ⟨h.mine, ?_⟩
  obtain ⟨cells, hr, hc⟩ := h.row
  refine ⟨cells, ⟨hr.1, ?_⟩, hc⟩
  rcases hr.2 with h1 | ⟨g, cap, cur, he, hb, hg, hr⟩
  · exact .inl h1
  · exact .inr ⟨g, cap, cur, he, hB g (by rw [he]; rfl), hg, hr⟩
theorem Own.pushed {α : Type} [Enc1 α] {E : TypeId} {B : Nat} {M : Nat → Prop} {w w1 : World} {v v1 : Value} {xs ys : List α} (h : Own E B M w v xs) (hM : ∀ b, M b → B ≤ b ∧ b < w.heap.size) (hO : AppendOut E B M w v xs ys v1 w1) :
    ∃ M2 : Nat → Prop, (∀ b, M2 b → B ≤ b ∧ b < w1.heap.size) ∧ Own E B M2 w1 v1 (xs ++ ys) ∧ Ext (fun b => v.ownBlock = some b) w w1 := by
  obtain ⟨M1, hO1, hK1, hsub, hup, hx, hb⟩ := hO
  refine ⟨fun b => M b ∨ v1.ownBlock = some b, ?_, hO1.to ⟨Nat.le_refl _, fun b _ hm => ⟨(by rintro (h | h); exact hm (hsub b h); exact hm (hO1.mine b h)), rfl⟩⟩ fun b e => ⟨.inr e, rfl⟩, hx⟩
  rintro b (h2 | h2)
  · exact ⟨(hM b h2).1, Nat.lt_of_lt_of_le (hM b h2).2 hx.size⟩
  · exact hO1.above b h2
set_option maxRecDepth 100000 in
set_option maxHeartbeats 6400000 in
theorem counts_any (M0 : Nat → Prop) (w : World) (v : Value) (xs : List Step) (z : Int) (hz : 0 ≤ z ∧ z ≤ 255) (hS0 : Sl M0 w v xs) :
    Calls Tryz.prog 3 #[v, .int .u8 z] w fun e w' => e = .returned (.bool true) ∧ Ext No w w' := by
  have hS : Sl No w v xs := hS0.free fun _ _ h => h.elim
  clear hS0
  have l1 := hS.len_rule (P := Tryz.prog) 22 (by kernel_rfl)
  have HA := Lib.hid awake_any
  by_cases hbig : 40 < xs.length
  · go_enter Tryz.func3, Tryz.ntmps3
    go_wp2_with (first
      | (go_at_call 9; have hk := hE1; refine (HA.out _).mono ?_; rintro e w2 ⟨rfl, hE2⟩)
      | (go_at_call 9; refine (HA.out _).mono ?_; rintro e w1 ⟨rfl, hE1⟩))
    go_ret
    exact ⟨rfl, hE1.trans hE2⟩
  · cases hR : rightB xs
    · have HB := Lib.hid (fun W h => build_wrong No W v xs h hR)
      go_enter Tryz.func3, Tryz.ntmps3
      go_wp2_with (first
        | (go_at_call 9; refine (HA.out _).mono ?_; rintro e w1 ⟨rfl, hE1⟩)
        | (go_at_call 10; go_loud (refine (HB.out _ (hS.ext hE1)).mono ?_; rintro e w2 ⟨hE2, rfl⟩)))
      go_ret
      exact ⟨rfl, (hE1.trans hE2).alloc _⟩
    · have HB := Lib.hid (fun W h => build_right No W v xs h hR)
      have HI := Lib.hid (fun W lv f l fv => auto_is (w := W) (lv := lv) (f := f) (l := l) (fv := fv) hR)
      have H4 := Lib.hid (auto4 hR)
      generalize (nth (built xs).st 0).first = first at *
      generalize (nth (built xs).st 0).last = last at *
      generalize (nth (built xs).st 0).empty = e0 at *
      generalize (built xs).fs = fs at *
      generalize (built xs).ls = ls at *
      by_cases hl4 : 4 < ls.length
      · go_enter Tryz.func3, Tryz.ntmps3
        go_wp2_with (first
          | (go_at_call 9; refine (HA.out _).mono ?_; rintro e w1 ⟨rfl, hE1⟩)
          | (go_at_call 10; go_loud (
             refine (HB.out _ (hS.ext hE1)).mono ?_
             rintro e w2 ⟨hE2, lv, f, l, fv, rfl, h1, h2, h3, h4⟩
             obtain ⟨Al, cl, rfl⟩ := h1.form
             obtain ⟨Af, cf, rfl⟩ := h2.form
             obtain ⟨Aq, cq, rfl⟩ := h3.form
             obtain ⟨Av, cv, rfl⟩ := h4.form)))
        go_ret
        exact ⟨rfl, (hE1.trans hE2).alloc _⟩
      · have H4 := H4.out (by omega)
        obtain ⟨m, hm5, hmz⟩ : ∃ m : Nat, m ≤ 5 ∧ Int.tmod z 6 = m := by
          have ht : Int.tmod z 6 = z % 6 := Int.tmod_eq_emod_of_nonneg hz.1
          exact ⟨(z % 6).toNat, by omega, by omega⟩
        have hd1 : decide (40 < (xs.length : Int)) = false := decide_eq_false (by omega)
        have hd2 : decide (4 < (ls.length : Int)) = false := decide_eq_false (by omega)
        go_enter Tryz.func3, Tryz.ntmps3
        go_wp2_with (first
          | (go_at_call 9; refine (HA.out _).mono ?_; rintro e w1 ⟨rfl, hE1⟩)
          | (go_at_call 10; go_loud (
             refine (HB.out _ (hS.ext hE1)).mono ?_
             rintro e w2 ⟨hE2, lv, f, l, fv, rfl, h1, h2, h3, h4⟩
             have hI := HI.out w2 lv f l fv h1 h2 h3 h4
             obtain ⟨Al, cl, rfl⟩ := h1.form
             obtain ⟨Af, cf, rfl⟩ := h2.form
             obtain ⟨Aq, cq, rfl⟩ := h3.form
             obtain ⟨Av, cv, rfl⟩ := h4.form)))
        have hEb := Ext.alloc (Ext.refl No w2) (.cells #[.slice Al ls.length cl, .slice Af first.length cf, .slice Aq last.length cq, .slice Av fs.length cv, .bool e0] 27)
        have hb5 := heap_alloc_new w2 (.cells #[.slice Al ls.length cl, .slice Af first.length cf, .slice Aq last.length cq, .slice Av fs.length cv, .bool e0] 27)
        have hbs : (w2.alloc (.cells #[.slice Al ls.length cl, .slice Af first.length cf, .slice Aq last.length cq, .slice Av fs.length cv, .bool e0] 27)).heap.size = w2.heap.size + 1 := by simp
        have hIb := hI.ext hEb
        have hEw := (hE1.trans hE2).trans hEb
        generalize w2.alloc (.cells #[.slice Al ls.length cl, .slice Af first.length cf, .slice Aq last.length cq, .slice Av fs.length cv, .bool e0] 27) = wb at *
        have lf := hIb.sf.len_rule (P := Tryz.prog) 24 (by kernel_rfl)
        have xf := hIb.sf.idx_rule (P := Tryz.prog) 24 (by kernel_rfl) (by kernel_rfl)
        have ll := hIb.sl.len_rule (P := Tryz.prog) 24 (by kernel_rfl)
        have xl := hIb.sl.idx_rule (P := Tryz.prog) 24 (by kernel_rfl) (by kernel_rfl)
        have xq := hIb.rows.idx_rule (P := Tryz.prog) 25 (by kernel_rfl) (by kernel_rfl)
        have hfl4 : first.length ≤ 4 := Nat.le_trans H4.flen H4.n4
        have hll4 : last.length ≤ 4 := Nat.le_trans H4.llen H4.n4
        go_loopw [8, 47] (fun t8 t47 W => ∃ j, j ≤ first.length ∧ t47 = .int .i64 j ∧ Ext No wb W ∧ ∃ M : Nat → Prop, (∀ b, M b → wb.heap.size ≤ b ∧ b < W.heap.size) ∧ Own 24 wb.heap.size M W t8 ((first.take j).map fun i => [i]))
          (fun _ t47 _ => first.length - (intOf t47).toNat)
        case atStart => exact ⟨0, Nat.zero_le _, rfl, Ext.refl _ _, fun _ => False, fun b h => h.elim, Own.nil _ _ _ _⟩
        case round =>
          obtain ⟨j, hj, rfl, hE3, M, hM, hO⟩ := hrel
          by_cases hlt : j < first.length
          · obtain ⟨cs, rfl, p0, -⟩ := hIb.sf.cells j hlt
            have p0 : ∀ W, Ext No wr W → _ := fun W hW => p0 _ rfl W (hE3.trans hW)
            have hX : Hid ((first.take (j + 1)).map (fun i => [i]) = (first.take j).map (fun i => [i]) ++ [[nth first j]]) := Lib.hid (by
              rw [List.take_succ_eq_append_getElem hlt, List.map_append, nth_eq _ _ hlt]; rfl)
            have hlr : ((first.take j).map fun i => [i]).length ≤ 4 := by simp; omega
            generalize (first.take j).map (fun i => [i]) = rows at *
            generalize nth first j = i at *
            go_wp2_with (at_builtin; go_loud (
              have hx1 := Ext.alloc (Ext.refl No wr) (.cells #[.int .i64 i] 3)
              have hx2 := Ext.alloc (Ext.refl No (wr.alloc (.cells #[.int .i64 i] 3))) (.cells #[.slice (some ⟨wr.heap.size, 0, none⟩) 1 1] 24)
              have hs1 : (wr.alloc (.cells #[.int .i64 i] 3)).heap.size = wr.heap.size + 1 := by simp
              have hsl : Sl M (wr.alloc (.cells #[.int .i64 i] 3)) (.slice (some ⟨wr.heap.size, 0, none⟩) 1 1) [i] := Sl.lit1' (cs := [.int .i64 i]) (x := i) rfl _ _ rfl (fun b h => (hM b h).2)
              refine wpl_append (M := M) (.tmp 51) (.tmp 54) 25 24 rfl rfl (.slice none 0 0) 24 Tryz.underlying25 (by kernel_rfl) rfl wb.heap.size u8 _ rows [[i]] rfl rfl ((hO.ext hx1).ext hx2) (Sl.lit1' (cs := [.slice (some ⟨wr.heap.size, 0, none⟩) 1 1]) (x := [i]) (row_rep hsl) _ _ hs1.symm (fun b h => by have := (hM b h).2; omega)) ?_ row_one (by decide) (by simp; omega) ?_
              (· have := hE3.size; simp; omega)
              intro v1 w3 hOut
              obtain ⟨M2, hM2, hO2, hx3⟩ := Own.pushed ((hO.ext hx1).ext hx2) (fun b h => ⟨(hM b h).1, by have := (hM b h).2; simp; omega⟩) hOut))
            refine ⟨⟨j + 1, by omega, by go_num, (hE3.trans (hx1.trans hx2)).then hx3 (fun b hb e => by have := (hO.above b e).1; omega), M2, hM2, by rw [hX.out]; exact hO2⟩, by simp [intOf]; omega⟩
          · have e : j = first.length := by omega
            subst e
            rw [List.take_length] at hO
            have hO : Own 24 wb.heap.size M wr u8 (rowsAt fs first 0) := hO
            have yb : ∀ W, Ext No wb W → _ := fun W hW => five ((hW.block _ (by omega) id).trans hb5)
            go_wp2
            go_loopw [8, 11, 58] (fun t8 t11 t58 W => ∃ t, t ≤ m ∧ t58 = .int .i64 t ∧ t11 = .int .i64 (manyM fs first last t) ∧ Ext No wb W ∧ ∃ M : Nat → Prop, (∀ b, M b → wb.heap.size ≤ b ∧ b < W.heap.size) ∧ Own 24 wb.heap.size M W t8 (rowsAt fs first t))
              (fun _ _ t58 _ => m - (intOf t58).toNat)
            case atStart => exact ⟨0, Nat.zero_le _, rfl, rfl, hE3, M, hM, hO⟩
            case round =>
              obtain ⟨t, htm, rfl, rfl, hE4, M4, hM4, hO4⟩ := hrel
              by_cases htl : t < m
              · have hrn : (rowsAt fs first t).length ≤ 1024 := by
                  have h1 := H4.ends_len t
                  have h2 : 4 ^ (t + 1) ≤ 4 ^ 5 := Nat.pow_le_pow_right (by decide) (by omega)
                  have h3 := congrArg List.length (rowsAt_ends fs first t)
                  rw [List.length_map] at h3
                  omega
                have hmt := H4.many t (by omega)
                have HN : Hid (rowsAt fs first (t + 1) = (rowsAt fs first t).flatMap (grow fs)) := Lib.hid rfl
                have HM : Hid (manyM fs first last (t + 1) = manyM fs first last t + hits last ((rowsAt fs first t).map endOf)) := Lib.hid (by rw [rowsAt_ends]; rfl)
                have hrl := Lib.hid (rowsAt_len fs first t)
                have hei : ∀ r ∈ rowsAt fs first t, 0 ≤ endOf r ∧ endOf r < ls.length := fun r hr => H4.ends_in t _ (by rw [← rowsAt_ends]; exact List.mem_map.2 ⟨r, hr, rfl⟩)
                generalize rowsAt fs first t = rows at *
                generalize manyM fs first last t = n0 at *
                have hSr := hO4.sl (M' := No) (fun _ _ h => h) (fun _ _ h => h.elim)
                have lr := hSr.len_rule (P := Tryz.prog) 25 (by kernel_rfl)
                have xr := hSr.idx_rule (P := Tryz.prog) 25 (by kernel_rfl) (by kernel_rfl)
                have hI4 := hIb.ext hE4.any
                generalize hw5 : wr = w5 at *
                go_wp2
                go_loopw [11, 12, 62] (fun t11 t12 t62 W => ∃ k, k ≤ rows.length ∧ t62 = .int .i64 k ∧ t11 = .int .i64 (n0 + hits last ((rows.take k).map endOf)) ∧ Ext No w5 W ∧ ∃ M : Nat → Prop, (∀ b, M b → w5.heap.size ≤ b ∧ b < W.heap.size) ∧ Own 24 w5.heap.size M W t12 ((rows.take k).flatMap (grow fs)))
                  (fun _ _ t62 _ => rows.length - (intOf t62).toNat)
                case atStart => exact ⟨0, Nat.zero_le _, rfl, by simp [hits], Ext.refl _ _, fun _ => False, fun b h => h.elim, Own.nil _ _ _ _⟩
                case round =>
                  obtain ⟨k, hk, rfl, rfl, hE5, M5, hM5, hO5⟩ := hrel
                  by_cases hkl : k < rows.length
                  · obtain ⟨cs, ⟨vr, rfl, hvr⟩, p0, -⟩ := hSr.cells k hkl
                    have p0 : ∀ W, Ext No wr W → _ := fun W hW => p0 _ rfl W (hE5.trans hW)
                    have hmem : nth rows k ∈ rows := by rw [nth_eq _ _ hkl]; exact List.getElem_mem hkl
                    have hrlen : t + 1 ≤ (nth rows k).length ∧ (nth rows k).length ≤ t + 1 := by have := hrl.out _ hmem; omega
                    have hen := hei _ hmem
                    clear hmem
                    have HH : Hid (hits last ((rows.take (k + 1)).map endOf) = hits last ((rows.take k).map endOf) + cnt (endOf (nth rows k)) last) := Lib.hid (by
                      rw [List.take_succ_eq_append_getElem hkl, List.map_append, nth_eq _ _ hkl]
                      exact hits_snoc _ _ _)
                    have HG : Hid ((rows.take (k + 1)).flatMap (grow fs) = (rows.take k).flatMap (grow fs) ++ (follow fs (endOf (nth rows k))).map fun i => nth rows k ++ [i]) := Lib.hid (by
                      rw [List.take_succ_eq_append_getElem hkl, List.flatMap_append, nth_eq _ _ hkl]
                      simp [grow])
                    have hal := grow_len H4.good (rows.take k)
                    have hhl := hits_le last ((rows.take k).map endOf)
                    rw [List.length_map] at hhl
                    have htk : (rows.take k).length ≤ 1024 := by rw [List.length_take]; omega
                    have hn4 := H4.n4
                    have hm1 : (rows.take k).length * ls.length ≤ 1024 * 4 := Nat.mul_le_mul htk hn4
                    have hm2 : last.length * (rows.take k).length ≤ 4 * 1024 := Nat.mul_le_mul hll4 htk
                    have hm3 := Int.ofNat_le.2 hm2
                    rw [Int.natCast_mul] at hm3
                    have hn1 : 0 ≤ n0 + hits last ((rows.take k).map endOf) ∧ n0 + hits last ((rows.take k).map endOf) ≤ 70000 := by omega
                    have hac : ((rows.take k).flatMap (grow fs)).length ≤ 4096 := by omega
                    clear hhl hm1 hm2 hm3 hal
                    have HH2 : Hid (n0 + hits last ((rows.take (k + 1)).map endOf) = n0 + hits last ((rows.take k).map endOf) + cnt (endOf (nth rows k)) last) := Lib.hid (by rw [HH.out]; omega)
                    clear HH
                    generalize n0 + hits last ((rows.take k).map endOf) = n1 at *
                    generalize (rows.take k).flatMap (grow fs) = acc at *
                    have hrl0 : 1 ≤ (nth rows k).length := by omega
                    have hre : endOf (nth rows k) = nth (nth rows k) ((nth rows k).length - 1) := rfl
                    rw [hre] at hen HH2 HG
                    generalize nth rows k = r at *
                    have hvr5 := hvr.ext hE5.any
                    have lv := hvr5.len_rule (P := Tryz.prog) 24 (by kernel_rfl)
                    have xv := hvr5.idx_rule (P := Tryz.prog) 24 (by kernel_rfl) (by kernel_rfl)
                    have hit : ∀ W, (Instr.indexAt 24 vr (.int .i64 ((r.length : Int) - 1))).run Tryz.prog W = .ok (.pointer (some (eaddr vr (Enc.n Int) (r.length - 1)))) W := by
                      intro W
                      have := xv ((r.length : Int) - 1) W (by omega) (by omega)
                      rwa [show ((r.length : Int) - 1).toNat = r.length - 1 by omega] at this
                    obtain ⟨cs, rfl, q0, -⟩ := hvr5.cells (r.length - 1) (by omega)
                    have q0 : ∀ W, Ext No wr W → _ := q0 _ rfl
                    generalize nth r (r.length - 1) = en at *
                    obtain ⟨-, -, y2, y3, -⟩ := yb wr (hE4.trans hE5)
                    have hE45 := hE4.trans hE5
                    generalize hw6 : wr = w6 at *
                    go_wp2
                    go_loopw [11, 75] (fun t11 t75 W => ∃ j, j ≤ last.length ∧ t75 = .int .i64 j ∧ t11 = .int .i64 (n1 + cnt en (last.take j)) ∧ Ext No w6 W)
                      (fun _ t75 _ => last.length - (intOf t75).toNat)
                    case atStart => exact ⟨0, Nat.zero_le _, rfl, by simp [cnt], Ext.refl _ _⟩
                    case round =>
                      obtain ⟨j, hj, rfl, rfl, hE6⟩ := hrel
                      have hcl := cnt_le en (last.take j)
                      have hc0 := cnt_nonneg en (last.take j)
                      have hlj : (last.take j).length ≤ 4 := by rw [List.length_take]; omega
                      by_cases hjl : j < last.length
                      · obtain ⟨cs, rfl, u0, -⟩ := hIb.sl.cells j hjl
                        have u0 : ∀ W, Ext No wr W → _ := fun W hW => u0 _ rfl W ((hE45.trans hE6).trans hW)
                        have HC : Hid (cnt en (last.take (j + 1)) = cnt en (last.take j) + if nth last j = en then 1 else 0) := Lib.hid (by
                          rw [List.take_succ_eq_append_getElem hjl, cnt_snoc, nth_eq _ _ hjl])
                        generalize nth last j = la at *
                        generalize cnt en (last.take j) = cc at *
                        by_cases hle : la = en
                        · rw [if_pos hle] at HC
                          subst hle
                          go_wp2
                          exact ⟨⟨j + 1, by omega, by go_num, by rw [HC.out]; go_num, hE6⟩, by simp [intOf]; omega⟩
                        · rw [if_neg hle] at HC
                          go_wp2
                          exact ⟨⟨j + 1, by omega, by go_num, by rw [HC.out]; go_num, hE6⟩, by simp [intOf]; omega⟩
                      · have e : j = last.length := by omega
                        subst e
                        have HL : Hid (n1 + cnt en (last.take last.length) = n1 + cnt en last) := Lib.hid (by rw [List.take_length])
                        generalize n1 + cnt en (last.take last.length) = n2 at *
                        have hE56 := hE5.trans hE6
                        obtain ⟨-, -, -, y3', -⟩ := yb wr (hE45.trans hE6)
                        obtain ⟨cs, ⟨vf, rfl, hvf⟩, s0, -⟩ := hIb.rows.cells en.toNat (by have := H4.len; omega)
                        have s0 : ∀ W, Ext No wr W → _ := fun W hW => s0 _ rfl W ((hE45.trans hE6).trans hW)
                        have hff : nth fs en.toNat = follow fs en := rfl
                        rw [hff] at hvf
                        have hfg := follow_in H4.good en
                        generalize follow fs en = fo at *
                        have hvf6 := hvf.ext (hE45.trans hE6).any
                        have lo := hvf6.len_rule (P := Tryz.prog) 24 (by kernel_rfl)
                        have xo := hvf6.idx_rule (P := Tryz.prog) 24 (by kernel_rfl) (by kernel_rfl)
                        have hiq : ∀ W, (Instr.indexAt 25 (.slice Av fs.length cv) (.int .i64 en)).run Tryz.prog W = .ok (.pointer (some (eaddr (.slice Av fs.length cv) (Enc.n (List Int)) en.toNat))) W := fun W => xq en W hen.1 (by have := H4.len; omega)
                        have hO6 := hO5.ext hE6
                        have hM6 : ∀ b, M5 b → w5.heap.size ≤ b ∧ b < wr.heap.size := fun b h => ⟨(hM5 b h).1, Nat.lt_of_lt_of_le (hM5 b h).2 hE6.size⟩
                        generalize hw7 : wr = w7 at *
                        go_wp2
                        go_loopw [12, 91] (fun t12 t91 W => ∃ q, q ≤ fo.length ∧ t91 = .int .i64 q ∧ Ext No w5 W ∧ ∃ M : Nat → Prop, (∀ b, M b → w5.heap.size ≤ b ∧ b < W.heap.size) ∧ Own 24 w5.heap.size M W t12 (acc ++ (fo.take q).map fun i => r ++ [i]))
                          (fun _ t91 _ => fo.length - (intOf t91).toNat)
                        case atStart => exact ⟨0, Nat.zero_le _, rfl, hE56, M5, hM6, by simpa using hO6⟩
                        case round =>
                          obtain ⟨q, hq, rfl, hE7, M7, hM7, hO7⟩ := hrel
                          by_cases hql : q < fo.length
                          · obtain ⟨cs, rfl, i0, -⟩ := hvf.cells q hql
                            have i0 : ∀ W, Ext No wr W → _ := fun W hW => i0 _ rfl W ((hE4.trans hE7).trans hW)
                            have HQ : Hid (acc ++ (fo.take (q + 1)).map (fun i => r ++ [i]) = (acc ++ (fo.take q).map (fun i => r ++ [i])) ++ [r ++ [nth fo q]]) := Lib.hid (by
                              rw [List.take_succ_eq_append_getElem hql, List.map_append, nth_eq _ _ hql, List.append_assoc]; rfl)
                            have hal : (acc ++ (fo.take q).map fun i => r ++ [i]).length ≤ 4100 := by
                              rw [List.length_append, List.length_map, List.length_take]
                              have := hfg.2
                              omega
                            generalize acc ++ (fo.take q).map (fun i => r ++ [i]) = ac2 at *
                            generalize nth fo q = i at *
                            have hx1 := Ext.alloc (Ext.refl No wr) (.cells #[] 3)
                            have hs1 : (wr.alloc (.cells #[] 3)).heap.size = wr.heap.size + 1 := by simp
                            have hOe : Own 3 wr.heap.size (fun b => b = wr.heap.size) (wr.alloc (.cells #[] 3)) (.slice (some ⟨wr.heap.size, 0, none⟩) 0 0) ([] : List Int) :=
                              Own.of_ints (M := fun b => b = wr.heap.size) (cur := []) (cap := 0) (heap_alloc_new wr (.cells #[] 3)) (Nat.le_refl _) rfl (by decide) rfl [] [] rfl
                            have hvr7 := hvr.ext hE7.any
                            have hvr8 : Sl (fun b => b = wr.heap.size) (wr.alloc (.cells #[] 3)) vr r := hvr7.ext' (by decide) fun b hb _ => ⟨by omega, hx1.block b hb id⟩
                            have hr6 : r.length ≤ 6 := by omega
                            go_wp2_with (first
                              | (at_builtin; have hk := hO98; have hk2 := hOz; go_loud (
                                 have hx3 := Ext.alloc (Ext.refl No w101) (.cells #[.slice Az nz cz] 24)
                                 refine wpl_append (M := M7) (.tmp 95) (.tmp 102) 25 24 rfl rfl (.slice none 0 0) 24 Tryz.underlying25 (by kernel_rfl) rfl w5.heap.size u12 _ ac2 [r ++ [i]] rfl rfl ((hO7.ext hE101).ext hx3) (Sl.lit1' (cs := [.slice Az nz cz]) (x := r ++ [i]) (row_rep hSz) _ _ rfl (fun b h => Nat.lt_of_lt_of_le (hM7 b h).2 hE101.size)) ?_ row_one (by decide) (by simp; omega) ?_
                                 (· have := hE7.size; have := hE101.size; simp; omega)
                                 intro v103 w103 hOut103
                                 obtain ⟨M8, hM8, hO8, hx103⟩ := Own.pushed ((hO7.ext hE101).ext hx3) (fun b h => ⟨(hM7 b h).1, by have := (hM7 b h).2; have := hE101.size; simp; omega⟩) hOut103))
                              | (at_builtin; have hk := hO98; go_loud (
                                 refine wpl_push1 (.tmp 98) (.tmp 100) 24 3 rfl rfl (.int .i64 0) 8 Tryz.underlying24 (by kernel_rfl) rfl wr.heap.size w98.heap.size v98 r [.int .i64 i] i rfl rfl rfl hO98 rfl (by have := hx98.size; omega) int_one (by decide) (by omega) ?_
                                 intro v101 w101 hOz hxz hbz
                                 have hE101 : Ext No wr w101 := hE98.then hxz fun b hb e => by have := (hO98.above b e).1; omega
                                 have hSz : Sl M7 w101 v101 (r ++ [i]) := hOz.slFlat fun b e hm => by have := (hOz.above b e).1; have := (hM7 b hm).2; omega
                                 obtain ⟨Az, nz, cz, hvz⟩ : ∃ A n c, v101 = .slice A n c := by obtain ⟨A, c, h⟩ := hOz.shape; exact ⟨A, _, c, h⟩
                                 subst hvz))
                              | (at_builtin; go_loud (
                                 refine wpl_append (α := Int) (M := fun b => b = wr.heap.size) (.tmp 96) (.tmp 97) 24 3 rfl rfl (.int .i64 0) 8 Tryz.underlying24 (by kernel_rfl) rfl wr.heap.size (.slice (some ⟨wr.heap.size, 0, none⟩) 0 0) vr [] r rfl rfl hOe hvr8 (by omega) int_one (by decide) (by simp; omega) ?_
                                 intro v98 w98 hOut98
                                 obtain ⟨Me, hMe, hO98', hx98⟩ := Own.pushed hOe (fun b e => ⟨by omega, by omega⟩) hOut98
                                 have hO98 : Own 3 wr.heap.size (fun b => v98.ownBlock = some b) w98 v98 r := hO98'.flat fun b e => ⟨e, (hO98'.above b e).1, rfl⟩
                                 have hE98 : Ext No wr w98 := hx1.then hx98 fun b hb e => by simp [Value.ownBlock] at e; omega)))
                            refine ⟨⟨q + 1, by omega, by go_num, hE7.then ((hE101.trans hx3).any.trans hx103) (fun b hb e => by have := (hO7.above b e).1; omega), M8, hM8, by rw [HQ.out]; exact hO8⟩, by simp [intOf]; omega⟩
                          · have e : q = fo.length := by omega
                            subst e
                            rw [List.take_length] at hO7
                            go_wp2
                            exact ⟨⟨k + 1, by omega, by go_num, by rw [HH2.out, HL.out], hE7, M7, hM7, by rw [HG.out]; exact hO7⟩, by simp [intOf]; omega⟩
                  · have e : k = rows.length := by omega
                    subst e
                    have HK : Hid (n0 + hits last ((rows.take rows.length).map endOf) = n0 + hits last (rows.map endOf)) := Lib.hid (by rw [List.take_length])
                    generalize n0 + hits last ((rows.take rows.length).map endOf) = n1 at *
                    rw [List.take_length] at hO5
                    go_wp2
                    exact ⟨⟨t + 1, by omega, by go_num, by rw [HM.out, HK.out], hE4.trans hE5, M5, (fun b h => ⟨Nat.le_trans hE4.size (hM5 b h).1, (hM5 b h).2⟩), by rw [HN.out]; exact hO5.flatB (fun b e => Nat.le_trans hE4.size (hO5.above b e).1)⟩, by simp [intOf]; omega⟩
              · have e : t = m := by omega
                subst e
                have c1 := H4.count t (by omega)
                have c2 := H4.grows t hm5
                have c3 := countM_none ls.length first last fs 0 (by omega)
                have c4 := countM_none ls.length first last fs (-1) (by omega)
                generalize manyM fs first last t = n0 at *
                obtain ⟨z0, z1, z2, z3, z4⟩ := yb wr hE4
                have yc : ∀ W, Ext No wr W → _ := fun W hW => yb W (hE4.trans hW)
                have hI4 := hIb.ext hE4.any
                generalize hk2 : countM ls.length first last fs ((t : Int) + 1) = n2 at *
                have hd2 : decide (n0 ≤ n2) = true := decide_eq_true c2
                go_wp2_with (first
                  | (go_at_call 11; have hk := hC3; go_loud (
                     refine (count_any No w13 (.slice Al ls.length cl) (.slice Af first.length cf) (.slice Aq last.length cq) (.slice Av fs.length cv) e0 ls first last fs (-1) ⟨by decide, by decide⟩ (hI4.ext ((hC1.trans hC2).trans hC3).any)).mono ?_
                     rintro e w14 ⟨rfl, hC4⟩
                     rw [c4]))
                  | (go_at_call 11; have hk := hC2; go_loud (
                     refine (count_any No w12 (.slice Al ls.length cl) (.slice Af first.length cf) (.slice Aq last.length cq) (.slice Av fs.length cv) e0 ls first last fs 0 ⟨by decide, by decide⟩ (hI4.ext (hC1.trans hC2).any)).mono ?_
                     rintro e w13 ⟨rfl, hC3⟩
                     rw [c3]
                     obtain ⟨z0, z1, z2, z3, z4⟩ := yc w13 ((hC1.trans hC2).trans hC3)))
                  | (go_at_call 11; have hk := hC1; go_loud (
                     refine (count_any No w11 (.slice Al ls.length cl) (.slice Af first.length cf) (.slice Aq last.length cq) (.slice Av fs.length cv) e0 ls first last fs ((t : Int) + 1) ⟨by omega, by omega⟩ (hI4.ext hC1.any)).mono ?_
                     rintro e w12 ⟨rfl, hC2⟩
                     rw [hk2]
                     obtain ⟨z0, z1, z2, z3, z4⟩ := yc w12 (hC1.trans hC2)))
                  | (go_at_call 11; go_loud (
                     refine (count_any No wr (.slice Al ls.length cl) (.slice Af first.length cf) (.slice Aq last.length cq) (.slice Av fs.length cv) e0 ls first last fs (t : Int) ⟨by omega, by omega⟩ hI4).mono ?_
                     rintro e w11 ⟨rfl, hC1⟩
                     rw [c1]
                     obtain ⟨z0, z1, z2, z3, z4⟩ := yc w11 hC1)))
                go_ret
                exact ⟨rfl, (hEw.trans hE4).trans (((hC1.trans hC2).trans hC3).trans hC4)⟩
end Go.Proofs.An
