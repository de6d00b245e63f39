/-
  show.Path, show.RightPath.
-/
import Derived.Test.YtjdmpockaflcnaaGreatDoorPathPure
import Derived.Test.YtjdmpockaflcnaaGreatDoorFloat
import Derived.Test.YtjdmpockaflcnaaGreatDoorRowed
import Derived.Deep.DeepMust
namespace Go.Proofs.An
open Go.RowKit
instance encPiece : Enc Piece where
  n := 2
  dflt := .zero
  rep _ _ cs x := cs = [.string x.text, .int .i64 x.binds] ∧ x.text.size ≤ maxLen
  rep_len h := by rw [h.1]; rfl
  rep_ext _ h := h
instance : Enc1 Piece where pos := by decide
instance : Flat Piece where flat h := h
theorem piece_rep (t : ByteArray) (b : Int) (h : t.size ≤ maxLen) (M : Nat → Prop) (W : World) : Enc.rep M W [.string t, .int .i64 b] (⟨t, b⟩ : Piece) := ⟨rfl, h⟩
def signV : List Value := [.string ByteArray.empty, .string ByteArray.empty, .string ByteArray.empty, .string (bytes [47]), .string (bytes [124]), .string (bytes [42]), .string (bytes [43]), .string (bytes [63])]
theorem set_last {α : Type} (l : List α) (y : α) (h : 1 ≤ l.length) : l.set (l.length - 1) y = l.take (l.length - 1) ++ [y] := by
  refine List.ext_getElem? fun k => ?_
  rw [List.getElem?_set]
  by_cases hk : l.length - 1 = k
  · subst hk
    rw [if_pos rfl, if_pos (by omega), List.getElem?_append_right (by rw [List.length_take]; omega), List.length_take]
    simp
  · rw [if_neg hk]
    by_cases h2 : k < l.length - 1
    · rw [List.getElem?_append_left (by rw [List.length_take]; omega), List.getElem?_take, if_pos h2]
    · rw [List.getElem?_eq_none (by omega), List.getElem?_eq_none (by simp [List.length_take]; omega)]
theorem flat_len {ts : List (List UInt8)} (h : ∀ t ∈ ts, 0 < t.length) : ts.length ≤ ts.flatten.length := by
  induction ts with
  | nil => simp
  | cons t ts ih =>
    have h1 := h t (by simp)
    have h2 := ih fun u hu => h u (by simp [hu])
    simp only [List.length_cons, List.flatten_cons, List.length_append]
    omega
theorem size_sign (k : Int) : (signT k).size ≤ 1 := by
  unfold signT
  (repeat' split) <;> decide
set_option maxRecDepth 100000 in
set_option maxHeartbeats 3200000 in
theorem path_any (M : Nat → Prop) (v : Value) (xs : List Step) (w : World) (hS : Sl M w v xs) :
    Calls Tryz.prog 77 #[v] w fun e w' => e = .returned (.string (pathT xs)) ∧ Ext No w w' := by
  have l1 := hS.len_rule (P := Tryz.prog) 22 (by kernel_rfl)
  have i1 := hS.idx_rule (P := Tryz.prog) 22 (by kernel_rfl) (by kernel_rfl)
  by_cases hbig : 100 < xs.length
  · go_enter Tryz.func77, Tryz.ntmps77
    go_wp2
    go_ret
    exact ⟨ret_str (by simp [pathT, hbig]; rfl), Ext.refl _ _⟩
  go_enter Tryz.func77, Tryz.ntmps77
  go_wp2
  go_loopw [4, 17] (fun t4 t17 wr => ∃ (j : Nat) (st : List Piece), j ≤ xs.length ∧ t17 = .int .i64 j ∧ Ext No w wr ∧ Own 166 (w.heap.size + 1) (fun b => t4.ownBlock = some b) wr t4 st ∧ MemAt wr ⟨w.heap.size, 0, none⟩ signV ∧ Hid (pathSt (xs.take j) = some st))
    (fun _ t17 _ => xs.length - (intOf t17).toNat)
  case atStart =>
    refine ⟨0, [], Nat.zero_le _, rfl, Ext.alloc (Ext.refl _ _) _, Own.nil _ _ _ _, fun j x hj => ?_, rfl⟩
    have e : (⟨w.heap.size, 0, none⟩ : Addr).add j = ⟨w.heap.size, j, none⟩ := by unfold Addr.add; split <;> simp_all
    rw [e]
    refine cell_new w _ _ j ?_
    rw [← Array.getElem?_toList]
    exact hj
  case round =>
    obtain ⟨j, st, hj, rfl, hE, hO, hm, hst⟩ := hrel
    have hSt := hO.sl (M' := No) (fun _ _ h => h) (fun _ _ h => h.elim)
    have l2 := hSt.len_rule (P := Tryz.prog) 163 (by kernel_rfl)
    have i2 := hSt.idx_rule (P := Tryz.prog) 163 (by kernel_rfl) (by kernel_rfl)
    have hsz1 : ∀ {w1 w2 : World}, Ext (fun b => w.heap.size + 1 ≤ b) w1 w2 → Ext No wr w1 → MemAt w2 ⟨w.heap.size, 0, none⟩ signV := fun h1 h2 => (hm.ext h2 id).ext h1 (by simp)
    by_cases hlt : j < xs.length
    · obtain ⟨cs, ⟨rfl, hsz, hk64⟩, p0, p1⟩ := hS.cells j hlt
      have p1 : ∀ W, Ext No wr W → _ := fun W hW => p1 1 (by decide) _ rfl W (hE.any.trans hW.any)
      have p0 : ∀ W, Ext No wr W → _ := fun W hW => p0 _ rfl W (hE.any.trans hW.any)
      have hnext : pathSt (xs.take (j + 1)) = pathStep st (nth xs j) := by
        rw [List.take_succ_eq_append_getElem hlt, pathSt_snoc, hst.out, nth_eq _ _ hlt]; rfl
      have hinv := pathSt_inv j (Nat.le_of_lt hlt) st hst.out
      have hnone : pathStep st (nth xs j) = none → pathT xs = ByteArray.empty := by
        intro h
        rw [h] at hnext
        unfold pathT
        rw [if_neg hbig, pathSt_none _ hnext]
      generalize nth xs j = x at *
      have HX := Lib.hid hnext; clear hnext
      have HN := Lib.hid hnone; clear hnone
      by_cases hA : x.kind < 1 ∨ 7 < x.kind
      · have hp : pathT xs = ByteArray.empty := HN.out (by simp [pathStep, hA])
        rcases hA with hA | hA
        · go_wp2
          go_ret
          exact ⟨ret_str (by first | exact hp.symm | rfl), hE.alloc _⟩
        · go_wp2
          go_ret
          exact ⟨ret_str (by first | exact hp.symm | rfl), hE.alloc _⟩
      have hA1 : 1 ≤ x.kind := by omega
      have hA2 : x.kind ≤ 7 := by omega
      by_cases hB : x.kind ≤ 2
      · have HL := Lib.hid (fun W => label_any x W hsz)
        have hstep : pathStep st x = if labelT x = ByteArray.empty then none else some (st ++ [⟨labelT x, 3⟩]) := by
          unfold pathStep
          rw [if_neg hA, if_pos hB]
        by_cases hE0 : labelT x = ByteArray.empty
        · have hp : pathT xs = ByteArray.empty := HN.out (by rw [hstep, if_pos hE0])
          have e0 : ((labelT x).toList == []) = true := by rw [hE0, toList_bl]; rfl
          go_wp2_with (go_at_call 123; refine (HL.out _).mono ?_; rintro e w1 ⟨rfl, hE1⟩)
          go_ret
          exact ⟨ret_str hp.symm, (hE.alloc _).trans hE1⟩
        · rw [hstep, if_neg hE0] at HX
          have e0 : ((labelT x).toList == []) = false := by rw [toList_bl]; simpa using fun h => hE0 (bl_inj h)
          have hl41 := size_label x
          have hstl := hinv.2.2
          obtain ⟨A, c, rfl⟩ := hO.shape
          generalize labelT x = lt at *
          go_wp2_with (first
            | (go_at_call 123; refine (HL.out _).mono ?_; rintro e w1 ⟨rfl, hE1⟩)
            | (at_builtin; go_loud (
               refine wpl_push (.tmp 40) (.tmp 43) 163 166 rfl rfl (.agg #[.string ByteArray.empty, .int .i64 0]) 24 Tryz.underlying163 (by kernel_rfl) rfl (w.heap.size + 1) w1.heap.size _ st [.string lt, .int .i64 3] ⟨lt, 3⟩ rfl rfl rfl ?_ ?_ ?_ ?_ ?_ ?_ ?_
               (· exact (hO.ext (Ext.alloc (Ext.refl _ _) _)).ext hE1)
               (· exact piece_rep lt 3 (by simp only [maxLen]; omega) _ _)
               (· have := hE.size; have := hE1.size; simp at this; omega)
               (· rintro cs y ⟨rfl, _⟩ d hd; simp at hd; rcases hd with rfl | rfl <;> rfl)
               (· decide)
               (· omega)
               rintro v1 w2 hO1 hx2)))
          have hE2 : Ext No wr w1 := (Ext.alloc (Ext.refl No wr) _).trans hE1
          exact ⟨⟨j + 1, st ++ [⟨lt, 3⟩], by omega, by go_num, (hE.trans hE2).high hx2 (by omega), hO1, hsz1 hx2 hE2, HX⟩, by simp [intOf]; omega⟩
      have hst2 := hinv.2.2
      have hB3 : 3 ≤ x.kind := by omega
      by_cases hC : x.label ≠ ByteArray.empty ∨ st.length < 1 ∨ (x.kind ≤ 4 ∧ st.length < 2)
      · have hp : pathT xs = ByteArray.empty := HN.out (by unfold pathStep; rw [if_neg hA, if_neg hB, if_pos hC])
        by_cases hl : x.label = ByteArray.empty
        · have e0 : (x.label.toList == []) = true := by rw [hl, toList_bl]; rfl
          rcases hC with h | h | ⟨h, h'⟩
          · exact absurd hl h
          · go_wp2
            go_ret
            exact ⟨ret_str (by first | exact hp.symm | rfl), hE.alloc _⟩
          · go_wp2
            all_goals
              go_ret
              exact ⟨ret_str (by first | exact hp.symm | rfl), hE.alloc _⟩
        · have e0 : (x.label.toList == []) = false := by rw [toList_bl]; simpa using fun h => hl (bl_inj h)
          clear hC
          go_wp2
          go_ret
          exact ⟨ret_str (by first | exact hp.symm | rfl), hE.alloc _⟩
      have hl : x.label = ByteArray.empty := Classical.byContradiction fun h => hC (.inl h)
      have hn1 : 1 ≤ st.length := by omega
      have hn2 : x.kind ≤ 4 → 2 ≤ st.length := by omega
      have e0 : (x.label.toList == []) = true := by rw [hl, toList_bl]; rfl
      have hstep : pathStep st x = if x.kind = 3 then some (st.take (st.length - 2) ++ [⟨leastT (st.getD (st.length - 2) .zero) 2 ++ signT 3 ++ leastT (st.getD (st.length - 1) .zero) 3, 2⟩])
          else if x.kind = 4 then some (st.take (st.length - 2) ++ [⟨(st.getD (st.length - 2) .zero).text ++ signT 4 ++ leastT (st.getD (st.length - 1) .zero) 2, 1⟩])
          else some (st.take (st.length - 1) ++ [⟨leastT (st.getD (st.length - 1) .zero) 3 ++ signT x.kind, 3⟩]) := by
        unfold pathStep
        rw [if_neg hA, if_neg hB, if_neg hC]
      clear hC hl HN
      have zs : ∀ W, Ext No wr W → W.cell? ⟨w.heap.size, x.kind.toNat, none⟩ = some (.string (signT x.kind)) := by
        intro W hW
        have hk : x.kind = 3 ∨ x.kind = 4 ∨ x.kind = 5 ∨ x.kind = 6 ∨ x.kind = 7 := by omega
        rcases hk with hk | hk | hk | hk | hk <;> rw [hk]
        · exact hW.cell id (hm 3 _ rfl)
        · exact hW.cell id (hm 4 _ rfl)
        · exact hW.cell id (hm 5 _ rfl)
        · exact hW.cell id (hm 6 _ rfl)
        · exact hW.cell id (hm 7 _ rfl)
      obtain ⟨ct, ⟨rfl, htz⟩, t0, t1⟩ := hSt.cells (st.length - 1) (by omega)
      have t1 : ∀ W, Ext No wr W → _ := t1 1 (by decide) _ rfl
      have t0 : ∀ W, Ext No wr W → _ := t0 _ rfl
      have hit : ∀ W, (Instr.indexAt 163 u4 (.int .i64 ((st.length : Int) - 1))).run Tryz.prog W = .ok (.pointer (some (eaddr u4 (Enc.n Piece) (st.length - 1)))) W := by
        intro W
        have := i2 ((st.length : Int) - 1) W (by omega) (by omega)
        rwa [show ((st.length : Int) - 1).toNat = st.length - 1 by omega] at this
      have htop : nth st (st.length - 1) = st.getD (st.length - 1) .zero := rfl
      rw [htop] at t0 t1 htz
      have htx : (st.getD (st.length - 1) .zero).text.size ≤ 4400 := by have := total_get st (st.length - 1) (by omega); have := hinv.2.1; omega
      have htx2 : (st.getD (st.length - 2) .zero).text.size ≤ 4400 := by have := total_get st (st.length - 2) (by omega); have := hinv.2.1; omega
      have hsg := size_sign x.kind
      generalize st.getD (st.length - 1) .zero = top at *
      have hC : ∀ W, Ext No (wr.alloc (.cells #[.int .i64 x.kind, .string x.label] 64)) W → Ext No wr W := fun W hW => (Ext.alloc (Ext.refl No wr) _).trans hW
      have y0 : ∀ W, Ext No (wr.alloc (.cells #[.int .i64 x.kind, .string x.label] 64)) W → W.cell? ⟨wr.heap.size, 0, none⟩ = some (.int .i64 x.kind) := fun W hW => hW.cell id (cell_new wr _ _ 0 rfl)
      go_wp2
      all_goals
        refine wp_region_reads 9 (by kernel_rfl) (by kernel_rfl) (fun W => Ext No (wr.alloc (.cells #[.int .i64 x.kind, .string x.label] 64)) W) (Ext.drew (Ext.refl _ _)) ?_
        have hEd : Ext No (wr.alloc (.cells #[.int .i64 x.kind, .string x.label] 64)) { wr.alloc (.cells #[.int .i64 x.kind, .string x.label] 64) with drawn := (wr.alloc (.cells #[.int .i64 x.kind, .string x.label] 64)).drawn + 1 } := Ext.drew (Ext.refl _ _)
        generalize ({ wr.alloc (.cells #[.int .i64 x.kind, .string x.label] 64) with drawn := (wr.alloc (.cells #[.int .i64 x.kind, .string x.label] 64)).drawn + 1 } : World) = wd at hEd ⊢
        simp only [List.take, List.drop]
        refine wpRead_value rfl u4 (fun W hW => by go_simp) ?_
        refine wpRead_value rfl (.int .i64 st.length) (fun W hW => by go_simp) ?_
        refine wpRead_value rfl (.int .i64 ((st.length : Int) - 1)) (fun W hW => by go_simp; exact wrap_small _ (by omega) (by omega)) ?_
        refine wpRead_value rfl (.pointer (some (eaddr u4 (Enc.n Piece) (st.length - 1)))) (fun W hW => by go_simp) ?_
        refine wpRead_value rfl (.agg #[.string top.text, .int .i64 top.binds]) (fun W hW => by have hW' := hC W hW; go_simp) ?_
        refine wpRead_value rfl (.pointer (some ⟨wr.heap.size, 0, none⟩)) (fun W hW => by go_simp) ?_
        refine wpRead_value rfl (.int .i64 x.kind) (fun W hW => by have hy := y0 W hW; go_simp) ?_
        refine wpRead_value rfl (.pointer (some ⟨w.heap.size, x.kind.toNat, none⟩)) (fun W hW => by go_simp; intro h; exact absurd (h (by omega)) (by omega)) ?_
        refine wpRead_value rfl (.string (signT x.kind)) (fun W hW => by have hz := zs W (hC W hW); go_simp) ?_
        refine wpRead_nil ?_
        refine wpTail_open rfl rfl fun K hK => ?_
        go_simp
        refine hK _ _ (hEd.alloc _) ?_
        clear hK K
        refine wpTail_open rfl rfl fun K hK => ?_
        go_simp
        refine hK _ _ (hEd.alloc _) ?_
        clear hK K
        refine wpTail_open rfl rfl fun K hK => ?_
        go_simp
        refine hK _ _ (hEd.alloc _) ?_
        clear hK K
        unfold wpTail Calm
        have HS := Lib.hid hstep
        clear hstep
        have y1 : ∀ W, Ext No wd W → W.cell? ⟨wr.heap.size, 0, none⟩ = some (.int .i64 x.kind) := fun W hW => y0 W (hEd.trans hW)
        have HY := Lib.hid y0; clear y0
        have HL := Lib.hid (fun b W => least_any top b W (by omega))
        have hls := size_least top
        have u0 : ∀ W, Ext No (wd.alloc (.cells #[.string top.text, .int .i64 top.binds] 166)) W → W.cell? ⟨wd.heap.size, 0, none⟩ = some (.string top.text) := fun W hW => hW.cell id (cell_new wd _ _ 0 rfl)
        have u1 : ∀ W, Ext No (wd.alloc (.cells #[.string top.text, .int .i64 top.binds] 166)) W → W.cell? ⟨wd.heap.size, 1, none⟩ = some (.int .i64 top.binds) := fun W hW => hW.cell id (cell_new wd _ _ 1 rfl)
      · have hn2 := hn2 (by omega)
        obtain ⟨g, c, rfl, hcap⟩ := hO.one (by omega)
        obtain ⟨cp, ⟨rfl, hpz⟩, s0, s1⟩ := hSt.cells (st.length - 2) (by omega)
        have s1 : ∀ W, Ext No wr W → _ := s1 1 (by decide) _ rfl
        have s0 : ∀ W, Ext No wr W → _ := s0 _ rfl
        have hit2 : ∀ W, (Instr.indexAt 163 (.slice (some ⟨g, 0, none⟩) st.length c) (.int .i64 ((st.length : Int) - 2))).run Tryz.prog W = .ok (.pointer (some (eaddr (.slice (some ⟨g, 0, none⟩) st.length c) (Enc.n Piece) (st.length - 2)))) W := by
          intro W
          have := i2 ((st.length : Int) - 2) W (by omega) (by omega)
          rwa [show ((st.length : Int) - 2).toNat = st.length - 2 by omega] at this
        have hsl : ∀ W, (Instr.slice 163 (.slice (some ⟨g, 0, none⟩) st.length c) none (some (.int .i64 ((st.length : Int) - 2))) none).run Tryz.prog W = .ok (.slice (some ⟨g, 0, none⟩) (st.length - 2) c) W := by
          intro W
          have := slice_head (P := Tryz.prog) 163 166 2 Tryz.underlying163 (by kernel_rfl) (some ⟨g, 0, none⟩) st.length c ((st.length : Int) - 2) (by omega) (by omega) hcap W
          rwa [show ((st.length : Int) - 2).toNat = st.length - 2 by omega] at this
        have hO2 := hO.take (st.length - 2) (by omega)
        have htwo : nth st (st.length - 2) = st.getD (st.length - 2) .zero := rfl
        rw [htwo] at s0 s1 hpz
        have HT := Lib.hid (fun b W => least_any (st.getD (st.length - 2) .zero) b W (by omega))
        have hlt2 := size_least (st.getD (st.length - 2) .zero)
        generalize st.getD (st.length - 2) .zero = two at *
        have hEt : Ext No wr (wd.alloc (.cells #[.string top.text, .int .i64 top.binds] 166)) := (hC _ hEd).alloc _
        have hl22 := hlt2 2
        have hl33 := hls 3
        have hl32 := hls 2
        by_cases h3 : x.kind = 3
        · rw [HS.out, if_pos h3] at HX
          have HE : Hid (signT 3 = signT x.kind) := Lib.hid (by rw [h3])
          generalize hsk : signT x.kind = sk at *
          go_wp2
          refine wp_region_float 4 16 (by kernel_rfl) (by kernel_rfl) (fun W => Ext No (wd.alloc (.cells #[.string top.text, .int .i64 top.binds] 166)) W) (Ext.drew (Ext.refl _ _)) ?_
          simp only [List.take, List.drop]
          refine wpPure_step rfl (.slice (some ⟨g, 0, none⟩) st.length c) (fun W => by go_simp) ?_
          refine wpPure_step rfl (.int .i64 st.length) (fun W => by go_simp) ?_
          refine wpPure_step rfl (.int .i64 ((st.length : Int) - 2)) (fun W => by go_simp; exact wrap_small _ (by omega) (by omega)) ?_
          refine wpPure_step rfl (.slice (some ⟨g, 0, none⟩) (st.length - 2) c) (fun W => by go_simp) ?_
          refine wpPure_nil ?_
          refine wpQuiet_value rfl (.slice (some ⟨g, 0, none⟩) st.length c) (fun W hW => by go_simp) ?_
          refine wpQuiet_value rfl (.int .i64 st.length) (fun W hW => by go_simp) ?_
          refine wpQuiet_value rfl (.int .i64 ((st.length : Int) - 2)) (fun W hW => by go_simp; exact wrap_small _ (by omega) (by omega)) ?_
          refine wpQuiet_value rfl (.pointer (some (eaddr (.slice (some ⟨g, 0, none⟩) st.length c) (Enc.n Piece) (st.length - 2)))) (fun W hW => by go_simp) ?_
          refine wpQuiet_value rfl (.agg #[.string two.text, .int .i64 two.binds]) (fun W hW => by have hW' := hEt.trans hW; go_simp) ?_
          refine wpQuiet_call rfl (.string (leastT two 2)) 124 #[.agg #[.string two.text, .int .i64 two.binds], .int .i64 2] (fun W => by go_simp) (fun W hW => (HT.out 2 W).mono (by rintro e w1 ⟨rfl, h1⟩; exact ⟨rfl, hW.trans h1⟩)) ?_
          refine wpQuiet_value rfl (.string (sk)) (fun W hW => by go_simp) ?_
          refine wpQuiet_value rfl (.string (leastT two 2 ++ sk)) (fun W hW => by go_simp; omega) ?_
          refine wpQuiet_value rfl (.agg #[.string top.text, .int .i64 top.binds]) (fun W hW => by have q0 := u0 W hW; have q1 := u1 W hW; go_simp) ?_
          refine wpQuiet_call rfl (.string (leastT top 3)) 124 #[.agg #[.string top.text, .int .i64 top.binds], .int .i64 3] (fun W => by go_simp) (fun W hW => (HL.out 3 W).mono (by rintro e w1 ⟨rfl, h1⟩; exact ⟨rfl, hW.trans h1⟩)) ?_
          refine wpQuiet_value rfl (.string (leastT two 2 ++ sk ++ leastT top 3)) (fun W hW => by go_simp; omega) ?_
          refine wpQuiet_value rfl (.agg #[.string (leastT two 2 ++ sk ++ leastT top 3), .int .i64 2]) (fun W hW => by go_simp) ?_
          intro w1 hE1
          have hEw : Ext No wr w1 := hEt.trans hE1
          go_wp2_with (at_builtin; go_loud (
            refine wpl_push (.tmp 87) (.tmp 100) 163 166 rfl rfl (.agg #[.string ByteArray.empty, .int .i64 0]) 24 Tryz.underlying163 (by kernel_rfl) rfl (w.heap.size + 1) w1.heap.size (.slice (some ⟨g, 0, none⟩) (st.length - 2) c) (st.take (st.length - 2)) [.string (leastT two 2 ++ sk ++ leastT top 3), .int .i64 2] ⟨leastT two 2 ++ sk ++ leastT top 3, 2⟩ rfl rfl rfl ?_ ?_ ?_ ?_ ?_ ?_ ?_
            (· exact hO2.flat fun b hb => ⟨hb, (hO2.above b hb).1, hEw.block b (hO2.above b hb).2 id⟩)
            (· exact piece_rep _ _ (by rw [size_append, size_append]; simp only [maxLen]; omega) _ _)
            (· have := hE.size; have := (hC _ hEd).size; have h9 := hE1.size; simp at h9; omega)
            (· rintro cs y ⟨rfl, _⟩ d hd; simp at hd; rcases hd with rfl | rfl <;> rfl)
            (· decide)
            (· rw [List.length_take]; omega)
            rintro v1 w2 hO1 hx2))
          unfold Calm
          go_wp2
          rw [HE.out] at HX
          exact ⟨⟨j + 1, st.take (st.length - 2) ++ [⟨leastT two 2 ++ sk ++ leastT top 3, 2⟩], by omega, by go_num, (hE.trans hEw).high hx2 (by omega), hO1, hsz1 hx2 hEw, HX⟩, by simp [intOf]; omega⟩
        · have h4 : x.kind = 4 := by omega
          rw [HS.out, if_neg h3, if_pos h4] at HX
          have HE : Hid (signT 4 = signT x.kind) := Lib.hid (by rw [h4])
          generalize hsk : signT x.kind = sk at *
          go_wp2
          refine wp_region_float 4 16 (by kernel_rfl) (by kernel_rfl) (fun W => Ext No (wd.alloc (.cells #[.string top.text, .int .i64 top.binds] 166)) W) (Ext.drew (Ext.refl _ _)) ?_
          simp only [List.take, List.drop]
          refine wpPure_step rfl (.slice (some ⟨g, 0, none⟩) st.length c) (fun W => by go_simp) ?_
          refine wpPure_step rfl (.int .i64 st.length) (fun W => by go_simp) ?_
          refine wpPure_step rfl (.int .i64 ((st.length : Int) - 2)) (fun W => by go_simp; exact wrap_small _ (by omega) (by omega)) ?_
          refine wpPure_step rfl (.slice (some ⟨g, 0, none⟩) (st.length - 2) c) (fun W => by go_simp) ?_
          refine wpPure_nil ?_
          refine wpQuiet_value rfl (.slice (some ⟨g, 0, none⟩) st.length c) (fun W hW => by go_simp) ?_
          refine wpQuiet_value rfl (.int .i64 st.length) (fun W hW => by go_simp) ?_
          refine wpQuiet_value rfl (.int .i64 ((st.length : Int) - 2)) (fun W hW => by go_simp; exact wrap_small _ (by omega) (by omega)) ?_
          refine wpQuiet_value rfl (.pointer (some (eaddr (.slice (some ⟨g, 0, none⟩) st.length c) (Enc.n Piece) (st.length - 2)))) (fun W hW => by go_simp) ?_
          refine wpQuiet_value rfl (.pointer (some (eaddr (.slice (some ⟨g, 0, none⟩) st.length c) (Enc.n Piece) (st.length - 2)))) (fun W hW => by go_simp) ?_
          refine wpQuiet_value rfl (.string two.text) (fun W hW => by have hW' := hEt.trans hW; go_simp) ?_
          refine wpQuiet_value rfl (.string (sk)) (fun W hW => by go_simp) ?_
          refine wpQuiet_value rfl (.string (two.text ++ sk)) (fun W hW => by go_simp; omega) ?_
          refine wpQuiet_value rfl (.agg #[.string top.text, .int .i64 top.binds]) (fun W hW => by have q0 := u0 W hW; have q1 := u1 W hW; go_simp) ?_
          refine wpQuiet_call rfl (.string (leastT top 2)) 124 #[.agg #[.string top.text, .int .i64 top.binds], .int .i64 2] (fun W => by go_simp) (fun W hW => (HL.out 2 W).mono (by rintro e w1 ⟨rfl, h1⟩; exact ⟨rfl, hW.trans h1⟩)) ?_
          refine wpQuiet_value rfl (.string (two.text ++ sk ++ leastT top 2)) (fun W hW => by go_simp; omega) ?_
          refine wpQuiet_value rfl (.agg #[.string (two.text ++ sk ++ leastT top 2), .int .i64 1]) (fun W hW => by go_simp) ?_
          intro w1 hE1
          have hEw : Ext No wr w1 := hEt.trans hE1
          go_wp2_with (at_builtin; go_loud (
            refine wpl_push (.tmp 107) (.tmp 120) 163 166 rfl rfl (.agg #[.string ByteArray.empty, .int .i64 0]) 24 Tryz.underlying163 (by kernel_rfl) rfl (w.heap.size + 1) w1.heap.size (.slice (some ⟨g, 0, none⟩) (st.length - 2) c) (st.take (st.length - 2)) [.string (two.text ++ sk ++ leastT top 2), .int .i64 1] ⟨two.text ++ sk ++ leastT top 2, 1⟩ rfl rfl rfl ?_ ?_ ?_ ?_ ?_ ?_ ?_
            (· exact hO2.flat fun b hb => ⟨hb, (hO2.above b hb).1, hEw.block b (hO2.above b hb).2 id⟩)
            (· exact piece_rep _ _ (by rw [size_append, size_append]; simp only [maxLen]; omega) _ _)
            (· have := hE.size; have := (hC _ hEd).size; have h9 := hE1.size; simp at h9; omega)
            (· rintro cs y ⟨rfl, _⟩ d hd; simp at hd; rcases hd with rfl | rfl <;> rfl)
            (· decide)
            (· rw [List.length_take]; omega)
            rintro v1 w2 hO1 hx2))
          unfold Calm
          go_wp2
          rw [HE.out] at HX
          exact ⟨⟨j + 1, st.take (st.length - 2) ++ [⟨two.text ++ sk ++ leastT top 2, 1⟩], by omega, by go_num, (hE.trans hEw).high hx2 (by omega), hO1, hsz1 hx2 hEw, HX⟩, by simp [intOf]; omega⟩
      · have h3 : ¬ x.kind = 3 := by omega
        have h4 : ¬ x.kind = 4 := by omega
        have hl3 := hls 3
        go_wp2_with (first
          | (go_at_call 124; refine (HL.out _ _).mono ?_; rintro e w1 ⟨rfl, hE1⟩)
          | (refine gate_ (.store 166 (.tmp 81) (.tmp 80)) rfl ?_; go_loud (
             have hEw : Ext No wr w1 := ((hC _ hEd).alloc _).trans hE1
             refine wpl_set (st.length - 1) 0 166 (.tmp 81) (.tmp 80) rfl rfl rfl _ _ rfl rfl (hO.ext hEw) ?_ [.string (leastT top 3 ++ signT x.kind), .int .i64 3] rfl (by kernel_rfl) ?_ ?_ ⟨leastT top 3 ++ signT x.kind, 3⟩ ?_ (add_zero _).symm ?_
             (· omega)
             (· intro d hd; simp at hd; rcases hd with rfl | rfl <;> rfl)
             (· exact Nat.le_refl 2)
             (· rintro c ⟨rfl, _⟩; exact piece_rep _ _ (by rw [size_append]; simp only [maxLen]; omega) _ _)
             rintro w2 hO2 hx2)))
        have hEw : Ext No wr w1 := ((hC _ hEd).alloc _).trans hE1
        have hx3 : Ext (fun b => w.heap.size + 1 ≤ b) w1 w2 := hx2.mono fun b _ e => (hO.above b e).1
        rw [HS.out, if_neg h3, if_neg h4, ← set_last _ _ hn1] at HX
        exact ⟨⟨j + 1, st.set (st.length - 1) ⟨leastT top 3 ++ signT x.kind, 3⟩, by omega, by go_num, (hE.trans hEw).high hx3 (by omega), hO2, hsz1 hx3 hEw, HX⟩, by simp [intOf]; omega⟩
    · have e : j = xs.length := by omega
      have hts : xs.take j = xs := List.take_of_length_le (by omega)
      have hst := hst.out
      rw [hts] at hst
      have hinv := pathSt_inv j hj st (by rw [hts]; exact hst)
      by_cases h1 : st.length = 1
      · obtain ⟨p, rfl⟩ : ∃ p, st = [p] := List.length_eq_one_iff.1 h1
        obtain ⟨ts, hg, hts2⟩ := hinv.1 p (by simp)
        have hsz : p.text.size ≤ 4400 := by have := hinv.2.1; simp [total] at this; omega
        have hlen : ts.length ≤ 20000 := by
          have h1 := flat_len hg.pos
          rw [← hts2, bl_len] at h1
          omega
        have HD := Lib.hid (fun W => deep_any p.text ts W (by omega) hg hts2 hlen)
        have hdp : deepB (bl p.text) = (deepTs ts).2 := by rw [hts2]; exact deepB_good hg
        have hpath : pathT xs = if 32 < (deepTs ts).2 then ByteArray.empty else p.text := by
          unfold pathT; rw [if_neg hbig, hst]; simp only [hdp]
        have HP := Lib.hid hpath
        obtain ⟨ct, ⟨rfl, htz⟩, t0, t1⟩ := hSt.cells 0 (by simp)
        have t0 : ∀ W, Ext No wr W → _ := t0 _ rfl
        have h0 : nth [p] 0 = p := rfl
        rw [h0] at t0
        by_cases hd : 32 < (deepTs ts).2
        · go_wp2_with (go_at_call 125; refine (HD.out _).mono ?_; rintro e w1 ⟨rfl, hE1⟩)
          go_ret
          exact ⟨ret_str (by rw [HP.out, if_pos hd]; rfl), hE.trans hE1⟩
        · go_wp2_with (go_at_call 125; refine (HD.out _).mono ?_; rintro e w1 ⟨rfl, hE1⟩; have t2 := fun W (hW : Ext No w1 W) => t0 W (hE1.trans hW))
          go_ret
          exact ⟨ret_str (by rw [HP.out, if_neg (by omega)]), hE.trans hE1⟩
      · have hpath : pathT xs = ByteArray.empty := by
          unfold pathT; rw [if_neg hbig, hst]
          match st, h1 with
          | [], _ => rfl
          | [p], h => exact absurd rfl h
          | _ :: _ :: _, _ => rfl
        have HP := Lib.hid hpath
        go_wp2
        go_ret
        exact ⟨ret_str (by first | exact HP.out.symm | rfl), hE⟩
def rightB (xs : List Step) : Bool := !(bl (pathT xs)).isEmpty
set_option maxRecDepth 100000 in
set_option maxHeartbeats 800000 in
theorem rightPath_any (M : Nat → Prop) (v : Value) (xs : List Step) (w : World) (hS : Sl M w v xs) :
    Calls Tryz.prog 28 #[v] w fun e w' => e = .returned (.bool (rightB xs)) ∧ Ext No w w' := by
  have HP := Lib.hid (path_any M v xs w hS)
  go_enter Tryz.func28, Tryz.ntmps28
  go_wp2_with (go_at_call 77; refine HP.out.mono ?_; rintro e w1 ⟨rfl, hE1⟩)
  go_ret
  exact ⟨ret_bool (by rw [rightB, ← toList_bl]), hE1⟩
end Go.Proofs.An
