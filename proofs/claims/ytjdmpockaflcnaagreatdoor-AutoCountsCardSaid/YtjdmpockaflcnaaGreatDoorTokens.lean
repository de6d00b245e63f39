/-
  lex.Tokens on a text of words and marks: its tokens' texts are these.
-/
import Derived.Test.YtjdmpockaflcnaaGreatDoorLexPure
import Derived.Recover
import Derived.Defers
namespace Go.Proofs.An
open Go.RowKit
theorem assert_wrong (W : World) : (Instr.typeAssert .nilIface 20 223 true).run Tryz.prog W = .ok (.tuple #[.int .i64 0, .bool false]) W := by kernel_rfl
set_option maxRecDepth 100000 in
theorem tokens_door (p q r : Value) (w : World) :
    CallsD Tryz.prog 189 #[p, q, r] .returning w fun e u' w' => e = .returned (.tuple #[]) ∧ u' = .returning ∧ w' = w := by
  refine callsD_of_wpS Tryz.func189 rfl fun c₀ cs hu => ?_
  apply wpS_seq
  apply wpS_region
  simp [wpOpsS, go_sem, recoverD, hu, Tryz.ntmps189, Exit.thenS, assert_wrong]
  apply wpS_seq
  apply wpS_region
  simp [wpOpsS, go_sem, Exit.thenS]
  refine wpS_cond (t := false) (by simp [Act.eval, Array.replicate]) ?_
  simp only [Bool.false_eq_true, if_false]
  refine wpS_of_wp (wp_skip ?_)
  cases c₀
  simp_all [bodyPostS, results, Tryz.results189]
theorem index_blank (c : Int) (w : World) (h : (smallB c || markB c) = true) :
    Calls Tryz.prog 190 #[.string ⟨#[32, 9, 10]⟩, .int .u8 c] w fun e w' => (∃ q : Int, e = .returned (.int .i64 q) ∧ q < 0) ∧ w = w' := by
  refine (indexByte_any _ _ _).mono ?_
  rintro e w' ⟨rfl, rfl⟩
  refine ⟨⟨_, rfl, ?_⟩, rfl⟩
  have hc : 40 ≤ c ∧ c ≤ 124 := by
    rcases Bool.or_eq_true _ _ |>.mp h with h | h
    · simp [smallB] at h; omega
    · rcases mark_cases h with h | h | h | h | h | h | h | h <;> omega
  have hn : ∀ n : Fin 125, 40 ≤ n.val → Lib.indexByte [32, 9, 10] n.val.toUInt8 = -1 := by decide
  have := hn ⟨c.toNat, by omega⟩ (by show 40 ≤ c.toNat; omega)
  show Lib.indexByte [32, 9, 10] c.toNat.toUInt8 < 0
  rw [this]
  decide
set_option maxRecDepth 100000 in
set_option maxHeartbeats 1600000 in
theorem tokens_any (s : ByteArray) (ts : List (List UInt8)) (w : World) (hs : s.size ≤ 20000) (hts : GoodTs ts) (he : bl s = ts.flatten) :
    Calls Tryz.prog 157 #[.string s] w fun e w' => ∃ (v : Value) (toks : List Tok), e = .returned (.tuple #[v, .int .i64 0, .int .i64 0]) ∧ Ext No w w' ∧ Own 198 w.heap.size (fun b => v.ownBlock = some b) w' v toks ∧ toks.map (fun t => bl t.text) = ts := by
  have HE := Lib.hid he; clear he
  have HG := Lib.hid hts; clear hts
  have hinfo : (Tryz.prog.info? 198).map (fun j => (j.zero, j.size, j.bytes)) = some (some (.agg #[.int .i64 0, .string ByteArray.empty, .int .i64 0]), 3, 32) := by kernel_rfl
  have hmf : ∀ (fn : Fn) (first cap : Array Value) (w : World), (Instr.makeFunc fn first cap).run Tryz.prog w = .ok (.func fn first cap) w := fun _ _ _ _ => rfl
  go_enter_defers Tryz.func157, Tryz.ntmps157
  go_wp2
  go_loopw [5] (fun i wr => ∃ (j k : Nat) (v : Value) (toks : List Tok), j ≤ ts.length ∧ toks.length ≤ k ∧ i = .int .i64 k ∧ Ext No w wr ∧ wr.cell? ⟨w.heap.size, 0, none⟩ = some v ∧
      wr.cell? ⟨w.heap.size + 1, 0, none⟩ = some (.int .i64 0) ∧ wr.cell? ⟨w.heap.size + 1 + 1, 0, none⟩ = some (.int .i64 0) ∧
      wr.frozen? ⟨w.heap.size, 0, none⟩ = false ∧ wr.frozen? ⟨w.heap.size + 1, 0, none⟩ = false ∧ wr.frozen? ⟨w.heap.size + 1 + 1, 0, none⟩ = false ∧ w.heap.size + 3 ≤ wr.heap.size ∧
      Own 198 (w.heap.size + 3) (fun b => v.ownBlock = some b) wr v toks ∧ Hid (k = (ts.take j).flatten.length ∧ toks.map (fun t => bl t.text) = ts.take j)) (fun i _ => s.size - (intOf i).toNat)
  case atStart =>
    refine ⟨0, 0, .slice none 0 0, [], Nat.zero_le _, Nat.zero_le _, rfl, (((Ext.refl _ _).alloc _).alloc _).alloc _, ?_, ?_, ?_, ?_, ?_, ?_, ?_, Own.nil _ _ _ _, ⟨rfl, rfl⟩⟩
    all_goals go_simp
  case round =>
    obtain ⟨j, k, v, toks, hj, htk, rfl, hE, h0, h1, h2, f0, f1, f2, hsz, hO, hH⟩ := hrel
    obtain ⟨A, c, rfl⟩ := hO.shape
    by_cases hlt : k < s.size
    · have hnx : ∃ (kd : Int) (tt : ByteArray), (∀ W, Calls Tryz.prog 191 #[.string (s.extract k s.size), .int .i64 k] W fun e w' => e = .returned (.agg #[.int .i64 kd, .string tt, .int .i64 k]) ∧ Ext No W w') ∧
          (ts.take (j + 1)).flatten.length = k + tt.size ∧ ts.take (j + 1) = ts.take j ++ [bl tt] ∧ 0 < tt.size ∧ tt.size ≤ 20000 ∧ j < ts.length ∧ (smallB (byteAt s k) || markB (byteAt s k)) = true := by
        obtain ⟨e1, -⟩ := hH.out
        have hbs := HE.out
        have hG := HG.out
        have hjlt : j < ts.length := by
          rcases Nat.lt_or_ge j ts.length with h | h
          · exact h
          · exfalso
            rw [List.take_of_length_le h, ← hbs, bl_len] at e1
            omega
        have hd : bl (s.extract k s.size) = ts[j] ++ (ts.drop (j + 1)).flatten := by
          rw [bl_extract, ← bl_len s, List.take_length, hbs, e1, flatten_drop, List.drop_eq_getElem_cons hjlt]; rfl
        have hGd : GoodTs (ts[j] :: ts.drop (j + 1)) := by
          rw [← List.drop_eq_getElem_cons hjlt]; exact hG.drop j
        have hpos := hG.pos ts[j] (List.getElem_mem hjlt)
        have htake : ts.take (j + 1) = ts.take j ++ [ts[j]] := by rw [List.take_succ_eq_append_getElem hjlt]
        have hfl : (ts.take (j + 1)).flatten.length = k + ts[j].length := by rw [htake, e1, List.flatten_append, List.length_append]; simp
        have hle : k + ts[j].length ≤ s.size := by
          have h1 : ts.flatten.length = (ts.take (j + 1)).flatten.length + (ts.drop (j + 1)).flatten.length := by
            rw [← List.length_append, ← List.flatten_append, List.take_append_drop]
          rw [← hfl, ← bl_len, hbs]
          omega
        have hbk : byteAt s k = ((ts[j].getD 0 0).toNat : Int) := by
          rw [byteAt_bl]
          have h1 : (bl s).getD k 0 = ((bl s).drop k).getD 0 0 := by simp [List.getD_eq_getElem?_getD]
          have h2 : (bl s).drop k = ts[j] ++ (ts.drop (j + 1)).flatten := by
            rw [hbs, e1, flatten_drop, List.drop_eq_getElem_cons hjlt]; rfl
          rw [h1, h2]
          match ts[j], hpos with
          | c :: t, _ => rfl
        have hse : (s.extract k s.size).size = s.size - k := by simp
        have hb0' : byteAt (s.extract k s.size) 0 = ((ts[j].getD 0 0).toNat : Int) := by
          rw [byteAt_bl, hd]
          match ts[j], hpos with
          | c :: t, _ => rfl
        rcases hGd.head with hw | hm
        · have hrun : runOf innerB (s.extract k s.size) = ts[j].length := by rw [runOf_list, hd, word_run hGd hw]
          have htt : bl ((s.extract k s.size).extract 0 ts[j].length) = ts[j] := by
            rw [bl_extract, hd, List.drop_zero, List.take_left]
          have hsz : ((s.extract k s.size).extract 0 ts[j].length).size = ts[j].length := by rw [← bl_len, htt]
          have hsm : smallB (byteAt s k) = true := by
            rw [hbk]; simp only [wordL, Bool.and_eq_true] at hw; exact hw.1.2
          refine ⟨1, (s.extract k s.size).extract 0 ts[j].length, fun W => ?_, by rw [hsz]; exact hfl, by rw [htt]; exact htake, by omega, by omega, hjlt, by rw [hsm]; rfl⟩
          have := next_word (s.extract k s.size) k W (by simp only [maxLen]; omega) (by omega) (by rw [hb0', ← hbk]; exact hsm) (by rw [hrun, nameB_list, htt]; exact hw)
          rw [hrun] at this
          exact this
        · have h1 : ts[j].length = 1 := by simp only [markL, Bool.and_eq_true, decide_eq_true_eq] at hm; exact hm.1
          have htt : bl ((s.extract k s.size).extract 0 1) = ts[j] := by
            rw [bl_extract, hd, List.drop_zero, ← h1, List.take_left]
          have hsz : ((s.extract k s.size).extract 0 1).size = ts[j].length := by rw [← bl_len, htt]
          have hmk : markB (byteAt s k) = true := by
            rw [hbk]; simp only [markL, Bool.and_eq_true] at hm; exact hm.2
          refine ⟨4, (s.extract k s.size).extract 0 1, fun W => ?_, by rw [hsz]; exact hfl, by rw [htt]; exact htake, by omega, by omega, hjlt, by rw [hmk]; simp⟩
          refine next_mark (s.extract k s.size) k W (by simp only [maxLen]; omega) (by omega) (by rw [hb0', ← hbk]; exact hmk) (fun _ => ?_)
          rw [byteAt_bl, hd]
          intro h45
          exact mark_next hGd hm (UInt8.toNat_inj.1 (by have : ((ts[j] ++ (ts.drop (j + 1)).flatten).getD 1 0).toNat = 45 := by omega
                                                        rw [this]; rfl))
      obtain ⟨kd, tt, hnext, hlen, htake, htt0, htt, hjlt, hbk⟩ := hnx
      have hb := byteAt_range s k
      have hb0 := byteAt_eq s k hlt
      have hrep : ∀ (N : Nat → Prop) (W : World), Enc.rep N W [.int .i64 kd, .string tt, .int .i64 (k : Int)] (⟨kd, tt, k⟩ : Tok) := fun _ _ => ⟨rfl, by simp only [maxLen]; omega⟩
      have HN := Lib.hid hnext; clear hnext
      have HL := Lib.hid hlen; clear hlen
      have HT := Lib.hid htake; clear htake
      have HB := Lib.hid hbk; clear hbk
      go_wp2_with (first
        | (go_at_call 190; refine (index_blank _ _ HB.out).mono ?_; rintro e w' ⟨⟨q, rfl, hq⟩, rfl⟩)
        | (go_at_call 191; refine (HN.out _).mono ?_; rintro e w1 ⟨rfl, hE1⟩
           have k0 := hE1.stay id h0
           have k1 := hE1.stay id h1
           have k2 := hE1.stay id h2
           have g0 := hE1.thaw id (by simp; omega) f0
           have g1 := hE1.thaw id (by simp; omega) f1
           have g2 := hE1.thaw id (by simp; omega) f2
           clear h0 h1 h2 f0 f1 f2)
        | (at_builtin
           refine wpl_append (M := fun b => (Value.slice A toks.length c).ownBlock = some b) (.tmp 27) (.tmp 29) 195 198 rfl rfl (.agg #[.int .i64 0, .string ByteArray.empty, .int .i64 0]) 32 Tryz.underlying195 hinfo rfl (w.heap.size + 3) (.slice A toks.length c) _ toks [⟨kd, tt, k⟩] rfl rfl ?_ ?_ ?_ ?_ ?_ ?_ ?_
           (· exact hO.ext ((hE1.alloc _).alloc _))
           (· exact Sl.lit1' (w := w1.alloc _) (hrep _ _) _ _ (by simp) (fun b hb => by have := hO.above b hb; have := hE1.size; simp; omega))
           (· have := hE1.size; simp; omega)
           (· rintro cs y ⟨rfl, _⟩ d hd; simp at hd; rcases hd with rfl | rfl | rfl <;> rfl)
           (· decide)
           (· simp; omega)
           rintro v1 w2 ⟨M1, hO1, -, -, -, hx2, hb2⟩
           obtain ⟨A1, c1, rfl⟩ := hO1.shape
           have hE2 := ((Ext.alloc (Ext.refl _ w1) (.cells #[.int .i64 kd, .string tt, .int .i64 k] 198)).alloc (.cells #[.int .i64 kd, .string tt, .int .i64 k] 198)).trans hx2
           have n0 := hE2.stay (hO.low (b := w.heap.size) (by omega)) (k0 w1 (Ext.refl _ _))
           have n1 := hE2.stay (hO.low (b := w.heap.size + 1) (by omega)) (k1 w1 (Ext.refl _ _))
           have n2 := hE2.stay (hO.low (b := w.heap.size + 1 + 1) (by omega)) (k2 w1 (Ext.refl _ _))
           have o0 := hE2.thaw (hO.low (b := w.heap.size) (by omega)) (by have := hE1.size; simp; omega) (g0 w1 (Ext.refl _ _))
           have o1 := hE2.thaw (hO.low (b := w.heap.size + 1) (by omega)) (by have := hE1.size; simp; omega) (g1 w1 (Ext.refl _ _))
           have o2 := hE2.thaw (hO.low (b := w.heap.size + 1 + 1) (by omega)) (by have := hE1.size; simp; omega) (g2 w1 (Ext.refl _ _))
           have m1 := hx2.stay (a := ⟨w1.heap.size, 1, none⟩) (v := .string tt) (fun e => absurd (hO.above _ e).2 (Nat.not_lt.2 hE1.size)) ((Ext.alloc (Ext.refl No _) _).cell id (cell_new w1 _ _ 1 rfl))
           have hE3 : Ext No w w2 := (hE.trans hE1).then hE2 (fun x hx e => by have := hO.above _ e; omega)
           clear k0 k1 k2 g0 g1 g2))
      have e2 := hH.out
      have hlen1 : (toks ++ [(⟨kd, tt, k⟩ : Tok)]).length = toks.length + 1 := by simp
      refine ⟨⟨j + 1, k + tt.size, .slice A1 (toks.length + 1) c1, toks ++ [⟨kd, tt, k⟩], by omega, by omega, by go_num, hE3.setCell _ (.inr (Nat.le_refl _)) _, ?_, ?_, ?_, ?_, ?_, ?_, ?_, ?_, ⟨HL.out.symm, ?_⟩⟩, by simp [intOf]; omega⟩
      · go_simp
      · go_simp
      · go_simp
      · go_simp
      · go_simp
      · go_simp
      · have := hE1.size; have := hE2.size; simp [World.setCell]; omega
      · rw [hlen1] at hO1 hb2
        refine hO1.flat (fun b hb => ?_)
        rcases hb2 b hb with h | h
        · have := hO.above b h
          exact ⟨hb, this.1, Below.heap_setCell _ _ _ _ (by show b ≠ w.heap.size; omega)⟩
        · have h1 := hE1.size
          have : w1.heap.size ≤ b := by simp at h; omega
          exact ⟨hb, by omega, Below.heap_setCell _ _ _ _ (by show b ≠ w.heap.size; omega)⟩
      · rw [HT.out, List.map_append, e2.2]; rfl
    · go_wp2
      refine leaves_cons (f := 189) (args := #[.pointer (some ⟨w.heap.size, 0, none⟩), .pointer (some ⟨w.heap.size + 1, 0, none⟩), .pointer (some ⟨w.heap.size + 1 + 1, 0, none⟩)]) (by simp) (by simp [go_sem]) ?_
      refine (tokens_door _ _ _ _).mono ?_
      rintro e u' w'' ⟨rfl, rfl, rfl⟩
      simp [Leaves, settle, results, Tryz.results157, go_sem, h0, h1, h2]
      refine ⟨((hE.setCell _ (.inr (by simp)) _).setCell _ (.inr (by simp)) _).setCell _ (.inr (by simp; omega)) _, toks, hO.flat (fun b hb => ?_), ?_⟩
      · have := hO.above b hb
        refine ⟨hb, by omega, ?_⟩
        rw [Below.heap_setCell _ _ _ _ (by simp; omega), Below.heap_setCell _ _ _ _ (by simp; omega), Below.heap_setCell _ _ _ _ (by simp; omega)]
      · obtain ⟨e1, e2⟩ := hH.out
        rw [e2]
        refine take_all HG.out hj ?_
        rw [← HE.out, data_len, ← e1]
        omega
end Go.Proofs.An
