/-
  auto.Build.
-/
import Derived.Test.YtjdmpockaflcnaaGreatDoorAutoFold
import Derived.Test.YtjdmpockaflcnaaGreatDoorPlan
namespace Go.Proofs.An
open Go.RowKit
theorem AutoAt.to {M M1 N : Nat → Prop} {w w1 q lv fv ls fs} (h : AutoAt M w q lv fv ls fs) (hK : Keeps M w M1 w1) (hsub : ∀ b, M b → M1 b) (hE : Ext N w w1) (nq : ¬ N q) (nl : ∀ b, lv.ownBlock = some b → ¬ N b) (nf : ∀ b, fv.ownBlock = some b → ¬ N b)
    (hlow : ∀ b, M1 b → b < w1.heap.size) : AutoAt M1 w1 q lv fv ls fs := by
  refine ⟨hE.cell nq h.c0, hE.cell nq h.c1, hE.cell nq h.c2, hE.cell nq h.c3, hE.cell nq h.c4, fun j => ?_, h.labs.flat fun b e => ⟨e, (h.labs.above b e).1, hE.block b (h.labs.above b e).2 (nl b e)⟩,
    h.rows.to hK fun b e => ⟨hsub b (h.rows.mine b e), hE.block b (h.rows.above b e).2 (nf b e)⟩, hsub _ h.mq, fun b e => hsub b (h.ml b e), h.dist, fun b e => ⟨Nat.zero_le _, hlow b e⟩⟩
  rw [World.frozen?_of_block (w := w) (hE.block q h.qlt nq)]; exact h.fz j
theorem two_objs (w : World) (a b : Obj) : ((w.alloc a).alloc b).heap[w.heap.size]? = some a ∧ ((w.alloc a).alloc b).heap[w.heap.size + 1]? = some b ∧ ((w.alloc a).alloc b).heap.size = w.heap.size + 2 := by
  have e1 : (w.alloc a).heap.size = w.heap.size + 1 := by simp
  refine ⟨?_, ?_, by simp⟩
  · rw [Below.heap_alloc _ _ _ (by omega)]; exact heap_alloc_new w a
  · rw [← e1]; exact heap_alloc_new _ b
structure BuildAt (M : Nat → Prop) (w : World) (r q : Nat) (lv fv sv : Value) (s : BSt) : Prop where
  auto : AutoAt M w q lv fv s.ls s.fs
  stack : Own 76 (q + 1) M w sv s.st
  ds : ∀ b, sv.ownBlock = some b → ¬ lv.ownBlock = some b ∧ ¬ fv.ownBlock = some b
  mr : M r
  rq : r < q
/-- A part is laid on the stack. -/
theorem BuildAt.push {M : Nat → Prop} {w w1 : World} {r q : Nat} {lv fv sv0 sv1 : Value} {ls : List Step} {fs : List (List Int)} {st : List Part} {y : Part} (hA : AutoAt M w q lv fv ls fs) (hS : Own 76 (q + 1) M w sv0 st)
    (hd : ∀ b, sv0.ownBlock = some b → ¬ lv.ownBlock = some b ∧ ¬ fv.ownBlock = some b) (hmr : M r) (hrq : r < q) (hO : AppendOut 76 (q + 1) M w sv0 st [y] sv1 w1) :
    ∃ M2, BuildAt M2 w1 r q lv fv sv1 ⟨ls, fs, st ++ [y]⟩ ∧ Ext (fun b => sv0.ownBlock = some b) w w1 := by
  obtain ⟨M1, hO1, hK1, hsub, hup, hx, hb⟩ := hO
  have h1 : ∀ b, sv1.ownBlock = some b → q + 1 ≤ b ∧ b < w1.heap.size := fun b e => hO1.above b e
  have hK2 : Keeps M w (fun b => M b ∨ sv1.ownBlock = some b) w1 := by
    refine ⟨hx.size, fun b hlt hm => ⟨?_, hx.block b hlt fun e => hm (hS.mine b e)⟩⟩
    rintro (h | h)
    · exact hm h
    · rcases hb b h with h2 | h2
      · exact hm (hS.mine b h2)
      · omega
  have hown : Own 76 (q + 1) (fun b => M b ∨ sv1.ownBlock = some b) w1 sv1 (st ++ [y]) :=
    hO1.to ⟨Nat.le_refl _, fun b _ hm => ⟨(by rintro (h | h); exact hm (hsub b h); exact hm (hO1.mine b h)), rfl⟩⟩ fun b e => ⟨.inr e, rfl⟩
  refine ⟨fun b => M b ∨ sv1.ownBlock = some b, ⟨hA.to hK2 (fun b h => .inl h) hx (hS.low (by omega)) (fun b e e2 => (hd b e2).1 e) (fun b e e2 => (hd b e2).2 e) ?_, hown, ?_, .inl hmr, hrq⟩, hx⟩
  · rintro b (h | h)
    · exact Nat.lt_of_lt_of_le (hA.low b h).2 hx.size
    · exact (h1 b h).2
  · intro b e
    rcases hb b e with h | h
    · exact hd b h
    · exact ⟨fun e2 => absurd (hA.labs.above b e2).2 (by omega), fun e2 => absurd (hA.rows.above b e2).2 (by omega)⟩
theorem BuildAt.blk {M w r q lv fv sv s} (h : BuildAt M w r q lv fv sv s) : ∀ b, (b = q ∨ lv.ownBlock = some b ∨ fv.ownBlock = some b ∨ sv.ownBlock = some b) → r < b ∧ b < w.heap.size := by
  have hq := h.rq
  rintro b (rfl | e | e | e)
  · exact ⟨hq, h.auto.qlt⟩
  · have := h.auto.labs.above b e; omega
  · have := h.auto.rows.above b e; omega
  · have := h.stack.above b e; omega
theorem BuildAt.stay {M w w0 w' r q lv fv sv s} (h : BuildAt M w r q lv fv sv s) (hE : Ext No w0 w) (hr : w0.heap.size ≤ r + 1) {N : Nat → Prop} (hx : Ext N w w') (hN : ∀ b, b < w.heap.size → N b → (b = q ∨ lv.ownBlock = some b ∨ fv.ownBlock = some b ∨ sv.ownBlock = some b)) : Ext No w0 w' :=
  hE.then hx fun b hb e => by
    have := (h.blk b (hN b (Nat.lt_of_lt_of_le hb hE.size) e)).1
    omega
theorem BuildAt.set {M w w1 r q lv fv sv ls fs} {st st' : List Part} (hA : AutoAt M w q lv fv ls fs) (hS : Own 76 (q + 1) M w sv st) (hd : ∀ b, sv.ownBlock = some b → ¬ lv.ownBlock = some b ∧ ¬ fv.ownBlock = some b) (hmr : M r) (hrq : r < q)
    (hO : Own 76 (q + 1) M w1 sv st') (hx : Ext (fun b => sv.ownBlock = some b) w w1) : BuildAt M w1 r q lv fv sv ⟨ls, fs, st'⟩ :=
  ⟨hA.to (Keeps.of_ext (hx.mono fun b _ e => hS.mine b e)) (fun _ h => h) hx (hS.low (by omega)) (fun b e e2 => (hd b e2).1 e) (fun b e e2 => (hd b e2).2 e) (fun b h => Nat.lt_of_lt_of_le (hA.low b h).2 hx.size), hO, hd, hmr, hrq⟩
/-- An element of the stack, read. -/
theorem Own.part {E B M w v} {st : List Part} (h : Own E B M w v st) (k : Nat) (hk : k < st.length) : ∃ f l, Sl M w f (nth st k).first ∧ Sl M w l (nth st k).last ∧
    ∀ N : Nat → Prop, (∀ b, v.ownBlock = some b → ¬ N b) → ∀ W, Ext N w W → W.cell? (eaddr v (Enc.n Part) k) = some f ∧ W.cell? ⟨(eaddr v (Enc.n Part) k).block, (eaddr v (Enc.n Part) k).off + 1, none⟩ = some l ∧ W.cell? ⟨(eaddr v (Enc.n Part) k).block, (eaddr v (Enc.n Part) k).off + 2, none⟩ = some (.bool (nth st k).empty) := by
  obtain ⟨cells, hr, hc⟩ := h.row
  obtain ⟨f, l, he, hf, hl⟩ := hc k hk
  refine ⟨f, l, hf, hl, fun N hN W hW => ?_⟩
  rcases hr.2 with ⟨_, h0⟩ | ⟨g, cap, cur, rfl, hb, hh, hn, hcm, hcs, htk⟩
  · omega
  have hg : W.heap[g]? = some (.cells cur E (0, 0)) := (hW.block g (Array.getElem?_eq_some_iff.1 hh).1 (hN g rfl)).trans hh
  have key : ∀ j x, ([f, l, Value.bool (nth st k).empty] : List Value)[j]? = some x → W.cell? ⟨g, k * 3 + j, none⟩ = some x := by
    intro j x hj
    rw [← he] at hj
    have h1 := cut_get _ _ _ _ _ hj
    have h2 : cur.toList[k * 3 + j]? = some x := by
      rw [← htk, List.getElem?_take] at h1
      split at h1
      · exact h1
      · cases h1
    simp only [World.cell?, hg]
    simpa using h2
  have e0 : eaddr (.slice (some ⟨g, 0, none⟩) st.length cap) (Enc.n Part) k = ⟨g, k * 3, none⟩ := by
    show (⟨g, 0, none⟩ : Addr).add (k * 3) = _
    unfold Addr.add; split <;> simp_all
  rw [e0]
  exact ⟨key 0 _ rfl, key 1 _ rfl, key 2 _ rfl⟩
theorem wpTail_sealed2 {P : Program} {ops : Array Oper} {C : World → Prop} {S : Nat → Bool} {Q : Exit → Act → World → Prop} {k : Nat} {o o' : Oper} {a : Act} {w : World} (h0 : ops[k]? = some o) (h1 : ops[k + 1]? = some o') (hS : S k = true) (hS' : S (k + 1) = true) (h : wpList P ops Q [o, o'] a w) : wpTail P ops C S Q k [o, o'] a w := by
  have hh : wpOp P ops Q k (wpList P ops Q [o']) a w := by unfold wpOp; simp only [h0]; exact h
  exact wpOp_mono (fun a' w' h' => ⟨(fun hs => by rw [hS] at hs; cases hs), wpTail_last h1 hS' h'⟩) hh
theorem part_rep {M : Nat → Prop} {w : World} {f l : Value} {a b : List Int} {e : Bool} (h1 : Sl M w f a) (h2 : Sl M w l b) : Enc.rep M w [f, l, .bool e] (⟨a, b, e⟩ : Part) := ⟨f, l, rfl, h1, h2⟩
theorem part_one {M : Nat → Prop} {w : World} : ∀ cs (y : Part), Enc.rep M w cs y → ∀ c ∈ cs, c.oneCell' = true := by
  rintro cs y ⟨f, l, rfl, h1, h2⟩ d hd
  obtain ⟨A, c, rfl⟩ := h1.form
  obtain ⟨A', c', rfl⟩ := h2.form
  simp at hd
  rcases hd with rfl | rfl | rfl <;> rfl
theorem facts5 {w : World} {b : Nat} {x0 x1 x2 x3 x4 : Value} {t : TypeId} (h : w.heap[b]? = some (.cells #[x0, x1, x2, x3, x4] t (0, 0))) : w.cell? ⟨b, 0, none⟩ = some x0 ∧ w.cell? ⟨b, 1, none⟩ = some x1 ∧ w.cell? ⟨b, 2, none⟩ = some x2 ∧ w.cell? ⟨b, 3, none⟩ = some x3 ∧ w.cell? ⟨b, 4, none⟩ = some x4 ∧
    ∀ j, w.frozen? ⟨b, j, none⟩ = false :=
  ⟨by simp [World.cell?, h], by simp [World.cell?, h], by simp [World.cell?, h], by simp [World.cell?, h], by simp [World.cell?, h], frozen_cells h⟩
set_option maxRecDepth 100000 in
set_option maxHeartbeats 1600000 in
theorem build_wrong (M0 : Nat → Prop) (w : World) (v : Value) (xs : List Step) (hS : Sl M0 w v xs) (hR : rightB xs = false) :
    Calls Tryz.prog 10 #[v] w fun e w' => Ext No w w' ∧ e = .returned (.tuple #[.agg #[.slice none 0 0, .slice none 0 0, .slice none 0 0, .slice none 0 0, .bool false], .int .i64 1]) := by
  have HP := Lib.hid (rightPath_any M0 v xs)
  have HR := Lib.hid hR
  have hg0 := heap_alloc_new w (.cells #[.slice none 0 0, .slice none 0 0, .slice none 0 0, .slice none 0 0, .bool false] 27 (0, 0))
  go_enter Tryz.func10, Tryz.ntmps10
  go_wp2_with (first
    | (go_at_call 28; go_loud (
       refine (HP.out _ (hS.ext (Ext.alloc (Ext.refl _ _) _))).mono ?_
       rintro e w1 ⟨rfl, hE1⟩
       rw [HR.out]))
    | (refine gate_ (.store 27 (.tmp 2) (.tmp 14)) rfl ?_; go_loud (
       refine wpl_whole 27 (.tmp 2) (.tmp 14) rfl rfl rfl w.heap.size 27 _ #[.slice none 0 0, .slice none 0 0, .slice none 0 0, .slice none 0 0, .bool false] rfl rfl ((hE1.block _ (by simp) id).trans hg0) (by kernel_rfl) rfl ?_ ?_
       (· intro d hd; simp at hd; rcases hd with rfl | rfl <;> rfl)
       intro wz hfz hEz
       obtain ⟨z0, z1, z2, z3, z4, -⟩ := facts5 hfz)))
  refine bodyPost_ret (v := .tuple #[.agg #[.slice none 0 0, .slice none 0 0, .slice none 0 0, .slice none 0 0, .bool false], .int .i64 1]) (by simp [results, Tryz.results10, go_sem, z0, z1, z2, z3, z4]) rfl ?_
  exact ⟨((Ext.alloc (Ext.refl No w) _).trans hE1).then hEz fun b hb e => by omega, rfl⟩
set_option maxRecDepth 100000 in
set_option maxHeartbeats 6400000 in
theorem build_right (M0 : Nat → Prop) (w : World) (v : Value) (xs : List Step) (hS : Sl M0 w v xs) (hR : rightB xs = true) :
    Calls Tryz.prog 10 #[v] w fun e w' => Ext No w w' ∧
      ∃ lv f l fv, e = .returned (.tuple #[.agg #[lv, f, l, fv, .bool (nth (built xs).st 0).empty], .int .i64 0]) ∧ Sl No w' lv (built xs).ls ∧ Sl No w' f (nth (built xs).st 0).first ∧ Sl No w' l (nth (built xs).st 0).last ∧ Sl No w' fv (built xs).fs := by
  have l1 := hS.len_rule (P := Tryz.prog) 22 (by kernel_rfl)
  have i1 := hS.idx_rule (P := Tryz.prog) 22 (by kernel_rfl) (by kernel_rfl)
  have hlm := hS.small
  unfold maxLen at hlm
  have HP := Lib.hid (rightPath_any M0 v xs)
  have hg0 := heap_alloc_new w (.cells #[.slice none 0 0, .slice none 0 0, .slice none 0 0, .slice none 0 0, .bool false] 27 (0, 0))
  obtain ⟨hx100, -⟩ := right_st hR
  have HR := Lib.hid hR
  have HT := Lib.hid (fun k hk => right_step hR k hk)
  go_enter Tryz.func10, Tryz.ntmps10
  go_wp2_with (go_at_call 28; go_loud (
    refine (HP.out _ (hS.ext (Ext.alloc (Ext.refl _ _) _))).mono ?_
    rintro e w1 ⟨rfl, hE1⟩
    rw [HR.out]))
  have hrq : w.heap.size < w1.heap.size := by have := hE1.size; simp at this; omega
  have hr0 : (w.alloc (.cells #[.slice none 0 0, .slice none 0 0, .slice none 0 0, .slice none 0 0, .bool false] 27 (0, 0))).heap.size ≤ w.heap.size + 1 := by simp
  have hr1 : w.heap.size < (w.alloc (.cells #[.slice none 0 0, .slice none 0 0, .slice none 0 0, .slice none 0 0, .bool false] 27 (0, 0))).heap.size := by simp
  have hE0 := Ext.alloc (Ext.refl No w) (.cells #[.slice none 0 0, .slice none 0 0, .slice none 0 0, .slice none 0 0, .bool false] 27 (0, 0))
  generalize w.alloc (.cells #[.slice none 0 0, .slice none 0 0, .slice none 0 0, .slice none 0 0, .bool false] 27 (0, 0)) = w0 at *
  go_loopw [5, 17] (fun t5 t17 wr => ∃ (j : Nat), j ≤ xs.length ∧ t17 = .int .i64 j ∧ Ext No w0 wr ∧ ∃ M lv fv, BuildAt M wr w.heap.size w1.heap.size lv fv t5 (built (xs.take j)))
    (fun _ t17 _ => xs.length - (intOf t17).toNat)
  case atStart =>
    have hn := heap_alloc_new w1 (.cells #[.slice none 0 0, .slice none 0 0, .slice none 0 0, .slice none 0 0, .bool false] 27 (0, 0))
    obtain ⟨z0, z1, z2, z3, z4, zf⟩ := facts5 hn
    refine ⟨0, Nat.zero_le _, rfl, hE1.alloc _, fun b => b = w.heap.size ∨ b = w1.heap.size, .slice none 0 0, .slice none 0 0, ⟨⟨z0, z1, z2, z3, z4, zf, Own.nil _ _ _ _, Own.nil _ _ _ _, .inr rfl, fun b e => by simp [Value.ownBlock] at e, fun b e => by simp [Value.ownBlock] at e, fun b e => ⟨Nat.zero_le _, ?_⟩⟩, Own.nil _ _ _ _, fun b e => by simp [Value.ownBlock] at e, .inl rfl, hrq⟩⟩
    rcases e with rfl | rfl
    · simp; omega
    · simp
  case round =>
    obtain ⟨j, hj, rfl, hE, M, lv, fv, hB⟩ := hrel
    by_cases hlt : j < xs.length
    · obtain ⟨cs, ⟨rfl, hlz, hk64⟩, p0, p1⟩ := hS.cells j hlt
      have p1 : ∀ W, Ext No wr W → _ := fun W hW => p1 1 (by decide) _ rfl W ((hE0.trans hE).any.trans hW.any)
      have p0 : ∀ W, Ext No wr W → _ := fun W hW => p0 _ rfl W ((hE0.trans hE).any.trans hW.any)
      obtain ⟨hI, hIj, hk1, hk7, hnd, hstj, -⟩ := HT.out j hlt
      have hnext : built (xs.take (j + 1)) = bstep (built (xs.take j)) (nth xs j) := by
        rw [List.take_succ_eq_append_getElem hlt, built_snoc, nth_eq _ _ hlt]
      rw [← nth_eq _ _ hlt] at hk1 hk7 hnd
      have HX := Lib.hid hnext; clear hnext
      generalize nth xs j = x at *
      generalize built (xs.take j) = s at *
      obtain ⟨k, lab⟩ := x
      obtain ⟨ls, fs, st⟩ := s
      simp only [] at *
      have hstk : Own 76 (w1.heap.size + 1) M wr u5 st := hB.stack
      have hauto : AutoAt M wr w1.heap.size lv fv ls fs := hB.auto
      have hS' := hstk.sl (M' := No) (fun _ _ h => h) (fun _ _ h => h.elim)
      have l2 := hS'.len_rule (P := Tryz.prog) 74 (by kernel_rfl)
      have i2 := hS'.idx_rule (P := Tryz.prog) 74 (by kernel_rfl) (by kernel_rfl)
      have hk : k = 1 ∨ k = 2 ∨ k = 3 ∨ k = 4 ∨ k = 5 ∨ k = 6 ∨ k = 7 := by omega
      have hblk := hB.blk
      have hlen := hI.len
      simp only [] at hlen
      have hal := fun (z : Int) => Ext.alloc (Ext.refl No wr) (.cells #[.int .i64 z, .string lab] 64)
      have hsz1 := fun (z : Int) => (show (wr.alloc (.cells #[.int .i64 z, .string lab] 64)).heap.size = wr.heap.size + 1 by simp)
      by_cases h12 : k = 1 ∨ k = 2
      · rcases h12 with rfl | rfl
        all_goals
          have hstep : ∀ z, z = 1 ∨ z = 2 → bstep ⟨ls, fs, st⟩ ⟨z, lab⟩ = ⟨ls ++ [⟨z, lab⟩], fs ++ [[]], st ++ [⟨[(ls.length : Int)], [(ls.length : Int)], false⟩]⟩ := fun z hz => by simp [bstep, hz]
          go_wp2_with (first
            | (go_at_call 29; go_loud (
               refine (place_any M _ w1.heap.size lv fv ls fs ⟨_, lab⟩ (hauto.ext (hal _)) ⟨hlz, hk64⟩ (by omega) (by omega)).mono ?_
               rintro e w2 ⟨M', lv', fv', f, l, rfl, hA, hK, hsub, hup, hE2, hf, hl, hlv, hfv⟩
               have hst2 : Own 76 (w1.heap.size + 1) M' w2 u5 st := (hstk.ext (hal _)).to hK fun b e => ⟨hsub b (hstk.mine b e), hE2.block b (Nat.lt_of_lt_of_le (hstk.above b e).2 (hal _).size) (by rintro (h | h | h); exact hstk.low (show w1.heap.size < w1.heap.size + 1 by omega) (h ▸ e); exact (hB.ds b e).1 h; exact (hB.ds b e).2 h)⟩
               have hds2 : ∀ b, u5.ownBlock = some b → ¬ lv'.ownBlock = some b ∧ ¬ fv'.ownBlock = some b := by
                 intro b e
                 have h1 := (hstk.above b e).2
                 have h2 := hsz1 1
                 have h3 := hsz1 2
                 refine ⟨fun h => ?_, fun h => ?_⟩
                 · rcases hlv b h with h | h
                   · exact (hB.ds b e).1 h
                   · omega
                 · rcases hfv b h with h | h
                   · exact (hB.ds b e).2 h
                   · omega))
            | (at_builtin; go_loud (
               have hal2 := Ext.alloc (Ext.refl No w2) (.cells #[f, l, .bool false] 76)
               refine wpl_append (M := M') (.tmp 54) (.tmp 57) 74 76 rfl rfl (.agg #[.slice none 0 0, .slice none 0 0, .bool false]) 56 Tryz.underlying74 (by kernel_rfl) rfl (w1.heap.size + 1) u5 _ st [⟨[(ls.length : Int)], [(ls.length : Int)], false⟩] rfl rfl (hst2.ext hal2) (Sl.lit1' (part_rep hf hl) _ _ rfl fun b hb => (hA.low b hb).2) ?_ part_one (by decide) (by simp; omega) ?_
               (· have := hA.qlt; simp; omega)
               intro sv1 w3 hOut
               obtain ⟨M2, hB2, hx3⟩ := BuildAt.push (hA.ext hal2) (hst2.ext hal2) hds2 (hsub _ hB.mr) hB.rq hOut)))
          refine ⟨⟨j + 1, by omega, by go_num, ?_, M2, lv', fv', ?_⟩, by simp [intOf]; omega⟩
          · exact hB.stay hE hr0 (N := fun b => b = w1.heap.size ∨ lv.ownBlock = some b ∨ fv.ownBlock = some b ∨ u5.ownBlock = some b) (((hal _).any.trans (hE2.mono fun b _ h => by rcases h with h | h | h; exact .inl h; exact .inr (.inl h); exact .inr (.inr (.inl h)))).trans (hal2.any.trans (hx3.mono fun b _ h => .inr (.inr (.inr h))))) (fun _ _ h => h)
          · rw [HX.out, hstep _ (by decide)]; exact hB2
      have hn1 : 1 ≤ st.length := by unfold needs at hnd; rw [if_neg h12] at hnd; split at hnd <;> omega
      have hnx : ¬ (1 : Nat) ≤ 0 := by omega
      obtain ⟨tf, tl, htf, htl, ht⟩ := hstk.part (st.length - 1) (by omega)
      have hit : ∀ W, (Instr.indexAt 74 u5 (.int .i64 ((st.length : Int) - 1))).run Tryz.prog W = .ok (.pointer (some (eaddr u5 (Enc.n Part) (st.length - 1)))) W := by
        intro W
        have := i2 ((st.length : Int) - 1) W (by omega) (by omega)
        rwa [show ((st.length : Int) - 1).toNat = st.length - 1 by omega] at this
      by_cases h7 : k = 7
      · subst h7
        have hstep : bstep ⟨ls, fs, st⟩ ⟨7, lab⟩ = ⟨ls, fs, st.set (st.length - 1) ⟨(nth st (st.length - 1)).first, (nth st (st.length - 1)).last, true⟩⟩ := by simp [bstep]
        go_wp2_with (refine gate_ (.store 4 (.tmp 116) (.const (.bool true))) rfl ?_; go_loud (
          refine wpl_set (st.length - 1) 2 4 (.tmp 116) (.const (.bool true)) rfl rfl rfl _ _ rfl rfl (hstk.ext (hal 7)) (by omega) [.bool true] rfl (by kernel_rfl) ?_ (Nat.le_refl 3) ⟨(nth st (st.length - 1)).first, (nth st (st.length - 1)).last, true⟩ ?_ ?_ ?_
          (· intro q hq; simp at hq; subst hq; rfl)
          (· rintro c ⟨f, l, rfl, h1, h2⟩; exact ⟨f, l, rfl, h1, h2⟩)
          (· unfold Addr.add; rfl)
          intro w2 hO2 hx2))
        have hB2 := BuildAt.set (hauto.ext (hal 7)) (hstk.ext (hal 7)) hB.ds hB.mr hB.rq hO2 hx2
        refine ⟨⟨j + 1, by omega, by go_num, ?_, M, lv, fv, ?_⟩, by simp [intOf]; omega⟩
        · exact hB.stay hE hr0 ((hal 7).any.trans hx2) (fun _ _ h => .inr (.inr (.inr h)))
        · rw [HX.out, hstep]; exact hB2
      have hsf : ∀ b, u5.ownBlock = some b → ¬ fv.ownBlock = some b := fun b e => (hB.ds b e).2
      have hfb : ∀ b, fv.ownBlock = some b → M b := fun b e => hauto.rows.mine b e
      have htli := hI.last (st.length - 1) (by simp only []; omega)
      have htfi := hI.first (st.length - 1) (by simp only []; omega)
      have htll := hI.lastLen (st.length - 1) (by simp only []; omega)
      have htfl := hI.firstLen (st.length - 1) (by simp only []; omega)
      simp only [] at htli htfi htll htfl
      by_cases h56 : k = 5 ∨ k = 6
      · have hstep : bstep ⟨ls, fs, st⟩ ⟨k, lab⟩ = ⟨ls, thenF fs (nth st (st.length - 1)).last (nth st (st.length - 1)).first, st.set (st.length - 1) ⟨(nth st (st.length - 1)).first, (nth st (st.length - 1)).last, (nth st (st.length - 1)).empty || decide (k = 5)⟩⟩ := by
          rcases h56 with rfl | rfl <;> simp [bstep]
        have HS := Lib.hid hstep; clear hstep
        obtain ⟨top, htop⟩ : ∃ y, nth st (st.length - 1) = y := ⟨_, rfl⟩
        have hnt := Lib.hid htop
        rw [htop] at htf htl htli htfi htll htfl HS
        simp only [htop] at ht
        clear htop
        obtain ⟨pf, pl, pe⟩ := top
        simp only [] at htf htl htli htfi htll htfl ht HS
        rcases h56 with rfl | rfl <;> cases pe
        · go_wp2
          have hXE := hal 5
          have y0 : ∀ N : Nat → Prop, ¬ N wr.heap.size → ∀ W, Ext N (wr.alloc (.cells #[.int .i64 5, .string lab] 64)) W → W.cell? ⟨wr.heap.size, 0, none⟩ = some (.int .i64 5) := fun N hN W hW => hW.cell hN (cell_new wr #[.int .i64 5, .string lab] 64 0 rfl)
          have hsx := hsz1 5
          generalize wr.alloc (.cells #[.int .i64 5, .string lab] 64) = wx at *
          refine wp_region_reads 10 (by kernel_rfl) (by kernel_rfl) (fun W => Ext No wx W) (Ext.drew (Ext.refl _ _)) ?_
          have hEd : Ext No wx { wx with drawn := wx.drawn + 1 } := Ext.drew (Ext.refl _ _)
          generalize ({ wx with drawn := wx.drawn + 1 } : World) = wd at hEd ⊢
          have hwd := hXE.trans hEd
          simp only [List.take, List.drop]
          refine wpRead_value rfl u5 (fun W hW => by go_simp) ?_
          refine wpRead_value rfl (.int .i64 ((st.length : Int) - 1)) (fun W hW => by go_simp) ?_
          refine wpRead_value rfl (.pointer (some (eaddr u5 (Enc.n Part) (st.length - 1)))) (fun W hW => by go_simp) ?_
          refine wpRead_value rfl (.pointer (some ⟨(eaddr u5 (Enc.n Part) (st.length - 1)).block, (eaddr u5 (Enc.n Part) (st.length - 1)).off + 1, none⟩)) (fun W hW => by go_simp) ?_
          refine wpRead_value rfl tl (fun W hW => by have h1 := (ht No (fun _ _ => id) W (hXE.trans hW)).2.1; go_simp) ?_
          refine wpRead_value rfl u5 (fun W hW => by go_simp) ?_
          refine wpRead_value rfl (.int .i64 ((st.length : Int) - 1)) (fun W hW => by go_simp) ?_
          refine wpRead_value rfl (.pointer (some (eaddr u5 (Enc.n Part) (st.length - 1)))) (fun W hW => by go_simp) ?_
          refine wpRead_value rfl (.pointer (some (eaddr u5 (Enc.n Part) (st.length - 1)))) (fun W hW => by go_simp) ?_
          refine wpRead_value rfl tf (fun W hW => by have h1 := (ht No (fun _ _ => id) W (hXE.trans hW)).1; go_simp) ?_
          refine wpRead_nil ?_
          refine wpTail_last rfl (by kernel_rfl) ?_
          go_wp2_with (go_at_call 32; go_loud (
            refine (then_any (w1.heap.size + 1) M wd w1.heap.size fv tl tf fs pl pf (hwd.cell id hauto.c3) (fun b h => Nat.lt_of_lt_of_le (hauto.low b h).2 hwd.size) (hauto.rows.ext hwd) (hauto.rows.low (by omega)) ((htl.free fun b _ e => hfb b e).ext hwd.any) ((htf.free fun b _ e => hfb b e).ext hwd.any) ls.length (by omega) hlen hI.good htli htfi (by omega)).mono ?_
            rintro e w2 ⟨rfl, hR2, hE2⟩
            have hw2 : Ext (fun b => fv.ownBlock = some b) wr w2 := hwd.any.trans hE2
            have c2 := (ht _ hsf w2 hw2).2.2
            have yk := y0 _ (hauto.rows.high (Nat.le_refl _)) w2 (hEd.any.trans hE2)
            have hst2 : Own 76 (w1.heap.size + 1) M w2 u5 st := hstk.to (Keeps.of_ext (hw2.mono fun b _ e => hfb b e)) fun b e => ⟨hstk.mine b e, hw2.block b (hstk.above b e).2 (hsf b e)⟩
            have hA2 : AutoAt M w2 w1.heap.size lv fv ls (thenF fs pl pf) := (hauto.ext hwd).next hE2 hR2))
          unfold Calm
          go_wp2_with (refine gate_ (.store 4 (.tmp 50) (.tmp 48)) rfl ?_; go_loud (
            refine wpl_set (st.length - 1) 2 4 (.tmp 50) (.tmp 48) rfl rfl rfl _ _ rfl rfl hst2 (by omega) [.bool true] rfl (by kernel_rfl) ?_ (Nat.le_refl 3) ⟨pf, pl, true⟩ ?_ ?_ ?_
            (· intro q hq; simp at hq; subst hq; rfl)
            (· intro c hc; rw [hnt.out] at hc; obtain ⟨f, l, rfl, h1, h2⟩ := hc; exact ⟨f, l, rfl, h1, h2⟩)
            (· unfold Addr.add; rfl)
            intro w3 hO3 hx3))
          have hB2 := BuildAt.set hA2 hst2 hB.ds hB.mr hB.rq hO3 hx3
          refine ⟨⟨j + 1, by omega, by go_num, ?_, M, lv, fv, ?_⟩, by simp [intOf]; omega⟩
          · exact hB.stay hE hr0 (N := fun b => b = w1.heap.size ∨ lv.ownBlock = some b ∨ fv.ownBlock = some b ∨ u5.ownBlock = some b) ((hw2.mono fun b _ h => .inr (.inr (.inl h))).trans (hx3.mono fun b _ h => .inr (.inr (.inr h)))) (fun _ _ h => h)
          · rw [HX.out, HS.out]; exact hB2
        · go_wp2
          have hXE := hal 5
          have y0 : ∀ N : Nat → Prop, ¬ N wr.heap.size → ∀ W, Ext N (wr.alloc (.cells #[.int .i64 5, .string lab] 64)) W → W.cell? ⟨wr.heap.size, 0, none⟩ = some (.int .i64 5) := fun N hN W hW => hW.cell hN (cell_new wr #[.int .i64 5, .string lab] 64 0 rfl)
          have hsx := hsz1 5
          generalize wr.alloc (.cells #[.int .i64 5, .string lab] 64) = wx at *
          refine wp_region_reads 10 (by kernel_rfl) (by kernel_rfl) (fun W => Ext No wx W) (Ext.drew (Ext.refl _ _)) ?_
          have hEd : Ext No wx { wx with drawn := wx.drawn + 1 } := Ext.drew (Ext.refl _ _)
          generalize ({ wx with drawn := wx.drawn + 1 } : World) = wd at hEd ⊢
          have hwd := hXE.trans hEd
          simp only [List.take, List.drop]
          refine wpRead_value rfl u5 (fun W hW => by go_simp) ?_
          refine wpRead_value rfl (.int .i64 ((st.length : Int) - 1)) (fun W hW => by go_simp) ?_
          refine wpRead_value rfl (.pointer (some (eaddr u5 (Enc.n Part) (st.length - 1)))) (fun W hW => by go_simp) ?_
          refine wpRead_value rfl (.pointer (some ⟨(eaddr u5 (Enc.n Part) (st.length - 1)).block, (eaddr u5 (Enc.n Part) (st.length - 1)).off + 1, none⟩)) (fun W hW => by go_simp) ?_
          refine wpRead_value rfl tl (fun W hW => by have h1 := (ht No (fun _ _ => id) W (hXE.trans hW)).2.1; go_simp) ?_
          refine wpRead_value rfl u5 (fun W hW => by go_simp) ?_
          refine wpRead_value rfl (.int .i64 ((st.length : Int) - 1)) (fun W hW => by go_simp) ?_
          refine wpRead_value rfl (.pointer (some (eaddr u5 (Enc.n Part) (st.length - 1)))) (fun W hW => by go_simp) ?_
          refine wpRead_value rfl (.pointer (some (eaddr u5 (Enc.n Part) (st.length - 1)))) (fun W hW => by go_simp) ?_
          refine wpRead_value rfl tf (fun W hW => by have h1 := (ht No (fun _ _ => id) W (hXE.trans hW)).1; go_simp) ?_
          refine wpRead_nil ?_
          refine wpTail_last rfl (by kernel_rfl) ?_
          go_wp2_with (go_at_call 32; go_loud (
            refine (then_any (w1.heap.size + 1) M wd w1.heap.size fv tl tf fs pl pf (hwd.cell id hauto.c3) (fun b h => Nat.lt_of_lt_of_le (hauto.low b h).2 hwd.size) (hauto.rows.ext hwd) (hauto.rows.low (by omega)) ((htl.free fun b _ e => hfb b e).ext hwd.any) ((htf.free fun b _ e => hfb b e).ext hwd.any) ls.length (by omega) hlen hI.good htli htfi (by omega)).mono ?_
            rintro e w2 ⟨rfl, hR2, hE2⟩
            have hw2 : Ext (fun b => fv.ownBlock = some b) wr w2 := hwd.any.trans hE2
            have c2 := (ht _ hsf w2 hw2).2.2
            have yk := y0 _ (hauto.rows.high (Nat.le_refl _)) w2 (hEd.any.trans hE2)
            have hst2 : Own 76 (w1.heap.size + 1) M w2 u5 st := hstk.to (Keeps.of_ext (hw2.mono fun b _ e => hfb b e)) fun b e => ⟨hstk.mine b e, hw2.block b (hstk.above b e).2 (hsf b e)⟩
            have hA2 : AutoAt M w2 w1.heap.size lv fv ls (thenF fs pl pf) := (hauto.ext hwd).next hE2 hR2))
          unfold Calm
          go_wp2_with (refine gate_ (.store 4 (.tmp 50) (.tmp 48)) rfl ?_; go_loud (
            refine wpl_set (st.length - 1) 2 4 (.tmp 50) (.tmp 48) rfl rfl rfl _ _ rfl rfl hst2 (by omega) [.bool true] rfl (by kernel_rfl) ?_ (Nat.le_refl 3) ⟨pf, pl, true⟩ ?_ ?_ ?_
            (· intro q hq; simp at hq; subst hq; rfl)
            (· intro c hc; rw [hnt.out] at hc; obtain ⟨f, l, rfl, h1, h2⟩ := hc; exact ⟨f, l, rfl, h1, h2⟩)
            (· unfold Addr.add; rfl)
            intro w3 hO3 hx3))
          have hB2 := BuildAt.set hA2 hst2 hB.ds hB.mr hB.rq hO3 hx3
          refine ⟨⟨j + 1, by omega, by go_num, ?_, M, lv, fv, ?_⟩, by simp [intOf]; omega⟩
          · exact hB.stay hE hr0 (N := fun b => b = w1.heap.size ∨ lv.ownBlock = some b ∨ fv.ownBlock = some b ∨ u5.ownBlock = some b) ((hw2.mono fun b _ h => .inr (.inr (.inl h))).trans (hx3.mono fun b _ h => .inr (.inr (.inr h)))) (fun _ _ h => h)
          · rw [HX.out, HS.out]; exact hB2
        · go_wp2
          have hXE := hal 6
          have y0 : ∀ N : Nat → Prop, ¬ N wr.heap.size → ∀ W, Ext N (wr.alloc (.cells #[.int .i64 6, .string lab] 64)) W → W.cell? ⟨wr.heap.size, 0, none⟩ = some (.int .i64 6) := fun N hN W hW => hW.cell hN (cell_new wr #[.int .i64 6, .string lab] 64 0 rfl)
          have hsx := hsz1 6
          generalize wr.alloc (.cells #[.int .i64 6, .string lab] 64) = wx at *
          refine wp_region_reads 10 (by kernel_rfl) (by kernel_rfl) (fun W => Ext No wx W) (Ext.drew (Ext.refl _ _)) ?_
          have hEd : Ext No wx { wx with drawn := wx.drawn + 1 } := Ext.drew (Ext.refl _ _)
          generalize ({ wx with drawn := wx.drawn + 1 } : World) = wd at hEd ⊢
          have hwd := hXE.trans hEd
          simp only [List.take, List.drop]
          refine wpRead_value rfl u5 (fun W hW => by go_simp) ?_
          refine wpRead_value rfl (.int .i64 ((st.length : Int) - 1)) (fun W hW => by go_simp) ?_
          refine wpRead_value rfl (.pointer (some (eaddr u5 (Enc.n Part) (st.length - 1)))) (fun W hW => by go_simp) ?_
          refine wpRead_value rfl (.pointer (some ⟨(eaddr u5 (Enc.n Part) (st.length - 1)).block, (eaddr u5 (Enc.n Part) (st.length - 1)).off + 1, none⟩)) (fun W hW => by go_simp) ?_
          refine wpRead_value rfl tl (fun W hW => by have h1 := (ht No (fun _ _ => id) W (hXE.trans hW)).2.1; go_simp) ?_
          refine wpRead_value rfl u5 (fun W hW => by go_simp) ?_
          refine wpRead_value rfl (.int .i64 ((st.length : Int) - 1)) (fun W hW => by go_simp) ?_
          refine wpRead_value rfl (.pointer (some (eaddr u5 (Enc.n Part) (st.length - 1)))) (fun W hW => by go_simp) ?_
          refine wpRead_value rfl (.pointer (some (eaddr u5 (Enc.n Part) (st.length - 1)))) (fun W hW => by go_simp) ?_
          refine wpRead_value rfl tf (fun W hW => by have h1 := (ht No (fun _ _ => id) W (hXE.trans hW)).1; go_simp) ?_
          refine wpRead_nil ?_
          refine wpTail_last rfl (by kernel_rfl) ?_
          go_wp2_with (go_at_call 32; go_loud (
            refine (then_any (w1.heap.size + 1) M wd w1.heap.size fv tl tf fs pl pf (hwd.cell id hauto.c3) (fun b h => Nat.lt_of_lt_of_le (hauto.low b h).2 hwd.size) (hauto.rows.ext hwd) (hauto.rows.low (by omega)) ((htl.free fun b _ e => hfb b e).ext hwd.any) ((htf.free fun b _ e => hfb b e).ext hwd.any) ls.length (by omega) hlen hI.good htli htfi (by omega)).mono ?_
            rintro e w2 ⟨rfl, hR2, hE2⟩
            have hw2 : Ext (fun b => fv.ownBlock = some b) wr w2 := hwd.any.trans hE2
            have c2 := (ht _ hsf w2 hw2).2.2
            have yk := y0 _ (hauto.rows.high (Nat.le_refl _)) w2 (hEd.any.trans hE2)
            have hst2 : Own 76 (w1.heap.size + 1) M w2 u5 st := hstk.to (Keeps.of_ext (hw2.mono fun b _ e => hfb b e)) fun b e => ⟨hstk.mine b e, hw2.block b (hstk.above b e).2 (hsf b e)⟩
            have hA2 : AutoAt M w2 w1.heap.size lv fv ls (thenF fs pl pf) := (hauto.ext hwd).next hE2 hR2))
          unfold Calm
          go_wp2_with (refine gate_ (.store 4 (.tmp 50) (.tmp 48)) rfl ?_; go_loud (
            refine wpl_set (st.length - 1) 2 4 (.tmp 50) (.tmp 48) rfl rfl rfl _ _ rfl rfl hst2 (by omega) [.bool false] rfl (by kernel_rfl) ?_ (Nat.le_refl 3) ⟨pf, pl, false⟩ ?_ ?_ ?_
            (· intro q hq; simp at hq; subst hq; rfl)
            (· intro c hc; rw [hnt.out] at hc; obtain ⟨f, l, rfl, h1, h2⟩ := hc; exact ⟨f, l, rfl, h1, h2⟩)
            (· unfold Addr.add; rfl)
            intro w3 hO3 hx3))
          have hB2 := BuildAt.set hA2 hst2 hB.ds hB.mr hB.rq hO3 hx3
          refine ⟨⟨j + 1, by omega, by go_num, ?_, M, lv, fv, ?_⟩, by simp [intOf]; omega⟩
          · exact hB.stay hE hr0 (N := fun b => b = w1.heap.size ∨ lv.ownBlock = some b ∨ fv.ownBlock = some b ∨ u5.ownBlock = some b) ((hw2.mono fun b _ h => .inr (.inr (.inl h))).trans (hx3.mono fun b _ h => .inr (.inr (.inr h)))) (fun _ _ h => h)
          · rw [HX.out, HS.out]; exact hB2
        · go_wp2
          have hXE := hal 6
          have y0 : ∀ N : Nat → Prop, ¬ N wr.heap.size → ∀ W, Ext N (wr.alloc (.cells #[.int .i64 6, .string lab] 64)) W → W.cell? ⟨wr.heap.size, 0, none⟩ = some (.int .i64 6) := fun N hN W hW => hW.cell hN (cell_new wr #[.int .i64 6, .string lab] 64 0 rfl)
          have hsx := hsz1 6
          generalize wr.alloc (.cells #[.int .i64 6, .string lab] 64) = wx at *
          refine wp_region_reads 10 (by kernel_rfl) (by kernel_rfl) (fun W => Ext No wx W) (Ext.drew (Ext.refl _ _)) ?_
          have hEd : Ext No wx { wx with drawn := wx.drawn + 1 } := Ext.drew (Ext.refl _ _)
          generalize ({ wx with drawn := wx.drawn + 1 } : World) = wd at hEd ⊢
          have hwd := hXE.trans hEd
          simp only [List.take, List.drop]
          refine wpRead_value rfl u5 (fun W hW => by go_simp) ?_
          refine wpRead_value rfl (.int .i64 ((st.length : Int) - 1)) (fun W hW => by go_simp) ?_
          refine wpRead_value rfl (.pointer (some (eaddr u5 (Enc.n Part) (st.length - 1)))) (fun W hW => by go_simp) ?_
          refine wpRead_value rfl (.pointer (some ⟨(eaddr u5 (Enc.n Part) (st.length - 1)).block, (eaddr u5 (Enc.n Part) (st.length - 1)).off + 1, none⟩)) (fun W hW => by go_simp) ?_
          refine wpRead_value rfl tl (fun W hW => by have h1 := (ht No (fun _ _ => id) W (hXE.trans hW)).2.1; go_simp) ?_
          refine wpRead_value rfl u5 (fun W hW => by go_simp) ?_
          refine wpRead_value rfl (.int .i64 ((st.length : Int) - 1)) (fun W hW => by go_simp) ?_
          refine wpRead_value rfl (.pointer (some (eaddr u5 (Enc.n Part) (st.length - 1)))) (fun W hW => by go_simp) ?_
          refine wpRead_value rfl (.pointer (some (eaddr u5 (Enc.n Part) (st.length - 1)))) (fun W hW => by go_simp) ?_
          refine wpRead_value rfl tf (fun W hW => by have h1 := (ht No (fun _ _ => id) W (hXE.trans hW)).1; go_simp) ?_
          refine wpRead_nil ?_
          refine wpTail_last rfl (by kernel_rfl) ?_
          go_wp2_with (go_at_call 32; go_loud (
            refine (then_any (w1.heap.size + 1) M wd w1.heap.size fv tl tf fs pl pf (hwd.cell id hauto.c3) (fun b h => Nat.lt_of_lt_of_le (hauto.low b h).2 hwd.size) (hauto.rows.ext hwd) (hauto.rows.low (by omega)) ((htl.free fun b _ e => hfb b e).ext hwd.any) ((htf.free fun b _ e => hfb b e).ext hwd.any) ls.length (by omega) hlen hI.good htli htfi (by omega)).mono ?_
            rintro e w2 ⟨rfl, hR2, hE2⟩
            have hw2 : Ext (fun b => fv.ownBlock = some b) wr w2 := hwd.any.trans hE2
            have c2 := (ht _ hsf w2 hw2).2.2
            have yk := y0 _ (hauto.rows.high (Nat.le_refl _)) w2 (hEd.any.trans hE2)
            have hst2 : Own 76 (w1.heap.size + 1) M w2 u5 st := hstk.to (Keeps.of_ext (hw2.mono fun b _ e => hfb b e)) fun b e => ⟨hstk.mine b e, hw2.block b (hstk.above b e).2 (hsf b e)⟩
            have hA2 : AutoAt M w2 w1.heap.size lv fv ls (thenF fs pl pf) := (hauto.ext hwd).next hE2 hR2))
          unfold Calm
          go_wp2_with (refine gate_ (.store 4 (.tmp 50) (.tmp 48)) rfl ?_; go_loud (
            refine wpl_set (st.length - 1) 2 4 (.tmp 50) (.tmp 48) rfl rfl rfl _ _ rfl rfl hst2 (by omega) [.bool true] rfl (by kernel_rfl) ?_ (Nat.le_refl 3) ⟨pf, pl, true⟩ ?_ ?_ ?_
            (· intro q hq; simp at hq; subst hq; rfl)
            (· intro c hc; rw [hnt.out] at hc; obtain ⟨f, l, rfl, h1, h2⟩ := hc; exact ⟨f, l, rfl, h1, h2⟩)
            (· unfold Addr.add; rfl)
            intro w3 hO3 hx3))
          have hB2 := BuildAt.set hA2 hst2 hB.ds hB.mr hB.rq hO3 hx3
          refine ⟨⟨j + 1, by omega, by go_num, ?_, M, lv, fv, ?_⟩, by simp [intOf]; omega⟩
          · exact hB.stay hE hr0 (N := fun b => b = w1.heap.size ∨ lv.ownBlock = some b ∨ fv.ownBlock = some b ∨ u5.ownBlock = some b) ((hw2.mono fun b _ h => .inr (.inr (.inl h))).trans (hx3.mono fun b _ h => .inr (.inr (.inr h)))) (fun _ _ h => h)
          · rw [HX.out, HS.out]; exact hB2
      have hn2 : 2 ≤ st.length := by unfold needs at hnd; rw [if_neg h12, if_pos (by omega)] at hnd; exact hnd
      obtain ⟨sf, sl, hsfS, hslS, hs⟩ := hstk.part (st.length - 2) (by omega)
      have hsli := hI.last (st.length - 2) (by simp only []; omega)
      have hsll := hI.lastLen (st.length - 2) (by simp only []; omega)
      have hsfl := hI.firstLen (st.length - 2) (by simp only []; omega)
      simp only [] at hsli hsll hsfl
      have hit2 : ∀ W, (Instr.indexAt 74 u5 (.int .i64 ((st.length : Int) - 2))).run Tryz.prog W = .ok (.pointer (some (eaddr u5 (Enc.n Part) (st.length - 2)))) W := by
        intro W
        have := i2 ((st.length : Int) - 2) W (by omega) (by omega)
        rwa [show ((st.length : Int) - 2).toNat = st.length - 2 by omega] at this
      obtain ⟨g, c, hg, hcap⟩ := hstk.one (by omega)
      have hsl : ∀ W, (Instr.slice 74 u5 none (some (.int .i64 ((st.length : Int) - 2))) none).run Tryz.prog W = .ok (.slice (some ⟨g, 0, none⟩) (st.length - 2) c) W := by
        intro W
        rw [hg]
        have := slice_head (P := Tryz.prog) 74 76 3 Tryz.underlying74 (by kernel_rfl) (some ⟨g, 0, none⟩) st.length c ((st.length : Int) - 2) (by omega) (by omega) hcap W
        rwa [show ((st.length : Int) - 2).toNat = st.length - 2 by omega] at this
      have htk : ∀ W, Own 76 (w1.heap.size + 1) M W u5 st → Own 76 (w1.heap.size + 1) M W (.slice (some ⟨g, 0, none⟩) (st.length - 2) c) (st.take (st.length - 2)) := fun W h => Own.take (n := st.length) (by rw [← hg]; exact h) _ (by omega)
      have hdk : ∀ b, (Value.slice (some ⟨g, 0, none⟩) (st.length - 2) c).ownBlock = some b → ¬ lv.ownBlock = some b ∧ ¬ fv.ownBlock = some b := fun b e => hB.ds b (by rw [hg]; exact e)
      have hok : ∀ b, (Value.slice (some ⟨g, 0, none⟩) (st.length - 2) c).ownBlock = some b → u5.ownBlock = some b := fun b e => by rw [hg]; exact e
      by_cases h3 : k = 3
      · subst h3
        have hstep : bstep ⟨ls, fs, st⟩ ⟨3, lab⟩ = ⟨ls, thenF fs (nth st (st.length - 2)).last (nth st (st.length - 1)).first, st.take (st.length - 2) ++ [rowP (nth st (st.length - 2)) (nth st (st.length - 1))]⟩ := by simp [bstep]
        have HS := Lib.hid hstep; clear hstep
        generalize nth st (st.length - 1) = top at *
        generalize nth st (st.length - 2) = two at *
        have HG := Lib.hid hg; clear hg
        go_wp2
        have hXE := hal 3
        have hsx := hsz1 3
        generalize wr.alloc (.cells #[.int .i64 3, .string lab] 64) = wx at *
        refine wp_region_reads 13 (by kernel_rfl) (by kernel_rfl) (fun W => Ext (fun b => fv.ownBlock = some b) wx W) (Ext.drew (Ext.refl _ _)) ?_
        have hEd : Ext No wx { wx with drawn := wx.drawn + 1 } := Ext.drew (Ext.refl _ _)
        generalize ({ wx with drawn := wx.drawn + 1 } : World) = wd at hEd ⊢
        have hwd := hXE.trans hEd
        simp only [List.take, List.drop]
        refine wpRead_value rfl u5 (fun W hW => by go_simp) ?_
        refine wpRead_value rfl (.int .i64 ((st.length : Int) - 1)) (fun W hW => by go_simp) ?_
        refine wpRead_value rfl (.int .i64 ((st.length : Int) - 2)) (fun W hW => by go_simp; exact (wrap_small _ (by omega) (by omega)).trans (by omega)) ?_
        refine wpRead_value rfl (.slice (some ⟨g, 0, none⟩) (st.length - 2) c) (fun W hW => by go_simp) ?_
        refine wpRead_value rfl u5 (fun W hW => by go_simp) ?_
        refine wpRead_value rfl (.int .i64 ((st.length : Int) - 1)) (fun W hW => by go_simp) ?_
        refine wpRead_value rfl (.int .i64 ((st.length : Int) - 2)) (fun W hW => by go_simp; exact (wrap_small _ (by omega) (by omega)).trans (by omega)) ?_
        refine wpRead_value rfl (.pointer (some (eaddr u5 (Enc.n Part) (st.length - 2)))) (fun W hW => by go_simp) ?_
        refine wpRead_value rfl (.agg #[sf, sl, .bool two.empty]) (fun W hW => by obtain ⟨h0, h1, h2⟩ := hs _ hsf W (hXE.any.trans hW); go_simp) ?_
        refine wpRead_value rfl u5 (fun W hW => by go_simp) ?_
        refine wpRead_value rfl (.int .i64 ((st.length : Int) - 1)) (fun W hW => by go_simp) ?_
        refine wpRead_value rfl (.pointer (some (eaddr u5 (Enc.n Part) (st.length - 1)))) (fun W hW => by go_simp) ?_
        refine wpRead_value rfl (.agg #[tf, tl, .bool top.empty]) (fun W hW => by obtain ⟨h0, h1, h2⟩ := ht _ hsf W (hXE.any.trans hW); go_simp) ?_
        refine wpRead_nil ?_
        refine wpTail_open rfl rfl fun K hK => ?_
        go_simp
        refine (row_any M wd w1.heap.size lv fv ls fs (hauto.ext hwd) two top sf sl tf tl (hsfS.ext hwd.any) (hslS.ext hwd.any) (htf.ext hwd.any) (htl.ext hwd.any) ls.length (by omega) hlen hI.good hsli htfi (by omega) (by omega) (by omega) (by omega)).mono ?_
        rintro e w2 ⟨f, l, rfl, hA2, hE2, hf2, hl2⟩
        have hw2 : Ext (fun b => fv.ownBlock = some b) wr w2 := hwd.any.trans hE2
        refine hK _ _ (hEd.any.trans hE2) ?_
        clear hK K
        refine wpTail_open rfl rfl fun K hK => ?_
        go_simp
        refine hK _ _ ((hEd.any.trans hE2).alloc _) ?_
        clear hK K
        refine wpTail_sealed2 rfl rfl (by kernel_rfl) (by kernel_rfl) ?_
        have hst2 : Own 76 (w1.heap.size + 1) M w2 u5 st := hstk.to (Keeps.of_ext (hw2.mono fun b _ e => hfb b e)) fun b e => ⟨hstk.mine b e, hw2.block b (hstk.above b e).2 (hsf b e)⟩
        have hst3 := htk _ hst2
        have hal2 := Ext.alloc (Ext.refl No w2) (.cells #[f, l, .bool (rowP two top).empty] 76)
        go_wp2_with (at_builtin; go_loud (
          refine wpl_append (M := M) (.tmp 64) (.tmp 75) 74 76 rfl rfl (.agg #[.slice none 0 0, .slice none 0 0, .bool false]) 56 Tryz.underlying74 (by kernel_rfl) rfl (w1.heap.size + 1) (.slice (some ⟨g, 0, none⟩) (st.length - 2) c) _ (st.take (st.length - 2)) [rowP two top] rfl rfl (hst3.ext hal2) (Sl.lit1' (part_rep hf2 hl2) _ _ rfl fun b hb => (hA2.low b hb).2) ?_ part_one (by decide) (by simp; omega) ?_
          (· have := hA2.qlt; simp; omega)
          intro sv1 w3 hOut
          obtain ⟨M2, hB2, hx3⟩ := BuildAt.push (hA2.ext hal2) (hst3.ext hal2) hdk hB.mr hB.rq hOut))
        unfold Calm
        go_wp2
        refine ⟨⟨j + 1, by omega, by go_num, ?_, M2, lv, fv, ?_⟩, by simp [intOf]; omega⟩
        · exact hB.stay hE hr0 (N := fun b => b = w1.heap.size ∨ lv.ownBlock = some b ∨ fv.ownBlock = some b ∨ u5.ownBlock = some b) ((hw2.mono fun b _ h => .inr (.inr (.inl h))).trans (hal2.any.trans (hx3.mono fun b _ h => .inr (.inr (.inr (hok b h)))))) (fun _ _ h => h)
        · rw [HX.out, HS.out]; exact hB2
      have h4 : k = 4 := by omega
      subst h4
      have hstep : bstep ⟨ls, fs, st⟩ ⟨4, lab⟩ = ⟨ls, fs, st.take (st.length - 2) ++ [⟨(nth st (st.length - 2)).first ++ (nth st (st.length - 1)).first, (nth st (st.length - 2)).last ++ (nth st (st.length - 1)).last, (nth st (st.length - 2)).empty || (nth st (st.length - 1)).empty⟩]⟩ := by simp [bstep]
      have HS := Lib.hid hstep; clear hstep
      have hpr1 := part_one _ _ (part_rep (e := (nth st (st.length - 2)).empty) hsfS hslS)
      have hpr2 := part_one _ _ (part_rep (e := (nth st (st.length - 1)).empty) htf htl)
      generalize nth st (st.length - 1) = top at *
      generalize nth st (st.length - 2) = two at *
      have HG := Lib.hid hg; clear hg
      go_wp2
      have hXE := hal 4
      have hsx := hsz1 4
      generalize wr.alloc (.cells #[.int .i64 4, .string lab] 64) = wx at *
      refine wp_region_plan [0, 1, 2, 3, 4, 5, 6, 7, 8] (.two 9 10 (.one 11 (.one 12 .done))) (by kernel_rfl) (by kernel_rfl) (fun W => Ext No wx W) (Ext.drew (Ext.refl _ _)) ?_
      have hEd : Ext No wx { wx with drawn := wx.drawn + 1 } := Ext.drew (Ext.refl _ _)
      generalize ({ wx with drawn := wx.drawn + 1 } : World) = wd at hEd ⊢
      have hwd := hXE.trans hEd
      refine readI_value rfl rfl u5 (fun W hW => by go_simp) ?_
      refine readI_value rfl rfl (.int .i64 ((st.length : Int) - 1)) (fun W hW => by go_simp) ?_
      refine readI_value rfl rfl (.int .i64 ((st.length : Int) - 2)) (fun W hW => by go_simp; exact (wrap_small _ (by omega) (by omega)).trans (by omega)) ?_
      refine readI_value rfl rfl (.pointer (some (eaddr u5 (Enc.n Part) (st.length - 2)))) (fun W hW => by go_simp) ?_
      refine readI_value rfl rfl (.agg #[sf, sl, .bool two.empty]) (fun W hW => by obtain ⟨h0, h1, h2⟩ := hs No (fun _ _ => id) W (hXE.trans hW); go_simp) ?_
      refine readI_value rfl rfl u5 (fun W hW => by go_simp) ?_
      refine readI_value rfl rfl (.int .i64 ((st.length : Int) - 1)) (fun W hW => by go_simp) ?_
      refine readI_value rfl rfl (.pointer (some (eaddr u5 (Enc.n Part) (st.length - 1)))) (fun W hW => by go_simp) ?_
      refine readI_value rfl rfl (.agg #[tf, tl, .bool top.empty]) (fun W hW => by obtain ⟨h0, h1, h2⟩ := ht No (fun _ _ => id) W (hXE.trans hW); go_simp) ?_
      refine readI_nil ?_
      obtain ⟨ho1, ho2, hos⟩ := two_objs wd (.cells #[.slice none 0 0, .slice none 0 0, .bool false] 76 (0, 0)) (.cells #[.slice none 0 0, .slice none 0 0, .bool false] 76 (0, 0))
      refine ⟨?_, ?_⟩
      · refine wpOp_open rfl rfl fun K hK => ?_
        go_simp
        refine hK _ _ ⟨fun _ => hEd.alloc _, ?_⟩
        clear hK K
        refine wpOp_open rfl rfl fun K hK => ?_
        go_simp
        refine hK _ _ ⟨fun _ => (hEd.alloc _).alloc _, ?_⟩
        clear hK K
        have hEy : Ext No wx _ := (hEd.alloc (.cells #[.slice none 0 0, .slice none 0 0, .bool false] 76)).alloc (.cells #[.slice none 0 0, .slice none 0 0, .bool false] 76)
        generalize (wd.alloc (.cells #[.slice none 0 0, .slice none 0 0, .bool false] 76)).alloc (.cells #[.slice none 0 0, .slice none 0 0, .bool false] 76) = wy at *
        have hsd := hEd.size
        refine wpPlan_one rfl (fun a' w' => a' = _ ∧ w'.heap[wd.heap.size]? = some (.cells #[sf, sl, .bool two.empty] 76 (0, 0)) ∧ Ext (fun k => k = wd.heap.size) wy w')
          (wpl_whole 76 (.tmp 9) (.tmp 83) rfl rfl rfl (wd.heap.size) 76 _ #[sf, sl, .bool two.empty] rfl rfl ho1 (by kernel_rfl) rfl hpr1 (fun w1 h1 h2 => ⟨rfl, h1, h2⟩)) ?_
        rintro a' w3 ⟨rfl, hb1, hE3⟩
        have hE3x : Ext No wx w3 := hEy.then hE3 fun b hb e => by omega
        refine ⟨fun _ => hE3x, ?_⟩
        refine wpPlan_sealed1 rfl (by kernel_rfl) ?_
        refine wpl_whole 76 (.tmp 10) (.tmp 87) rfl rfl rfl (wd.heap.size + 1) 76 _ #[tf, tl, .bool top.empty] rfl rfl ((hE3.block _ (by omega) (by omega)).trans ho2) (by kernel_rfl) rfl hpr2 ?_
        intro w4 hb2 hE4
        have hb1 : w4.heap[wd.heap.size]? = some (.cells #[sf, sl, .bool two.empty] 76 (0, 0)) := (hE4.block _ (by have := hE3.size; omega) (by omega)).trans hb1
        have hE4x : Ext No wx w4 := hE3x.then hE4 fun b hb e => by omega
        have hw4 := hXE.trans hE4x
        have yb1 := facts3 hb1
        have yb2 := facts3 hb2
        clear hE3 hE4 hE3x hEy ho1 ho2 hos
        unfold wpList Calm
        go_wp2
        refine wp_region_plan [0, 1, 2, 3, 4, 5, 6, 7, 9, 10, 11, 12, 14, 15] (.one 8 (.one 13 (.one 16 (.one 17 (.one 18 (.one 19 (.one 20 (.one 21 (.one 22 (.one 23 .done)))))))))) (by kernel_rfl) (by kernel_rfl) (fun W => Ext No w4 W) (Ext.drew (Ext.refl _ _)) ?_
        have hEd4 : Ext No w4 { w4 with drawn := w4.drawn + 1 } := Ext.drew (Ext.refl _ _)
        generalize ({ w4 with drawn := w4.drawn + 1 } : World) = wq at hEd4 ⊢
        have hq := hw4.trans hEd4
        refine readI_value rfl rfl u5 (fun W hW => by go_simp) ?_
        refine readI_value rfl rfl (.int .i64 ((st.length : Int) - 1)) (fun W hW => by go_simp) ?_
        refine readI_value rfl rfl (.int .i64 ((st.length : Int) - 2)) (fun W hW => by go_simp; exact (wrap_small _ (by omega) (by omega)).trans (by omega)) ?_
        refine readI_value rfl rfl (.slice (some ⟨g, 0, none⟩) (st.length - 2) c) (fun W hW => by go_simp) ?_
        refine readI_value rfl rfl (.pointer (some ⟨wd.heap.size, 0, none⟩)) (fun W hW => by go_simp) ?_
        refine readI_value rfl rfl sf (fun W hW => by have h1 := yb1.1 W hW; go_simp) ?_
        refine readI_value rfl rfl (.pointer (some ⟨wd.heap.size + 1, 0, none⟩)) (fun W hW => by go_simp) ?_
        refine readI_value rfl rfl tf (fun W hW => by have h1 := yb2.1 W hW; go_simp) ?_
        refine readI_value rfl rfl (.pointer (some ⟨wd.heap.size, 1, none⟩)) (fun W hW => by go_simp) ?_
        refine readI_value rfl rfl sl (fun W hW => by have h1 := yb1.2.1 W hW; go_simp) ?_
        refine readI_value rfl rfl (.pointer (some ⟨wd.heap.size + 1, 1, none⟩)) (fun W hW => by go_simp) ?_
        refine readI_value rfl rfl tl (fun W hW => by have h1 := yb2.2.1 W hW; go_simp) ?_
        refine readI_value rfl rfl (.pointer (some ⟨wd.heap.size, 2, none⟩)) (fun W hW => by go_simp) ?_
        refine readI_value rfl rfl (.bool two.empty) (fun W hW => by have h1 := yb1.2.2 W hW; go_simp) ?_
        refine readI_nil ?_
        refine wpPlan_open rfl rfl fun K hK => ?_
        go_simp
        refine (both_any M wq sf tf two.first top.first (hsfS.ext hq.any) (htf.ext hq.any) (by omega)).mono ?_
        rintro e w5 ⟨vf, rfl, -, hE5, hO5, hb5⟩
        refine hK _ _ (fun _ => hEd4.trans hE5) ?_
        clear hK K
        refine wpPlan_open rfl rfl fun K hK => ?_
        go_simp
        refine (both_any M w5 sl tl two.last top.last ((hslS.ext hq.any).ext hE5.any) ((htl.ext hq.any).ext hE5.any) (by omega)).mono ?_
        rintro e w6 ⟨vl, rfl, -, hE6, hO6, hb6⟩
        have h6 := (hEd4.trans hE5).trans hE6
        have h6r : Ext No wr w6 := hw4.trans h6
        refine hK _ _ (fun _ => h6) ?_
        clear hK K
        refine wpPlan_open rfl rfl fun K hK => ?_
        go_simp
        refine hK _ _ (fun _ => h6) ?_
        clear hK K
        have hMq : ∀ b, M b → b < wq.heap.size := fun b hm => Nat.lt_of_lt_of_le (hauto.low b hm).2 hq.size
        have hfS : Sl M w6 vf (two.first ++ top.first) := new_sl hO5 hE6.any hMq
        have hlS : Sl M w6 vl (two.last ++ top.last) := new_sl hO6 (Ext.refl _ _) fun b hm => Nat.lt_of_lt_of_le (hMq b hm) hE5.size
        have hst6 := htk _ (hstk.ext h6r)
        have hA6 := hauto.ext h6r
        have hq6 := hA6.qlt
        obtain ⟨Af, nf, cf, hvf⟩ : ∃ A n c, vf = .slice A n c := by obtain ⟨A, c, h⟩ := hO5.shape; exact ⟨A, _, c, h⟩
        obtain ⟨Al, nl, cl, hvl⟩ : ∃ A n c, vl = .slice A n c := by obtain ⟨A, c, h⟩ := hO6.shape; exact ⟨A, _, c, h⟩
        subst hvf hvl
        cases hte : two.empty
        · refine wpPlan_wanted rfl rfl fun K hK => ?_
          go_simp
          refine hK _ _ (fun _ => h6) ?_
          clear hK K
          refine wpPlan_wanted rfl rfl fun K hK => ?_
          have y22 := yb2.2.2 _ h6
          go_simp
          refine hK _ _ (fun _ => h6) ?_
          clear hK K
          refine wpPlan_open rfl rfl fun K hK => ?_
          go_simp
          refine hK _ _ (fun _ => h6) ?_
          clear hK K
          refine wpPlan_open rfl rfl fun K hK => ?_
          go_simp
          refine hK _ _ (fun _ => h6) ?_
          clear hK K
          refine wpPlan_open rfl rfl fun K hK => ?_
          go_simp
          refine hK _ _ (fun _ => h6.alloc _) ?_
          clear hK K
          refine wpPlan_drop2 rfl (by kernel_rfl) (by kernel_rfl) ?_
          have hal2 := Ext.alloc (Ext.refl No w6) (.cells #[.slice Af nf cf, .slice Al nl cl, .bool top.empty] 76)
          have hrp : Enc.rep M w6 [.slice Af nf cf, .slice Al nl cl, .bool top.empty] (⟨two.first ++ top.first, two.last ++ top.last, two.empty || top.empty⟩ : Part) := by
            rw [hte]; exact part_rep hfS hlS
          go_wp2_with (at_builtin; go_loud (
            refine wpl_append (M := M) (.tmp 91) (.tmp 109) 74 76 rfl rfl (.agg #[.slice none 0 0, .slice none 0 0, .bool false]) 56 Tryz.underlying74 (by kernel_rfl) rfl (w1.heap.size + 1) (.slice (some ⟨g, 0, none⟩) (st.length - 2) c) _ (st.take (st.length - 2)) [⟨two.first ++ top.first, two.last ++ top.last, two.empty || top.empty⟩] rfl rfl (hst6.ext hal2) (Sl.lit1' hrp _ _ rfl fun b hb => (hA6.low b hb).2) ?_ part_one (by decide) (by simp; omega) ?_
            (· simp; omega)
            intro sv1 w7 hOut
            obtain ⟨M2, hB2, hx3⟩ := BuildAt.push (hA6.ext hal2) (hst6.ext hal2) hdk hB.mr hB.rq hOut))
          unfold Calm
          go_wp2
          refine ⟨⟨j + 1, by omega, by go_num, ?_, M2, lv, fv, ?_⟩, by simp [intOf]; omega⟩
          · exact hB.stay hE hr0 (h6r.any.trans (hal2.any.trans hx3)) (fun b _ h => .inr (.inr (.inr (hok b h))))
          · rw [HX.out, HS.out]; exact hB2
        · refine wpPlan_skip rfl rfl (fun _ => h6) ?_
          refine wpPlan_skip rfl rfl (fun _ => h6) ?_
          refine wpPlan_open rfl rfl fun K hK => ?_
          go_simp
          refine hK _ _ (fun _ => h6) ?_
          clear hK K
          refine wpPlan_open rfl rfl fun K hK => ?_
          go_simp
          refine hK _ _ (fun _ => h6) ?_
          clear hK K
          refine wpPlan_open rfl rfl fun K hK => ?_
          go_simp
          refine hK _ _ (fun _ => h6.alloc _) ?_
          clear hK K
          refine wpPlan_drop2 rfl (by kernel_rfl) (by kernel_rfl) ?_
          have hal2 := Ext.alloc (Ext.refl No w6) (.cells #[.slice Af nf cf, .slice Al nl cl, .bool true] 76)
          have hrp : Enc.rep M w6 [.slice Af nf cf, .slice Al nl cl, .bool true] (⟨two.first ++ top.first, two.last ++ top.last, two.empty || top.empty⟩ : Part) := by
            rw [hte]; exact part_rep hfS hlS
          go_wp2_with (at_builtin; go_loud (
            refine wpl_append (M := M) (.tmp 91) (.tmp 109) 74 76 rfl rfl (.agg #[.slice none 0 0, .slice none 0 0, .bool false]) 56 Tryz.underlying74 (by kernel_rfl) rfl (w1.heap.size + 1) (.slice (some ⟨g, 0, none⟩) (st.length - 2) c) _ (st.take (st.length - 2)) [⟨two.first ++ top.first, two.last ++ top.last, two.empty || top.empty⟩] rfl rfl (hst6.ext hal2) (Sl.lit1' hrp _ _ rfl fun b hb => (hA6.low b hb).2) ?_ part_one (by decide) (by simp; omega) ?_
            (· simp; omega)
            intro sv1 w7 hOut
            obtain ⟨M2, hB2, hx3⟩ := BuildAt.push (hA6.ext hal2) (hst6.ext hal2) hdk hB.mr hB.rq hOut))
          unfold Calm
          go_wp2
          refine ⟨⟨j + 1, by omega, by go_num, ?_, M2, lv, fv, ?_⟩, by simp [intOf]; omega⟩
          · exact hB.stay hE hr0 (h6r.any.trans (hal2.any.trans hx3)) (fun b _ h => .inr (.inr (.inr (hok b h))))
          · rw [HX.out, HS.out]; exact hB2
      · refine wpOp_open rfl rfl fun K hK => ?_
        go_simp
        refine hK _ _ ⟨fun _ => hEd.alloc _, ?_⟩
        clear hK K
        refine wpOp_open rfl rfl fun K hK => ?_
        go_simp
        refine hK _ _ ⟨fun _ => (hEd.alloc _).alloc _, ?_⟩
        clear hK K
        have hEy : Ext No wx _ := (hEd.alloc (.cells #[.slice none 0 0, .slice none 0 0, .bool false] 76)).alloc (.cells #[.slice none 0 0, .slice none 0 0, .bool false] 76)
        generalize (wd.alloc (.cells #[.slice none 0 0, .slice none 0 0, .bool false] 76)).alloc (.cells #[.slice none 0 0, .slice none 0 0, .bool false] 76) = wy at *
        have hsd := hEd.size
        refine wpPlan_one rfl (fun a' w' => a' = _ ∧ w'.heap[wd.heap.size + 1]? = some (.cells #[sf, sl, .bool two.empty] 76 (0, 0)) ∧ Ext (fun k => k = wd.heap.size + 1) wy w')
          (wpl_whole 76 (.tmp 9) (.tmp 83) rfl rfl rfl (wd.heap.size + 1) 76 _ #[sf, sl, .bool two.empty] rfl rfl ho2 (by kernel_rfl) rfl hpr1 (fun w1 h1 h2 => ⟨rfl, h1, h2⟩)) ?_
        rintro a' w3 ⟨rfl, hb1, hE3⟩
        have hE3x : Ext No wx w3 := hEy.then hE3 fun b hb e => by omega
        refine ⟨fun _ => hE3x, ?_⟩
        refine wpPlan_sealed1 rfl (by kernel_rfl) ?_
        refine wpl_whole 76 (.tmp 10) (.tmp 87) rfl rfl rfl (wd.heap.size) 76 _ #[tf, tl, .bool top.empty] rfl rfl ((hE3.block _ (by omega) (by omega)).trans ho1) (by kernel_rfl) rfl hpr2 ?_
        intro w4 hb2 hE4
        have hb1 : w4.heap[wd.heap.size + 1]? = some (.cells #[sf, sl, .bool two.empty] 76 (0, 0)) := (hE4.block _ (by have := hE3.size; omega) (by omega)).trans hb1
        have hE4x : Ext No wx w4 := hE3x.then hE4 fun b hb e => by omega
        have hw4 := hXE.trans hE4x
        have yb1 := facts3 hb1
        have yb2 := facts3 hb2
        clear hE3 hE4 hE3x hEy ho1 ho2 hos
        unfold wpList Calm
        go_wp2
        refine wp_region_plan [0, 1, 2, 3, 4, 5, 6, 7, 9, 10, 11, 12, 14, 15] (.one 8 (.one 13 (.one 16 (.one 17 (.one 18 (.one 19 (.one 20 (.one 21 (.one 22 (.one 23 .done)))))))))) (by kernel_rfl) (by kernel_rfl) (fun W => Ext No w4 W) (Ext.drew (Ext.refl _ _)) ?_
        have hEd4 : Ext No w4 { w4 with drawn := w4.drawn + 1 } := Ext.drew (Ext.refl _ _)
        generalize ({ w4 with drawn := w4.drawn + 1 } : World) = wq at hEd4 ⊢
        have hq := hw4.trans hEd4
        refine readI_value rfl rfl u5 (fun W hW => by go_simp) ?_
        refine readI_value rfl rfl (.int .i64 ((st.length : Int) - 1)) (fun W hW => by go_simp) ?_
        refine readI_value rfl rfl (.int .i64 ((st.length : Int) - 2)) (fun W hW => by go_simp; exact (wrap_small _ (by omega) (by omega)).trans (by omega)) ?_
        refine readI_value rfl rfl (.slice (some ⟨g, 0, none⟩) (st.length - 2) c) (fun W hW => by go_simp) ?_
        refine readI_value rfl rfl (.pointer (some ⟨wd.heap.size + 1, 0, none⟩)) (fun W hW => by go_simp) ?_
        refine readI_value rfl rfl sf (fun W hW => by have h1 := yb1.1 W hW; go_simp) ?_
        refine readI_value rfl rfl (.pointer (some ⟨wd.heap.size, 0, none⟩)) (fun W hW => by go_simp) ?_
        refine readI_value rfl rfl tf (fun W hW => by have h1 := yb2.1 W hW; go_simp) ?_
        refine readI_value rfl rfl (.pointer (some ⟨wd.heap.size + 1, 1, none⟩)) (fun W hW => by go_simp) ?_
        refine readI_value rfl rfl sl (fun W hW => by have h1 := yb1.2.1 W hW; go_simp) ?_
        refine readI_value rfl rfl (.pointer (some ⟨wd.heap.size, 1, none⟩)) (fun W hW => by go_simp) ?_
        refine readI_value rfl rfl tl (fun W hW => by have h1 := yb2.2.1 W hW; go_simp) ?_
        refine readI_value rfl rfl (.pointer (some ⟨wd.heap.size + 1, 2, none⟩)) (fun W hW => by go_simp) ?_
        refine readI_value rfl rfl (.bool two.empty) (fun W hW => by have h1 := yb1.2.2 W hW; go_simp) ?_
        refine readI_nil ?_
        refine wpPlan_open rfl rfl fun K hK => ?_
        go_simp
        refine (both_any M wq sf tf two.first top.first (hsfS.ext hq.any) (htf.ext hq.any) (by omega)).mono ?_
        rintro e w5 ⟨vf, rfl, -, hE5, hO5, hb5⟩
        refine hK _ _ (fun _ => hEd4.trans hE5) ?_
        clear hK K
        refine wpPlan_open rfl rfl fun K hK => ?_
        go_simp
        refine (both_any M w5 sl tl two.last top.last ((hslS.ext hq.any).ext hE5.any) ((htl.ext hq.any).ext hE5.any) (by omega)).mono ?_
        rintro e w6 ⟨vl, rfl, -, hE6, hO6, hb6⟩
        have h6 := (hEd4.trans hE5).trans hE6
        have h6r : Ext No wr w6 := hw4.trans h6
        refine hK _ _ (fun _ => h6) ?_
        clear hK K
        refine wpPlan_open rfl rfl fun K hK => ?_
        go_simp
        refine hK _ _ (fun _ => h6) ?_
        clear hK K
        have hMq : ∀ b, M b → b < wq.heap.size := fun b hm => Nat.lt_of_lt_of_le (hauto.low b hm).2 hq.size
        have hfS : Sl M w6 vf (two.first ++ top.first) := new_sl hO5 hE6.any hMq
        have hlS : Sl M w6 vl (two.last ++ top.last) := new_sl hO6 (Ext.refl _ _) fun b hm => Nat.lt_of_lt_of_le (hMq b hm) hE5.size
        have hst6 := htk _ (hstk.ext h6r)
        have hA6 := hauto.ext h6r
        have hq6 := hA6.qlt
        obtain ⟨Af, nf, cf, hvf⟩ : ∃ A n c, vf = .slice A n c := by obtain ⟨A, c, h⟩ := hO5.shape; exact ⟨A, _, c, h⟩
        obtain ⟨Al, nl, cl, hvl⟩ : ∃ A n c, vl = .slice A n c := by obtain ⟨A, c, h⟩ := hO6.shape; exact ⟨A, _, c, h⟩
        subst hvf hvl
        cases hte : two.empty
        · refine wpPlan_wanted rfl rfl fun K hK => ?_
          go_simp
          refine hK _ _ (fun _ => h6) ?_
          clear hK K
          refine wpPlan_wanted rfl rfl fun K hK => ?_
          have y22 := yb2.2.2 _ h6
          go_simp
          refine hK _ _ (fun _ => h6) ?_
          clear hK K
          refine wpPlan_open rfl rfl fun K hK => ?_
          go_simp
          refine hK _ _ (fun _ => h6) ?_
          clear hK K
          refine wpPlan_open rfl rfl fun K hK => ?_
          go_simp
          refine hK _ _ (fun _ => h6) ?_
          clear hK K
          refine wpPlan_open rfl rfl fun K hK => ?_
          go_simp
          refine hK _ _ (fun _ => h6.alloc _) ?_
          clear hK K
          refine wpPlan_drop2 rfl (by kernel_rfl) (by kernel_rfl) ?_
          have hal2 := Ext.alloc (Ext.refl No w6) (.cells #[.slice Af nf cf, .slice Al nl cl, .bool top.empty] 76)
          have hrp : Enc.rep M w6 [.slice Af nf cf, .slice Al nl cl, .bool top.empty] (⟨two.first ++ top.first, two.last ++ top.last, two.empty || top.empty⟩ : Part) := by
            rw [hte]; exact part_rep hfS hlS
          go_wp2_with (at_builtin; go_loud (
            refine wpl_append (M := M) (.tmp 91) (.tmp 109) 74 76 rfl rfl (.agg #[.slice none 0 0, .slice none 0 0, .bool false]) 56 Tryz.underlying74 (by kernel_rfl) rfl (w1.heap.size + 1) (.slice (some ⟨g, 0, none⟩) (st.length - 2) c) _ (st.take (st.length - 2)) [⟨two.first ++ top.first, two.last ++ top.last, two.empty || top.empty⟩] rfl rfl (hst6.ext hal2) (Sl.lit1' hrp _ _ rfl fun b hb => (hA6.low b hb).2) ?_ part_one (by decide) (by simp; omega) ?_
            (· simp; omega)
            intro sv1 w7 hOut
            obtain ⟨M2, hB2, hx3⟩ := BuildAt.push (hA6.ext hal2) (hst6.ext hal2) hdk hB.mr hB.rq hOut))
          unfold Calm
          go_wp2
          refine ⟨⟨j + 1, by omega, by go_num, ?_, M2, lv, fv, ?_⟩, by simp [intOf]; omega⟩
          · exact hB.stay hE hr0 (h6r.any.trans (hal2.any.trans hx3)) (fun b _ h => .inr (.inr (.inr (hok b h))))
          · rw [HX.out, HS.out]; exact hB2
        · refine wpPlan_skip rfl rfl (fun _ => h6) ?_
          refine wpPlan_skip rfl rfl (fun _ => h6) ?_
          refine wpPlan_open rfl rfl fun K hK => ?_
          go_simp
          refine hK _ _ (fun _ => h6) ?_
          clear hK K
          refine wpPlan_open rfl rfl fun K hK => ?_
          go_simp
          refine hK _ _ (fun _ => h6) ?_
          clear hK K
          refine wpPlan_open rfl rfl fun K hK => ?_
          go_simp
          refine hK _ _ (fun _ => h6.alloc _) ?_
          clear hK K
          refine wpPlan_drop2 rfl (by kernel_rfl) (by kernel_rfl) ?_
          have hal2 := Ext.alloc (Ext.refl No w6) (.cells #[.slice Af nf cf, .slice Al nl cl, .bool true] 76)
          have hrp : Enc.rep M w6 [.slice Af nf cf, .slice Al nl cl, .bool true] (⟨two.first ++ top.first, two.last ++ top.last, two.empty || top.empty⟩ : Part) := by
            rw [hte]; exact part_rep hfS hlS
          go_wp2_with (at_builtin; go_loud (
            refine wpl_append (M := M) (.tmp 91) (.tmp 109) 74 76 rfl rfl (.agg #[.slice none 0 0, .slice none 0 0, .bool false]) 56 Tryz.underlying74 (by kernel_rfl) rfl (w1.heap.size + 1) (.slice (some ⟨g, 0, none⟩) (st.length - 2) c) _ (st.take (st.length - 2)) [⟨two.first ++ top.first, two.last ++ top.last, two.empty || top.empty⟩] rfl rfl (hst6.ext hal2) (Sl.lit1' hrp _ _ rfl fun b hb => (hA6.low b hb).2) ?_ part_one (by decide) (by simp; omega) ?_
            (· simp; omega)
            intro sv1 w7 hOut
            obtain ⟨M2, hB2, hx3⟩ := BuildAt.push (hA6.ext hal2) (hst6.ext hal2) hdk hB.mr hB.rq hOut))
          unfold Calm
          go_wp2
          refine ⟨⟨j + 1, by omega, by go_num, ?_, M2, lv, fv, ?_⟩, by simp [intOf]; omega⟩
          · exact hB.stay hE hr0 (h6r.any.trans (hal2.any.trans hx3)) (fun b _ h => .inr (.inr (.inr (hok b h))))
          · rw [HX.out, HS.out]; exact hB2
    · have e : j = xs.length := by omega
      subst e
      have hts : xs.take xs.length = xs := List.take_length
      rw [hts] at hB
      obtain ⟨-, hI, hIj, hst1, -⟩ := right_end HR.out
      have HS := Lib.hid hS
      clear hS
      obtain ⟨s, hbs⟩ : ∃ s, built xs = s := ⟨_, rfl⟩
      have HB := Lib.hid hbs
      rw [hbs] at hB hI hIj hst1
      clear hbs
      obtain ⟨ls, fs, st⟩ := s
      simp only [] at hIj hst1
      have hstk : Own 76 (w1.heap.size + 1) M wr u5 st := hB.stack
      have hauto : AutoAt M wr w1.heap.size lv fv ls fs := hB.auto
      have hS' := hstk.sl (M' := No) (fun _ _ h => h) (fun _ _ h => h.elim)
      have i2 := hS'.idx_rule (P := Tryz.prog) 74 (by kernel_rfl) (by kernel_rfl)
      obtain ⟨tf, tl, htf, htl, ht⟩ := hstk.part 0 (by omega)
      have hit : ∀ W, (Instr.indexAt 74 u5 (.int .i64 0)).run Tryz.prog W = .ok (.pointer (some (eaddr u5 (Enc.n Part) 0))) W := fun W => i2 0 W (by omega) (by omega)
      obtain ⟨Af, cf, rfl⟩ := htf.form
      obtain ⟨Al, cl, rfl⟩ := htl.form
      obtain ⟨Aq, cq, rfl⟩ := hauto.labs.shape
      obtain ⟨Av, cv, rfl⟩ := hauto.rows.shape
      obtain ⟨top, htop⟩ : ∃ y, nth st 0 = y := ⟨_, rfl⟩
      have HT0 := Lib.hid htop
      rw [htop] at htf htl
      simp only [htop] at ht
      clear htop
      go_wp2
      refine wp_region_reads 12 (by kernel_rfl) (by kernel_rfl) (fun W => Ext No wr W) (Ext.drew (Ext.refl _ _)) ?_
      have hEd : Ext No wr { wr with drawn := wr.drawn + 1 } := Ext.drew (Ext.refl _ _)
      generalize ({ wr with drawn := wr.drawn + 1 } : World) = wd at hEd ⊢
      simp only [List.take]
      refine wpRead_value rfl u5 (fun W hW => by go_simp) ?_
      refine wpRead_value rfl (.pointer (some (eaddr u5 (Enc.n Part) 0))) (fun W hW => by go_simp) ?_
      refine wpRead_value rfl (.pointer (some (eaddr u5 (Enc.n Part) 0))) (fun W hW => by go_simp) ?_
      refine wpRead_value rfl (.slice Af top.first.length cf) (fun W hW => by have h1 := (ht No (fun _ _ => id) W hW).1; go_simp) ?_
      refine wpRead_value rfl u5 (fun W hW => by go_simp) ?_
      refine wpRead_value rfl (.pointer (some (eaddr u5 (Enc.n Part) 0))) (fun W hW => by go_simp) ?_
      refine wpRead_value rfl (.pointer (some ⟨(eaddr u5 (Enc.n Part) 0).block, (eaddr u5 (Enc.n Part) 0).off + 1, none⟩)) (fun W hW => by go_simp) ?_
      refine wpRead_value rfl (.slice Al top.last.length cl) (fun W hW => by have h1 := (ht No (fun _ _ => id) W hW).2.1; go_simp) ?_
      refine wpRead_value rfl u5 (fun W hW => by go_simp) ?_
      refine wpRead_value rfl (.pointer (some (eaddr u5 (Enc.n Part) 0))) (fun W hW => by go_simp) ?_
      refine wpRead_value rfl (.pointer (some ⟨(eaddr u5 (Enc.n Part) 0).block, (eaddr u5 (Enc.n Part) 0).off + 2, none⟩)) (fun W hW => by go_simp) ?_
      refine wpRead_value rfl (.bool top.empty) (fun W hW => by have h1 := (ht No (fun _ _ => id) W hW).2.2; go_simp) ?_
      refine wpRead_nil ?_
      refine wpTail_drop (by kernel_rfl) ?_
      simp only [List.drop]
      have z0 := hEd.cell id hauto.c0
      have z1 := hEd.cell id hauto.c1
      have z2 := hEd.cell id hauto.c2
      have z3 := hEd.cell id hauto.c3
      have z4 := hEd.cell id hauto.c4
      have zf : ∀ j, wd.frozen? ⟨w1.heap.size, j, none⟩ = false := fun j => by rw [World.frozen?_of_block (w := wr) (hEd.block _ hauto.qlt id)]; exact hauto.fz j
      have hq1 : w1.heap.size < wr.heap.size := hauto.qlt
      go_wp2
      unfold Calm
      have hE3 : Ext (fun b => b = w1.heap.size) wr (((wd.setCell ⟨w1.heap.size, 1, none⟩ (.slice Af top.first.length cf)).setCell ⟨w1.heap.size, 2, none⟩ (.slice Al top.last.length cl)).setCell ⟨w1.heap.size, 4, none⟩ (.bool top.empty)) :=
        (((hEd.any.trans ((Ext.refl (fun b => b = w1.heap.size) wd).setCell ⟨w1.heap.size, 1, none⟩ (.inl rfl) (.slice Af top.first.length cf)))).setCell ⟨w1.heap.size, 2, none⟩ (.inl rfl) (.slice Al top.last.length cl)).setCell ⟨w1.heap.size, 4, none⟩ (.inl rfl) (.bool top.empty)
      have q0 : (((wd.setCell ⟨w1.heap.size, 1, none⟩ (.slice Af top.first.length cf)).setCell ⟨w1.heap.size, 2, none⟩ (.slice Al top.last.length cl)).setCell ⟨w1.heap.size, 4, none⟩ (.bool top.empty)).cell? ⟨w1.heap.size, 0, none⟩ = some (.slice Aq ls.length cq) := by go_simp
      have q1 : (((wd.setCell ⟨w1.heap.size, 1, none⟩ (.slice Af top.first.length cf)).setCell ⟨w1.heap.size, 2, none⟩ (.slice Al top.last.length cl)).setCell ⟨w1.heap.size, 4, none⟩ (.bool top.empty)).cell? ⟨w1.heap.size, 1, none⟩ = some (.slice Af top.first.length cf) := by go_simp
      have q2 : (((wd.setCell ⟨w1.heap.size, 1, none⟩ (.slice Af top.first.length cf)).setCell ⟨w1.heap.size, 2, none⟩ (.slice Al top.last.length cl)).setCell ⟨w1.heap.size, 4, none⟩ (.bool top.empty)).cell? ⟨w1.heap.size, 2, none⟩ = some (.slice Al top.last.length cl) := by go_simp
      have q3 : (((wd.setCell ⟨w1.heap.size, 1, none⟩ (.slice Af top.first.length cf)).setCell ⟨w1.heap.size, 2, none⟩ (.slice Al top.last.length cl)).setCell ⟨w1.heap.size, 4, none⟩ (.bool top.empty)).cell? ⟨w1.heap.size, 3, none⟩ = some (.slice Av fs.length cv) := by go_simp
      have q4 : (((wd.setCell ⟨w1.heap.size, 1, none⟩ (.slice Af top.first.length cf)).setCell ⟨w1.heap.size, 2, none⟩ (.slice Al top.last.length cl)).setCell ⟨w1.heap.size, 4, none⟩ (.bool top.empty)).cell? ⟨w1.heap.size, 4, none⟩ = some (.bool top.empty) := by go_simp
      generalize ((wd.setCell ⟨w1.heap.size, 1, none⟩ (.slice Af top.first.length cf)).setCell ⟨w1.heap.size, 2, none⟩ (.slice Al top.last.length cl)).setCell ⟨w1.heap.size, 4, none⟩ (.bool top.empty) = w3 at *
      go_wp2_with (refine gate_ (.store 27 (.tmp 2) (.tmp 133)) rfl ?_; go_loud (
        refine wpl_whole 27 (.tmp 2) (.tmp 133) rfl rfl rfl w.heap.size 27 _ #[.slice Aq ls.length cq, .slice Af top.first.length cf, .slice Al top.last.length cl, .slice Av fs.length cv, .bool top.empty] rfl rfl ((hE3.block _ (by omega) (by omega)).trans ((hE.block _ (by omega) id).trans hg0)) (by kernel_rfl) rfl ?_ ?_
        (· intro d hd; simp at hd; rcases hd with rfl | rfl | rfl | rfl | rfl <;> rfl)
        intro wz hfz hEz
        obtain ⟨y0, y1, y2, y3, y4, -⟩ := facts5 hfz))
      refine bodyPost_ret (v := .tuple #[.agg #[.slice Aq ls.length cq, .slice Af top.first.length cf, .slice Al top.last.length cl, .slice Av fs.length cv, .bool top.empty], .int .i64 0]) (by simp [results, Tryz.results10, go_sem, y0, y1, y2, y3, y4]) rfl ?_
      have hE4 : Ext (fun b => b = w1.heap.size ∨ b = w.heap.size) wr wz := (hE3.mono fun b _ h => .inl h).trans (hEz.mono fun b _ h => .inr h)
      have hM4 : Ext M wr wz := hE4.mono fun b _ h => by
        rcases h with rfl | rfl
        · exact hauto.mq
        · exact hB.mr
      rw [HB.out]
      simp only []
      rw [HT0.out]
      refine ⟨(hE0.trans hE).then hE4 (fun b hb h => by rcases h with h | h <;> omega), _, _, _, _, rfl, ?_, (htf.ext hM4).free (M' := No) (fun _ _ h => h.elim), (htl.ext hM4).free (M' := No) (fun _ _ h => h.elim), ?_⟩
      · refine (hauto.labs.flat (w' := wz) (M' := fun b => (Value.slice Aq ls.length cq).ownBlock = some b) fun b e => ⟨e, (hauto.labs.above b e).1, hE4.block b (hauto.labs.above b e).2 ?_⟩).slFlat fun b _ h => h
        have := hauto.labs.above b e
        omega
      · refine (hauto.rows.to (w' := wz) (Keeps.of_ext hM4) fun b e => ⟨hauto.rows.mine b e, hE4.block b (hauto.rows.above b e).2 ?_⟩).sl (fun _ _ h => h) fun _ _ h => h.elim
        have := hauto.rows.above b e
        omega
end Go.Proofs.An
