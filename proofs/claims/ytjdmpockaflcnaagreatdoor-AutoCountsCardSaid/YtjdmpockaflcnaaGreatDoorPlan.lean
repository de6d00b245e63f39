/-
  A region that draws its order: reads in an order that is told; what comes behind them by a plan.
-/
import Derived.Test.YtjdmpockaflcnaaGreatDoorFloat
namespace Go.Proofs.An
open Go.RowKit
section
variable {P : Program} {ops : Array Oper} {md : Region.Mode} {C : World → Prop} {Q : Exit → Act → World → Prop} {S : Nat → Bool}
def pureI (md : Region.Mode) (ops : Array Oper) : List Nat → Array Bool → (Array Bool → Bool) → Bool
  | [], listed, next => next listed
  | k :: rest, listed, next => (Region.ready md ops listed).contains k && Region.free md ops listed k && pureI md ops rest (listed.setIfInBounds k true) next
def readI (P : Program) (ops : Array Oper) (C : World → Prop) (N : Act → Prop) : List Nat → Act → Prop
  | [], a => N a
  | i :: rest, a => ∃ o, ops[i]? = some o ∧ (if Region.wanted o (yielded ops a.tmps) then ∃ v, (∀ w, C w → (execOp a.eval o).run P w = .ok (.value v) w) ∧ readI P ops C N rest (a.put o.dst v) else readI P ops C N rest (a.put o.dst undef))
theorem readI_any (hs : Region.noSelect ops = true) {g : Nat} : ∀ (rs : List Nat) (listed : Array Bool) (a : Act) (w : World) (next : Array Bool → Bool), ClosedL md ops listed →
    (∀ i ∈ rs, S i = false ∧ ∀ j oj, ops[j]? = some oj → S j = true → Ahead md ops i j) → C w →
    pureI md ops rs listed next = true → readI P ops C (fun a' => ∀ listed', next listed' = true → wpAnyK P md ops C S (Calm Q) g listed' a' w) rs a → wpAnyK P md ops C S (Calm Q) (rs.length + g) listed a w
  | [], listed, a, w, next, hcl, _, _, hB, h => by
    simp only [List.length_nil, Nat.zero_add]
    exact h listed hB
  | k :: rs, listed, a, w, next, hcl, hS, hw, hB, h => by
    simp only [pureI, Bool.and_eq_true] at hB
    obtain ⟨⟨hr, hf⟩, hB'⟩ := hB
    have hrk := ready_contains hr
    obtain ⟨o, h0, h⟩ := h
    rw [show (k :: rs).length + g = (rs.length + g) + 1 by simp; omega]
    have fin : ∀ v, ReadIn P ops C o v a → readI P ops C (fun a' => ∀ listed', next listed' = true → wpAnyK P md ops C S (Calm Q) g listed' a' w) rs (a.put o.dst v) →
        wpAnyK P md ops C S (Calm Q) (rs.length + g + 1) listed a w := by
      intro v hy hK
      obtain ⟨hSk, hSa⟩ := hS k (by simp)
      exact wpAnyK_first h0 (Region.noSelect_spec hs) hSa hSk (rs.length + g) listed a w (Region.free_spec h0 hf) hcl hrk hy hw
        (readI_any hs rs _ _ w next (hcl.set hrk) (fun i hi => hS i (by simp [hi])) hw hB' hK)
    split at h
    · rename_i hwt
      obtain ⟨v, hv, hK⟩ := h
      exact fin v (.inl ⟨hwt, hv⟩) hK
    · rename_i hwt
      exact fin undef (.inr ⟨by simpa using hwt, rfl⟩) h
theorem readI_value {N : Act → Prop} {a : Act} {i : Nat} {o : Oper} {rest : List Nat} (h0 : ops[i]? = some o) (hg : o.guard = none) (v : Value) (hv : ∀ w, C w → (execOp a.eval o).run P w = .ok (.value v) w) (h : readI P ops C N rest (a.put o.dst v)) :
    readI P ops C N (i :: rest) a := by
  refine ⟨o, h0, ?_⟩
  rw [if_pos (by simp [Region.wanted, hg])]
  exact ⟨v, hv, h⟩
theorem readI_nil {N : Act → Prop} {a : Act} (h : N a) : readI P ops C N [] a := h

inductive Plan where
  | done
  | one (i : Nat) (r : Plan)
  | two (i j : Nat) (r : Plan)
def Plan.size : Plan → Nat
  | .done => 0
  | .one _ r => r.size + 1
  | .two _ _ r => r.size + 2
def planB (md : Region.Mode) (ops : Array Oper) : Plan → Array Bool → Bool
  | .done, listed => (Region.ready md ops listed).isEmpty
  | .one i r, listed => (Region.ready md ops listed == [i]) && planB md ops r (listed.setIfInBounds i true)
  | .two i j r, listed => (Region.ready md ops listed == [i, j]) && (Region.ready md ops (listed.setIfInBounds i true) == [j]) && (Region.ready md ops (listed.setIfInBounds j true) == [i]) && !(i == j) &&
      planB md ops r ((listed.setIfInBounds i true).setIfInBounds j true)
def wpPlan (P : Program) (ops : Array Oper) (C : World → Prop) (S : Nat → Bool) (Q : Exit → Act → World → Prop) : Plan → Act → World → Prop
  | .done, a, w => Q .normal a w
  | .one i r, a, w => wpOp P ops Q i (fun a' w' => (S i = false → C w') ∧ wpPlan P ops C S Q r a' w') a w
  | .two i j r, a, w => wpOp P ops Q i (fun a' w' => (S i = false → C w') ∧ wpOp P ops Q j (fun a' w' => (S j = false → C w') ∧ wpPlan P ops C S Q r a' w') a' w') a w ∧
      wpOp P ops Q j (fun a' w' => (S j = false → C w') ∧ wpOp P ops Q i (fun a' w' => (S i = false → C w') ∧ wpPlan P ops C S Q r a' w') a' w') a w
theorem plan_anyK : ∀ (pl : Plan) (listed : Array Bool) (a : Act) (w : World), planB md ops pl listed = true → wpPlan P ops C S Q pl a w → wpAnyK P md ops C S Q pl.size listed a w
  | .done, _, _, _, hB, h => ⟨by simpa [planB] using hB, h⟩
  | .one i r, listed, a, w, hB, h => by
    simp only [planB, Bool.and_eq_true, beq_iff_eq] at hB
    obtain ⟨hr, hB'⟩ := hB
    refine ⟨fun h => (by rw [hr] at h; cases h), fun k hk => ?_⟩
    rw [hr] at hk
    obtain rfl : k = i := by simpa using hk
    exact wpOp_mono (fun a' w' h' => ⟨h'.1, plan_anyK r _ a' w' hB' h'.2⟩) h
  | .two i j r, listed, a, w, hB, h => by
    simp only [planB, Bool.and_eq_true, beq_iff_eq, Bool.not_eq_true', beq_eq_false_iff_ne] at hB
    obtain ⟨⟨⟨⟨hr, hri⟩, hrj⟩, hne⟩, hB'⟩ := hB
    refine ⟨fun h => (by rw [hr] at h; cases h), fun k hk => ?_⟩
    rw [hr] at hk
    have hk' : k = i ∨ k = j := by simpa using hk
    rcases hk' with rfl | rfl
    · refine wpOp_mono (fun a' w' h' => ⟨h'.1, ⟨fun h => (by rw [hri] at h; cases h), fun k2 hk2 => ?_⟩⟩) h.1
      rw [hri] at hk2
      obtain rfl : k2 = j := by simpa using hk2
      exact wpOp_mono (fun a' w' h' => ⟨h'.1, plan_anyK r _ a' w' hB' h'.2⟩) h'.2
    · refine wpOp_mono (fun a' w' h' => ⟨h'.1, ⟨fun h => (by rw [hrj] at h; cases h), fun k2 hk2 => ?_⟩⟩) h.2
      rw [hrj] at hk2
      obtain rfl : k2 = i := by simpa using hk2
      rw [Array.setIfInBounds_comm _ _ (Ne.symm hne)]
      exact wpOp_mono (fun a' w' h' => ⟨h'.1, plan_anyK r _ a' w' hB' h'.2⟩) h'.2
def sealI (md : Region.Mode) (ops : Array Oper) (rs : List Nat) (j : Nat) : Bool := !rs.contains j && rs.all fun i => aheadB md ops i ops.size j
def planAll (md : Region.Mode) (ops : Array Oper) (rs : List Nat) (pl : Plan) : Bool :=
  (rs.length + pl.size == ops.size) && Region.noSelect ops && pureI md ops rs (Array.replicate ops.size false) fun listed => planB md ops pl listed
/-- **A region that draws**: reads, in the order told; the rest by the plan: it keeps what is read as long as a read may follow. -/
theorem wp_region_plan {id : Nat} {a : Act} {w : World} {l : List Oper} (rs : List Nat) (pl : Plan) (hm : P.follows .mixedOrders = true) (hB : planAll .any l.toArray rs pl = true) (C : World → Prop) (hC : C { w with drawn := w.drawn + 1 })
    (h : readI P l.toArray C (fun a' => wpPlan P l.toArray C (sealI .any l.toArray rs) (Calm Q) pl a' { w with drawn := w.drawn + 1 }) rs a) : (Code.region id l.toArray true).wp P Q a w := by
  simp only [planAll, Bool.and_eq_true, beq_iff_eq] at hB
  obtain ⟨⟨hns, hsel⟩, hpure⟩ := hB
  refine wp_region_any hm (wpAny_Q Calm.imp _ _ _ _ (wpAny_of_K _ _ _ _ (C := C) (S := sealI .any l.toArray rs) ?_))
  have hclosed : ClosedL .any l.toArray (Array.replicate l.toArray.size false) := by
    intro j oj _ hl
    rw [getD_replicate_false] at hl
    cases hl
  rw [← hns]
  have hmono : ∀ (rs : List Nat) {N N' : Act → Prop}, (∀ a, N a → N' a) → ∀ {a : Act}, readI P l.toArray C N rs a → readI P l.toArray C N' rs a := by
    intro rs
    induction rs with
    | nil => exact fun h _ hh => h _ hh
    | cons k rs ih =>
      rintro N N' hn a ⟨o, h0, hh⟩
      refine ⟨o, h0, ?_⟩
      split
      · rename_i hw
        rw [if_pos hw] at hh
        obtain ⟨v, h1, h2⟩ := hh
        exact ⟨v, h1, ih hn h2⟩
      · rename_i hw
        rw [if_neg hw] at hh
        exact ih hn hh
  rw [hns]
  have key := readI_any (P := P) (Q := Q) (C := C) (S := sealI .any l.toArray rs) (md := .any) (ops := l.toArray) (g := pl.size) hsel rs (Array.replicate l.toArray.size false) a { w with drawn := w.drawn + 1 }
    (fun listed => planB .any l.toArray pl listed) hclosed
    (fun i hi => by
      refine ⟨by simp [sealI, hi], fun j oj hj hs => ?_⟩
      simp only [sealI, Bool.and_eq_true, List.all_eq_true] at hs
      exact aheadB_spec _ _ (hs.2 i hi) oj hj)
    hC hpure (hmono rs (fun a' ht listed' hn => plan_anyK pl listed' a' _ hn ht) h)
  rwa [hns] at key
theorem wpOp_only {i : Nat} {a : Act} {w : World} {K R : Act → World → Prop} {Q' : Exit → Act → World → Prop} (h : wpOp P ops (Only R) i K a w) : wpOp P ops Q' i K a w := by
  unfold wpOp at *
  split
  · rename_i ho; simp only [ho] at h; exact h
  · rename_i o ho
    simp only [ho] at h
    split
    · rename_i hw
      simp only [hw, if_true] at h
      rcases h with h | ⟨_, _, _, hf⟩
      · exact .inl (Oper.wp_only h)
      · exact (hf : False).elim
    · rename_i hw; simp only [hw] at h; exact h
theorem wpOp_of_list {i : Nat} {a : Act} {w : World} {o : Oper} {R : Act → World → Prop} {Q' : Exit → Act → World → Prop} (h0 : ops[i]? = some o) (h : wpList P ops (Only R) [o] a w) : wpOp P ops Q' i R a w :=
  wpOp_only (R := R) (by unfold wpOp; simp only [h0]; exact h)
/-- One operation of the plan by the rules on lists. -/
theorem wpPlan_one {i : Nat} {r : Plan} {o : Oper} {a : Act} {w : World} (h0 : ops[i]? = some o) (R : Act → World → Prop) (h : wpList P ops (Only R) [o] a w)
    (hR : ∀ a' w', R a' w' → (S i = false → C w') ∧ wpPlan P ops C S Q r a' w') : wpPlan P ops C S Q (.one i r) a w :=
  wpOp_mono hR (wpOp_of_list h0 h)
theorem wpPlan_val {i : Nat} {r : Plan} {o : Oper} {a : Act} {w : World} (h0 : ops[i]? = some o) (T : Value → World → Prop) (h : wpList P ops (Only fun a' w' => ∃ v, a' = a.put o.dst v ∧ T v w') [o] a w)
    (hR : ∀ v w', T v w' → (S i = false → C w') ∧ wpPlan P ops C S Q r (a.put o.dst v) w') : wpPlan P ops C S Q (.one i r) a w :=
  wpPlan_one h0 _ h fun a' w' ⟨v, e, hT⟩ => by subst e; exact hR v w' hT
theorem wpPlan_open {i : Nat} {r : Plan} {o : Oper} {a : Act} {w : World} (h0 : ops[i]? = some o) (hg : o.guard = none)
    (h : ∀ K : Act → World → Prop, (∀ a' w', (S i = false → C w') → wpPlan P ops C S Q r a' w' → K a' w') → o.wp P a w K Q) : wpPlan P ops C S Q (.one i r) a w := by
  unfold wpPlan wpOp
  simp only [h0]
  rw [if_pos (by simp [Region.wanted, hg])]
  exact .inl (h _ fun a' w' h1 h2 => ⟨h1, h2⟩)
theorem wpPlan_wanted {i : Nat} {r : Plan} {o : Oper} {a : Act} {w : World} (h0 : ops[i]? = some o) (hw : Region.wanted o (yielded ops a.tmps) = true)
    (h : ∀ K : Act → World → Prop, (∀ a' w', (S i = false → C w') → wpPlan P ops C S Q r a' w' → K a' w') → o.wp P a w K Q) : wpPlan P ops C S Q (.one i r) a w := by
  unfold wpPlan wpOp
  simp only [h0]
  rw [if_pos hw]
  exact .inl (h _ fun a' w' h1 h2 => ⟨h1, h2⟩)
theorem wpPlan_skip {i : Nat} {r : Plan} {o : Oper} {a : Act} {w : World} (h0 : ops[i]? = some o) (hw : Region.wanted o (yielded ops a.tmps) = false) (hC : S i = false → C w)
    (h : wpPlan P ops C S Q r (a.put o.dst undef) w) : wpPlan P ops C S Q (.one i r) a w := by
  unfold wpPlan wpOp
  simp only [h0]
  rw [if_neg (by rw [hw]; decide)]
  exact ⟨hC, h⟩
theorem wpOp_open {i : Nat} {o : Oper} {a : Act} {w : World} {K0 : Act → World → Prop} (h0 : ops[i]? = some o) (hg : o.guard = none) (h : ∀ K : Act → World → Prop, (∀ a' w', K0 a' w' → K a' w') → o.wp P a w K Q) : wpOp P ops Q i K0 a w := by
  unfold wpOp
  simp only [h0]
  rw [if_pos (by simp [Region.wanted, hg])]
  exact .inl (h _ fun a' w' h1 => h1)
theorem wpPlan_sealed1 {i : Nat} {o : Oper} {a : Act} {w : World} (h0 : ops[i]? = some o) (hS : S i = true) (h : wpList P ops Q [o] a w) : wpPlan P ops C S Q (.one i .done) a w := by
  have hh : wpOp P ops Q i (wpList P ops Q []) a w := by unfold wpOp; simp only [h0]; exact h
  exact wpOp_mono (fun a' w' h' => ⟨(fun hs => by rw [hS] at hs; cases hs), h'⟩) hh
theorem wpPlan_sealed2 {i j : Nat} {o o' : Oper} {a : Act} {w : World} (h0 : ops[i]? = some o) (h1 : ops[j]? = some o') (hS : S i = true) (hS' : S j = true) (h : wpList P ops Q [o, o'] a w) : wpPlan P ops C S Q (.one i (.one j .done)) a w := by
  have hh : wpOp P ops Q i (wpList P ops Q [o']) a w := by unfold wpOp; simp only [h0]; exact h
  exact wpOp_mono (fun a' w' h' => ⟨(fun hs => by rw [hS] at hs; cases hs), wpPlan_sealed1 h1 hS' h'⟩) hh
theorem wpPlan_drop2 {l : List Oper} {i : Nat} {o o' : Oper} {a : Act} {w : World} (hd : l.drop i = [o, o']) (hS : S i = true) (hS' : S (i + 1) = true) (h : wpList P l.toArray Q [o, o'] a w) : wpPlan P l.toArray C S Q (.one i (.one (i + 1) .done)) a w := by
  refine wpPlan_sealed2 (o := o) (o' := o') ?_ ?_ hS hS' h
  · have := congrArg (fun x => x[0]?) hd
    simpa [List.getElem?_drop] using this
  · have := congrArg (fun x => x[1]?) hd
    simpa [List.getElem?_drop] using this
theorem wpTail_drop {l : List Oper} {n : Nat} {a : Act} {w : World} (hS : ((List.range (l.length - n)).all fun j => S (n + j)) = true) (h : wpList P l.toArray Q (l.drop n) a w) : wpTail P l.toArray C S Q n (l.drop n) a w :=
  wpTail_sealed (l.drop n) n (fun j => by rw [List.getElem?_drop]; simp) (fun j hj => by
    rw [List.all_eq_true] at hS
    exact hS j (List.mem_range.2 (by rwa [List.length_drop] at hj))) h
end
end Go.Proofs.An
