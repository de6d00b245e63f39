/-
  A region that draws its order: operations that only read, or call what only makes memory (quiet in a class of worlds), float ahead of the others; these come one behind the other.
-/
import Derived.Test.YtjdmpockaflcnaaGreatDoorBase
import Derived.StillTail
namespace Go.Proofs.An
open Go.RowKit
section
variable {P : Program} {ops : Array Oper} {md : Region.Mode} {C : World → Prop} {Q : Exit → Act → World → Prop} {S : Nat → Bool}

/-- No way out by a panic. -/
def Calm (Q : Exit → Act → World → Prop) : Exit → Act → World → Prop
  | .panic _, _, _ => False
  | e, a, w => Q e a w
theorem Calm.imp : ∀ (e : Exit) (a : Act) (w : World), Calm Q e a w → Q e a w := fun e a w h => by
  cases e <;> first | exact h | exact (h : False).elim

theorem Oper.wp_Q {o : Oper} {a : Act} {w : World} {K : Act → World → Prop} {Q' : Exit → Act → World → Prop} (hq : ∀ e a w, Q e a w → Q' e a w) (h : o.wp P a w K Q) : o.wp P a w K Q' := by
  unfold Oper.wp at *
  generalize (execOp a.eval o).run P w = r at *
  cases r with
  | ok n w' =>
    cases n <;> simp only [Oper.upon] at h ⊢ <;> first
      | exact h
      | exact Calls.mono h (fun e w'' he => by cases e <;> first | exact he | exact hq _ _ _ he | exact (let ⟨a, w, x⟩ := he; ⟨a, w, hq _ _ _ x⟩))
  | halt x w' => cases x <;> simp only [Oper.upon] at h ⊢ <;> first | exact h | exact hq _ _ _ h
theorem wpOp_Q {i : Nat} {a : Act} {w : World} {K : Act → World → Prop} {Q' : Exit → Act → World → Prop} (hq : ∀ e a w, Q e a w → Q' e a w) (h : wpOp P ops Q i K a w) : wpOp P ops Q' i K a w := by
  unfold wpOp at *
  split
  · rename_i ho; simp only [ho] at h; exact h
  · rename_i o ho
    simp only [ho] at h
    split
    · rename_i hw; simp only [hw, if_true] at h
      exact h.imp (Oper.wp_Q hq) fun ⟨h1, a, w, h2⟩ => ⟨h1, a, w, hq _ _ _ h2⟩
    · rename_i hw; simp only [hw] at h; exact h
theorem wpAny_Q {Q' : Exit → Act → World → Prop} (hq : ∀ e a w, Q e a w → Q' e a w) : ∀ (fuel : Nat) (listed : Array Bool) (a : Act) (w : World), wpAny P md ops Q fuel listed a w → wpAny P md ops Q' fuel listed a w
  | 0, _, _, _, h => ⟨h.1, hq _ _ _ h.2⟩
  | fuel + 1, _, _, _, h => ⟨fun h0 => hq _ _ _ (h.1 h0), fun i hi => wpOp_mono (fun a' w' h' => wpAny_Q hq fuel _ a' w' h') (wpOp_Q hq (h.2 i hi))⟩

/-- Whether another operation's value is already there makes no difference. -/
theorem wpOp_put {j : Nat} {oi oj : Oper} {v : Value} (hj : ops[j]? = some oj) (hap : oi.apart ops oj = true)
    (hsj : ∀ cs b, oj.op ≠ .select cs b) {K : Act → World → Prop} {a : Act} {w : World}
    (h : wpOp P ops (Calm Q) j K (a.put oi.dst v) w) : wpOp P ops (Calm Q) j (fun a' w' => (∃ u ds, a' = ({ a with defers := ds } : Act).put oj.dst u) ∧ K (a'.put oi.dst v) w') a w := by
  obtain ⟨h1, h2, h3⟩ := Oper.apart_spec hap
  have comm : ∀ (b : Act) (u : Value), (b.put oi.dst v).put oj.dst u = (b.put oj.dst u).put oi.dst v := fun b u => Act.put_comm b v u h2
  have dfr : ∀ (ds : List Deferred), ({ (a.put oi.dst v) with defers := ds } : Act) = ({ a with defers := ds } : Act).put oi.dst v := by
    intro ds; cases hd : oi.dst <;> rfl
  have dd : (a.put oi.dst v).defers = a.defers := by cases hd : oi.dst <;> rfl
  unfold wpOp at *
  simp only [hj] at *
  rw [wanted_put oj a oi.dst v h1] at h
  split
  · rename_i hw
    simp only [hw, if_true] at h
    rcases h with h | ⟨hask, hout⟩
    · refine .inl ?_
      unfold Oper.wp at *
      rw [execOp_put oj hsj a oi.dst v h1] at h
      generalize (execOp a.eval oj).run P w = r at *
      cases r with
      | ok n w' =>
        cases n <;> simp only [Oper.upon] at h ⊢
        case value u => exact ⟨⟨u, a.defers, rfl⟩, by rw [← comm]; exact h⟩
        case skip => exact ⟨⟨_, a.defers, rfl⟩, by rw [← comm]; exact h⟩
        case defer d =>
          refine ⟨⟨undef, d :: a.defers, rfl⟩, ?_⟩
          rw [dd, dfr, comm] at h
          exact h
        case enter f args =>
          refine Calls.mono h fun e w'' he => ?_
          cases e with
          | returned u => exact ⟨⟨u, a.defers, rfl⟩, by rw [← comm]; exact he⟩
          | panicked c => exact he
          | outgrown => exact he
        case row r args => exact Rows.mono h fun u w'' he => ⟨⟨u, a.defers, rfl⟩, by rw [← comm]; exact he⟩
      | halt x w' => cases x <;> simp only [Oper.upon] at h ⊢ <;> exact h
    · refine .inr ⟨?_, hout⟩
      unfold Oper.asks at *
      rw [execOp_put oj hsj a oi.dst v h1] at hask
      exact hask
  · rename_i hw
    simp only [hw] at h
    exact ⟨⟨undef, a.defers, rfl⟩, by rw [← comm]; exact h⟩

def ClosedL (md : Region.Mode) (ops : Array Oper) (listed : Array Bool) : Prop :=
  ∀ j oj, ops[j]? = some oj → listed.getD j false = true → ∀ e ∈ oj.after, Region.binds md e = true → listed.getD e.on false = true
inductive Ahead (md : Region.Mode) (ops : Array Oper) : Nat → Nat → Prop
  | edge {i j : Nat} {oj : Oper} {e : Edge} : ops[j]? = some oj → e ∈ oj.after → Region.binds md e = true → e.on = i → Ahead md ops i j
  | step {i j : Nat} {oj : Oper} {e : Edge} : ops[j]? = some oj → e ∈ oj.after → Region.binds md e = true → Ahead md ops i e.on → Ahead md ops i j
theorem Ahead.listed {i j : Nat} {listed : Array Bool} (h : Ahead md ops i j) (hc : ClosedL md ops listed) (hj : ∀ oj, ops[j]? = some oj → ∀ e ∈ oj.after, Region.binds md e = true → listed.getD e.on false = true) : listed.getD i false = true := by
  induction h with
  | edge h1 h2 h3 h4 => rw [← h4]; exact hj _ h1 _ h2 h3
  | step h1 h2 h3 _ ih => exact ih fun ok hk e he hb => hc _ ok hk (hj _ h1 _ h2 h3) e he hb
theorem getD_set_self {listed : Array Bool} {i : Nat} (h : listed.getD i true = false) : (listed.setIfInBounds i true).getD i false = true := by
  have hlt : i < listed.size := by
    rcases Nat.lt_or_ge i listed.size with h' | h'
    · exact h'
    · simp [Array.getElem?_eq_none h'] at h
  simp [hlt]
theorem ClosedL.set {i : Nat} {listed : Array Bool} (h : ClosedL md ops listed) (hi : i ∈ Region.ready md ops listed) : ClosedL md ops (listed.setIfInBounds i true) := by
  intro j oj hj hl e he hb
  obtain ⟨h0, oi, hoi, hall⟩ := mem_ready.1 hi
  by_cases hij : i = j
  · subst hij
    rw [hoi] at hj
    injection hj with hj
    subst hj
    exact getD_set_true (hall e he hb)
  · rw [getD_set_ne false hij] at hl
    exact getD_set_true (h j oj hj hl e he hb)

theorem not_listed {i : Nat} {listed : Array Bool} (h : listed.getD i true = false) : listed.getD i false ≠ true := fun h1 => by
  rcases Nat.lt_or_ge i listed.size with h' | h'
  · simp [h'] at h h1; rw [h] at h1; cases h1
  · simp [Array.getElem?_eq_none h'] at h
theorem free_set {i j : Nat} {oi : Oper} {listed : Array Bool} (hjun : listed.getD j true = false)
    (hfree : ∀ k ok, ops[k]? = some ok → k ≠ i → listed.getD k true = false → (∀ e ∈ ok.after, Region.binds md e = true → e.on ≠ i) → oi.apart ops ok = true) :
    ∀ k ok, ops[k]? = some ok → k ≠ i → (listed.setIfInBounds j true).getD k true = false → (∀ e ∈ ok.after, Region.binds md e = true → e.on ≠ i) → oi.apart ops ok = true := fun k ok hk hki hun hno => by
  refine hfree k ok hk hki ?_ hno
  by_cases hjk : j = k
  · subst hjk; exact hjun
  · rw [getD_set_ne true hjk] at hun; exact hun

/-- An operation's value, whatever the world. -/
def PureIn (P : Program) (ops : Array Oper) (o : Oper) (v : Value) (a : Act) : Prop :=
  (Region.wanted o (yielded ops a.tmps) = true ∧ ∀ w, (execOp a.eval o).run P w = .ok (.value v) w) ∨ (Region.wanted o (yielded ops a.tmps) = false ∧ v = undef)
theorem PureIn.of_same {o : Oper} {v : Value} {a a' : Act} (hy : PureIn P ops o v a) (he : execOp a'.eval o = execOp a.eval o)
    (hw : Region.wanted o (yielded ops a'.tmps) = Region.wanted o (yielded ops a.tmps)) : PureIn P ops o v a' := by
  unfold PureIn at *
  rw [he, hw]
  exact hy
theorem PureIn.fire {i : Nat} {o : Oper} {v : Value} {a : Act} {w : World} {K : Act → World → Prop} (hi : ops[i]? = some o) (hy : PureIn P ops o v a) (hK : K (a.put o.dst v) w) : wpOp P ops Q i K a w := by
  unfold wpOp
  simp only [hi]
  rcases hy with ⟨hwt, hv⟩ | ⟨hwt, rfl⟩
  · simp only [hwt, if_true]
    refine .inl ?_
    unfold Oper.wp
    rw [hv w]
    exact hK
  · simp only [hwt, Bool.false_eq_true, if_false]; exact hK
theorem wpAny_first {i : Nat} {oi : Oper} {v : Value} (hi : ops[i]? = some oi) (hsel : ∀ (j : Nat) (o : Oper) cs b, ops[j]? = some o → o.op ≠ .select cs b) :
    ∀ (fuel : Nat) (listed : Array Bool) (a : Act) (w : World),
      (∀ j oj, ops[j]? = some oj → j ≠ i → listed.getD j true = false → (∀ e ∈ oj.after, Region.binds md e = true → e.on ≠ i) → oi.apart ops oj = true) →
      i ∈ Region.ready md ops listed → PureIn P ops oi v a →
      wpAny P md ops (Calm Q) fuel (listed.setIfInBounds i true) (a.put oi.dst v) w → wpAny P md ops (Calm Q) (fuel + 1) listed a w := by
  intro fuel
  induction fuel with
  | zero =>
    intro listed a w _ hr hy H
    refine ⟨fun h => (by rw [h] at hr; cases hr), fun j hj => ?_⟩
    by_cases hji : j = i
    · subst hji; exact hy.fire hi H
    · have := ready_mono hj hji
      rw [H.1] at this
      cases this
  | succ fuel ih =>
    intro listed a w hfree hr hy H
    refine ⟨fun h => (by rw [h] at hr; cases hr), fun j hj => ?_⟩
    by_cases hji : j = i
    · subst hji; exact hy.fire hi H
    · obtain ⟨hjun, oj, hoj, hall⟩ := mem_ready.1 hj
      have hnot : ∀ e ∈ oj.after, Region.binds md e = true → e.on ≠ i := fun e he hb heq => not_listed (mem_ready.1 hr).1 (heq ▸ hall e he hb)
      have hap := hfree j oj hoj hji hjun hnot
      have h2 := wpOp_put hoj hap (fun cs b => hsel j oj cs b hoj) (H.2 j (ready_mono hj hji))
      obtain ⟨h1, _, h3⟩ := Oper.apart_spec hap
      refine wpOp_mono (fun a' w' ⟨⟨u, ds, ha'⟩, hK⟩ => ?_) h2
      have hy' : PureIn P ops oi v a' := by
        have e1 : PureIn P ops oi v ({ a with defers := ds } : Act) := hy.of_same (by rfl) rfl
        rw [ha']
        exact e1.of_same (execOp_put oi (fun cs b => hsel i oi cs b hi) _ oj.dst u h3) (wanted_put oi _ oj.dst u h3)
      refine ih (listed.setIfInBounds j true) a' w' (free_set hjun hfree) (ready_mono hr (Ne.symm hji)) hy' ?_
      rw [Array.setIfInBounds_comm _ _ hji]
      exact hK

/-- While heads are left: whatever comes up is quiet. -/
def wpAnyH (P : Program) (md : Region.Mode) (ops : Array Oper) (C : World → Prop) (F : Nat → Bool) (L : Array Bool → Act → Prop) : Nat → Array Bool → Act → Prop
  | 0, listed, a => (∀ j, F j = true → listed.getD j true = true) ∧ L listed a
  | fuel + 1, listed, a => (Region.ready md ops listed ≠ []) ∧ ∀ i ∈ Region.ready md ops listed, qOp P ops C i (wpAnyH P md ops C F L fuel (listed.setIfInBounds i true)) a
theorem wpAny_of_H {F : Nat → Bool} {L : Array Bool → Act → Prop} {g : Nat} (hL : ∀ listed a w, C w → L listed a → wpAny P md ops Q g listed a w) : ∀ (fuel : Nat) (listed : Array Bool) (a : Act) (w : World), C w →
    wpAnyH P md ops C F L fuel listed a → wpAny P md ops Q (fuel + g) listed a w
  | 0, _, _, _, hw, h => by rw [Nat.zero_add]; exact hL _ _ _ hw h.2
  | fuel + 1, _, _, _, hw, h => by
    rw [show fuel + 1 + g = (fuel + g) + 1 by omega]
    exact ⟨fun h0 => absurd h0 h.1, fun i hi => wpOp_of_qOp hw (fun a' w' hw' h' => wpAny_of_H hL fuel _ a' w' hw' h') (h.2 i hi)⟩
theorem wpAnyH_first {F : Nat → Bool} {L : Array Bool → Act → Prop} {i : Nat} {oi : Oper} {v : Value} (hi : ops[i]? = some oi) (hsel : ∀ (j : Nat) (o : Oper) cs b, ops[j]? = some o → o.op ≠ .select cs b)
    (hS : ∀ j oj, ops[j]? = some oj → F j = false → Ahead md ops i j) :
    ∀ (fuel : Nat) (listed : Array Bool) (a : Act),
      (∀ j oj, ops[j]? = some oj → j ≠ i → listed.getD j true = false → (∀ e ∈ oj.after, Region.binds md e = true → e.on ≠ i) → oi.apart ops oj = true) →
      ClosedL md ops listed → i ∈ Region.ready md ops listed → YieldsIn P ops C oi v a →
      wpAnyH P md ops C F L fuel (listed.setIfInBounds i true) (a.put oi.dst v) → wpAnyH P md ops C F L (fuel + 1) listed a := by
  intro fuel
  induction fuel with
  | zero =>
    intro listed a _ hcl hr hy H
    refine ⟨fun h => (by rw [h] at hr; cases hr), fun j hj => ?_⟩
    by_cases hji : j = i
    · subst hji; exact hy.qOp hi H
    · exfalso
      obtain ⟨hjun, oj, hoj, hall⟩ := mem_ready.1 hj
      cases hF : F j with
      | true =>
        have := H.1 j hF
        rw [getD_set_ne true (Ne.symm hji)] at this
        rw [this] at hjun
        cases hjun
      | false =>
        exact not_listed (mem_ready.1 hr).1 ((hS j oj hoj hF).listed hcl fun ok hk e he hb => by rw [hoj] at hk; injection hk with hk; subst hk; exact hall e he hb)
  | succ fuel ih =>
    intro listed a hfree hcl hr hy H
    refine ⟨fun h => (by rw [h] at hr; cases hr), fun j hj => ?_⟩
    by_cases hji : j = i
    · subst hji; exact hy.qOp hi H
    · have h1 := H.2 j (ready_mono hj hji)
      obtain ⟨hjun, oj, hoj, hall⟩ := mem_ready.1 hj
      have hnot : ∀ e ∈ oj.after, Region.binds md e = true → e.on ≠ i := fun e he hb heq => not_listed (mem_ready.1 hr).1 (heq ▸ hall e he hb)
      have h2 := qOp_put hoj (hfree j oj hoj hji hjun hnot) (fun cs b => hsel i oi cs b hi) (fun cs b => hsel j oj cs b hoj) hy h1
      refine qOp_mono (fun a' h3 => ih (listed.setIfInBounds j true) a' (free_set hjun hfree) (hcl.set hj) (ready_mono hr (Ne.symm hji)) h3.1 ?_) h2
      rw [Array.setIfInBounds_comm _ _ hji]
      exact h3.2

/-! ### What the kernel is asked -/
def aheadB (md : Region.Mode) (ops : Array Oper) (i : Nat) : Nat → Nat → Bool
  | 0, _ => false
  | n + 1, j => match ops[j]? with
    | none => false
    | some oj => oj.after.any fun e => Region.binds md e && (e.on == i || aheadB md ops i n e.on)
theorem aheadB_spec {i : Nat} : ∀ (n j : Nat), aheadB md ops i n j = true → ∀ oj, ops[j]? = some oj → Ahead md ops i j := by
  intro n
  induction n with
  | zero => intro j h; simp [aheadB] at h
  | succ n ih =>
    intro j h oj hj
    simp only [aheadB, hj] at h
    obtain ⟨k, hk, h⟩ := Array.any_eq_true.1 h
    simp only [Bool.and_eq_true, Bool.or_eq_true, beq_iff_eq] at h
    obtain ⟨hb, h⟩ := h
    have hmem : oj.after[k] ∈ oj.after := Array.getElem_mem hk
    rcases h with h | h
    · exact .edge hj hmem hb h
    · cases ho : ops[oj.after[k].on]? with
      | none =>
        exfalso
        cases n with
        | zero => simp [aheadB] at h
        | succ n => simp [aheadB, ho] at h
      | some ok => exact .step hj hmem hb (ih _ h ok ho)

def pureB (md : Region.Mode) (ops : Array Oper) : Nat → Nat → Array Bool → (Nat → Array Bool → Bool) → Bool
  | 0, k, listed, next => next k listed
  | n + 1, k, listed, next => (Region.ready md ops listed).contains k && Region.free md ops listed k && pureB md ops n (k + 1) (listed.setIfInBounds k true) next
def tailB (md : Region.Mode) (ops : Array Oper) : Nat → Nat → Array Bool → Bool
  | 0, _, listed => (Region.ready md ops listed).isEmpty
  | n + 1, k, listed => (Region.ready md ops listed == [k]) && tailB md ops n (k + 1) (listed.setIfInBounds k true)
def sealB (md : Region.Mode) (ops : Array Oper) (p n : Nat) : Bool := (List.range n).all fun i => i < p || (List.range ops.size).all fun j => j < n || aheadB md ops i ops.size j
def floatB (md : Region.Mode) (ops : Array Oper) (p n : Nat) : Bool :=
  decide (p ≤ n) && decide (n ≤ ops.size) && Region.noSelect ops && sealB md ops p n &&
    pureB md ops p 0 (Array.replicate ops.size false) fun k listed => pureB md ops (n - p) k listed fun k listed => tailB md ops (ops.size - n) k listed

def wpPure (P : Program) (ops : Array Oper) (N : Act → Prop) : List Oper → Act → Prop
  | [], a => N a
  | o :: rest, a => if Region.wanted o (yielded ops a.tmps) then ∃ v, (∀ w, (execOp a.eval o).run P w = .ok (.value v) w) ∧ wpPure P ops N rest (a.put o.dst v) else wpPure P ops N rest (a.put o.dst undef)
theorem wpPure_mono {N N' : Act → Prop} (h : ∀ a, N a → N' a) : ∀ (l : List Oper) {a : Act}, wpPure P ops N l a → wpPure P ops N' l a
  | [], _, hh => h _ hh
  | o :: l, a, hh => by
    unfold wpPure at *
    split
    · rename_i hw
      rw [if_pos hw] at hh
      obtain ⟨v, h1, h2⟩ := hh
      exact ⟨v, h1, wpPure_mono h l h2⟩
    · rename_i hw
      rw [if_neg hw] at hh
      exact wpPure_mono h l hh
theorem wpPure_step {N : Act → Prop} {a : Act} {o : Oper} {rest : List Oper} (hg : o.guard = none) (v : Value) (hv : ∀ w, (execOp a.eval o).run P w = .ok (.value v) w) (h : wpPure P ops N rest (a.put o.dst v)) : wpPure P ops N (o :: rest) a := by
  unfold wpPure
  rw [if_pos (by simp [Region.wanted, hg])]
  exact ⟨v, hv, h⟩
theorem wpPure_nil {N : Act → Prop} {a : Act} (h : N a) : wpPure P ops N [] a := h
theorem wpQuiet_value {N : Act → Prop} {a : Act} {o : Oper} {rest : List Oper} (hg : o.guard = none) (v : Value) (hv : ∀ w, C w → (execOp a.eval o).run P w = .ok (.value v) w) (h : wpQuiet P ops C N rest (a.put o.dst v)) : wpQuiet P ops C N (o :: rest) a := by
  unfold wpQuiet
  rw [if_pos (by simp [Region.wanted, hg])]
  exact ⟨v, fun w hw => by unfold Oper.quietAt; rw [hv w hw]; exact ⟨rfl, rfl⟩, h⟩
theorem wpQuiet_call {N : Act → Prop} {a : Act} {o : Oper} {rest : List Oper} (hg : o.guard = none) (v : Value) (f : FuncId) (args : Array Value) (hv : ∀ w, (execOp a.eval o).run P w = .ok (.enter f args) w)
    (hc : ∀ w, C w → Calls P f args w fun e w' => e = .returned v ∧ C w') (h : wpQuiet P ops C N rest (a.put o.dst v)) : wpQuiet P ops C N (o :: rest) a := by
  unfold wpQuiet
  rw [if_pos (by simp [Region.wanted, hg])]
  exact ⟨v, fun w hw => by unfold Oper.quietAt; rw [hv w]; exact ⟨rfl, hc w hw⟩, h⟩

theorem ready_contains {k : Nat} {listed : Array Bool} (h : (Region.ready md ops listed).contains k = true) : k ∈ Region.ready md ops listed := by simpa using h

theorem tail_any : ∀ (l : List Oper) (k : Nat) (listed : Array Bool) (a : Act) (w : World), (∀ j, l[j]? = ops[k + j]?) → tailB md ops l.length k listed = true → wpList P ops Q l a w → wpAny P md ops Q l.length listed a w
  | [], _, _, _, _, _, hB, h => ⟨by simpa [tailB] using hB, h⟩
  | o :: l, k, listed, a, w, hl, hB, h => by
    have h0 : ops[k]? = some o := by simpa using (hl 0).symm
    simp only [List.length_cons, tailB, Bool.and_eq_true, beq_iff_eq] at hB
    obtain ⟨hr, hB'⟩ := hB
    refine ⟨fun h => (by rw [hr] at h; cases h), fun i hi => ?_⟩
    rw [hr] at hi
    obtain rfl : i = k := by simpa using hi
    have hh : wpOp P ops Q i (wpList P ops Q l) a w := by unfold wpOp; simp only [h0]; exact h
    exact wpOp_mono (fun a' w' h' => tail_any l (i + 1) _ a' w' (fun j => by have := hl (j + 1); simpa [Nat.add_assoc, Nat.add_comm 1 j] using this) hB' h') hh

theorem head_any {F : Nat → Bool} {L : Array Bool → Act → Prop} (hs : Region.noSelect ops = true) : ∀ (l : List Oper) (k : Nat) (listed : Array Bool) (a : Act) (next : Nat → Array Bool → Bool), (∀ j, j < l.length → l[j]? = ops[k + j]?) →
    (∀ i, k ≤ i → i < k + l.length → ∀ j oj, ops[j]? = some oj → F j = false → Ahead md ops i j) → ClosedL md ops listed → (∀ j, F j = true → listed.getD j true = true ∨ k ≤ j ∧ j < k + l.length) →
    pureB md ops l.length k listed next = true → wpQuiet P ops C (fun a' => ∀ listed', next (k + l.length) listed' = true → L listed' a') l a → wpAnyH P md ops C F L l.length listed a
  | [], k, listed, a, next, _, _, _, hF, hB, h => by
    refine ⟨fun j hj => ?_, h listed hB⟩
    rcases hF j hj with h | h
    · exact h
    · simp at h; omega
  | o :: l, k, listed, a, next, hl, hS, hcl, hF, hB, h => by
    have h0 : ops[k]? = some o := by simpa using (hl 0 (by simp)).symm
    simp only [List.length_cons, pureB, Bool.and_eq_true] at hB
    obtain ⟨⟨hr, hf⟩, hB'⟩ := hB
    have hst : qOp P ops C k (wpQuiet P ops C (fun a' => ∀ listed', next (k + (o :: l).length) listed' = true → L listed' a') l) a := by unfold qOp; simp only [h0]; exact h
    obtain ⟨v, hy, hK⟩ := yieldsIn_of_qOp h0 hst
    have hrk := ready_contains hr
    refine wpAnyH_first h0 (Region.noSelect_spec hs) (hS k (Nat.le_refl _) (by simp)) l.length listed a (Region.free_spec h0 hf) hcl hrk hy
      (head_any hs l (k + 1) _ _ next (fun j hj => by have := hl (j + 1) (by simpa using hj); simpa [Nat.add_assoc, Nat.add_comm 1 j] using this) (fun i h1 h2 => hS i (by omega) (by simp; omega)) (hcl.set hrk) (fun j hj => ?_) hB' ?_)
    · by_cases hjk : k = j
      · subst hjk
        refine .inl ?_
        have := (mem_ready.1 hrk).1
        have hlt : k < listed.size := by
          rcases Nat.lt_or_ge k listed.size with h' | h'
          · exact h'
          · simp [Array.getElem?_eq_none h'] at this
        simp [hlt]
      · rcases hF j hj with h | h
        · exact .inl (by rw [getD_set_ne true hjk]; exact h)
        · exact .inr (by simp at h; omega)
    · rw [show k + 1 + l.length = k + (o :: l).length by simp; omega]
      exact hK

theorem pure_any (hs : Region.noSelect ops = true) {g : Nat} : ∀ (l : List Oper) (k : Nat) (listed : Array Bool) (a : Act) (w : World) (next : Nat → Array Bool → Bool), (∀ j, j < l.length → l[j]? = ops[k + j]?) → ClosedL md ops listed →
    pureB md ops l.length k listed next = true → wpPure P ops (fun a' => ∀ listed', ClosedL md ops listed' → (∀ j, listed.getD j true = true ∨ k ≤ j ∧ j < k + l.length → listed'.getD j true = true) → next (k + l.length) listed' = true → wpAny P md ops (Calm Q) g listed' a' w) l a → wpAny P md ops (Calm Q) (l.length + g) listed a w
  | [], k, listed, a, w, next, _, hcl, hB, h => by
    simp only [List.length_nil, Nat.zero_add]
    refine h listed hcl (fun j hj => ?_) hB
    rcases hj with h | h
    · exact h
    · simp at h; omega
  | o :: l, k, listed, a, w, next, hl, hcl, hB, h => by
    have h0 : ops[k]? = some o := by simpa using (hl 0 (by simp)).symm
    simp only [List.length_cons, pureB, Bool.and_eq_true] at hB
    obtain ⟨⟨hr, hf⟩, hB'⟩ := hB
    have hrk := ready_contains hr
    have hk1 : ∀ j, (listed.setIfInBounds k true).getD j true = true ↔ listed.getD j true = true ∨ j = k := by
      intro j
      have := (mem_ready.1 hrk).1
      have hlt : k < listed.size := by
        rcases Nat.lt_or_ge k listed.size with h' | h'
        · exact h'
        · simp [Array.getElem?_eq_none h'] at this
      by_cases hjk : k = j
      · subst hjk; simp [hlt]
      · rw [getD_set_ne true hjk]
        constructor
        · exact .inl
        · rintro (h | h)
          · exact h
          · exact absurd h.symm hjk
    rw [show (o :: l).length + g = (l.length + g) + 1 by simp; omega]
    unfold wpPure at h
    have fin : ∀ v, PureIn P ops o v a → wpPure P ops (fun a' => ∀ listed', ClosedL md ops listed' → (∀ j, listed.getD j true = true ∨ k ≤ j ∧ j < k + (o :: l).length → listed'.getD j true = true) → next (k + (o :: l).length) listed' = true → wpAny P md ops (Calm Q) g listed' a' w) l (a.put o.dst v) →
        wpAny P md ops (Calm Q) (l.length + g + 1) listed a w := by
      intro v hy hK
      refine wpAny_first h0 (Region.noSelect_spec hs) (l.length + g) listed a w (Region.free_spec h0 hf) hrk hy
        (pure_any hs l (k + 1) _ _ w next (fun j hj => by have := hl (j + 1) (by simpa using hj); simpa [Nat.add_assoc, Nat.add_comm 1 j] using this) (hcl.set hrk) hB' ?_)
      have e : k + 1 + l.length = k + (o :: l).length := by simp; omega
      rw [e]
      refine wpPure_mono (fun a' h' listed' hc' hj' hn' => h' listed' hc' (fun j hj => hj' j ?_) hn') _ hK
      rcases hj with hj | hj
      · exact .inl ((hk1 j).2 (.inl hj))
      · by_cases hjk : j = k
        · exact .inl ((hk1 j).2 (.inr hjk))
        · exact .inr ⟨by omega, by omega⟩
    split at h
    · rename_i hw
      obtain ⟨v, hv, hK⟩ := h
      exact fin v (.inl ⟨hw, hv⟩) hK
    · rename_i hw
      exact fin undef (.inr ⟨by simpa using hw, rfl⟩) h
theorem wpQuiet_mono {N N' : Act → Prop} (h : ∀ a, N a → N' a) : ∀ (l : List Oper) {a : Act}, wpQuiet P ops C N l a → wpQuiet P ops C N' l a
  | [], _, hh => h _ hh
  | o :: l, a, hh => by
    unfold wpQuiet at *
    split
    · rename_i hw
      rw [if_pos hw] at hh
      obtain ⟨v, h1, h2⟩ := hh
      exact ⟨v, h1, wpQuiet_mono h l h2⟩
    · rename_i hw
      rw [if_neg hw] at hh
      exact wpQuiet_mono h l hh

/-- **A region that draws**: its first p operations hang on no world, those up to n are quiet in C, the rest comes behind all of these, in order. -/
theorem wp_region_float {id : Nat} {a : Act} {w : World} {l : List Oper} (p n : Nat) (hm : P.follows .mixedOrders = true) (hB : floatB .any l.toArray p n = true) (C : World → Prop) (hC : C { w with drawn := w.drawn + 1 })
    (h : wpPure P l.toArray (fun a' => wpQuiet P l.toArray C (fun a'' => ∀ w', C w' → wpList P l.toArray (Calm Q) (l.drop n) a'' w') ((l.drop p).take (n - p)) a') (l.take p) a) : (Code.region id l.toArray true).wp P Q a w := by
  simp only [floatB, Bool.and_eq_true, decide_eq_true_eq] at hB
  obtain ⟨⟨⟨⟨hpn, hns⟩, hsel⟩, hseal⟩, hpure⟩ := hB
  have hsz : l.toArray.size = l.length := by simp
  rw [hsz] at hns
  have hlp : (l.take p).length = p := by rw [List.length_take]; omega
  have hlh : ((l.drop p).take (n - p)).length = n - p := by rw [List.length_take, List.length_drop]; omega
  have hlt : (l.drop n).length = l.length - n := by rw [List.length_drop]
  refine wp_region_any hm (wpAny_Q Calm.imp _ _ _ _ ?_)
  have hclosed : ClosedL .any l.toArray (Array.replicate l.toArray.size false) := by
    intro j oj _ hl
    rw [getD_replicate_false] at hl
    cases hl
  have key := pure_any (P := P) (Q := Q) (md := .any) (ops := l.toArray) (g := (n - p) + (l.length - n)) hsel (l.take p) 0 (Array.replicate l.toArray.size false) a { w with drawn := w.drawn + 1 }
    (fun k listed => pureB .any l.toArray (n - p) k listed fun k listed => tailB .any l.toArray (l.toArray.size - n) k listed)
    (fun j hj => by rw [hlp] at hj; simp [List.getElem?_take, hj]) hclosed (by rw [hlp]; exact hpure) ?_
  · rw [hlp] at key
    rw [hsz] at key ⊢
    rw [show l.length = p + (n - p + (l.length - n)) by omega]
    rw [show p + (n - p + (l.length - n)) = l.length by omega] at key ⊢
    exact key
  · refine wpPure_mono (fun a' hq listed' hcl hall hn => ?_) _ h
    rw [hlp, Nat.zero_add] at hn
    have hh := head_any (P := P) (C := C) (F := fun j => decide (j < n)) (L := fun listed a => ∀ w', C w' → wpAny P .any l.toArray (Calm Q) (l.length - n) listed a w') hsel ((l.drop p).take (n - p)) p listed' a'
      (fun k listed => tailB .any l.toArray (l.toArray.size - n) k listed)
      (fun j hj => by
        rw [hlh] at hj
        rw [List.getElem?_take, if_pos hj, List.getElem?_drop]; simp)
      (fun i h1 h2 j oj hj hF => by
        rw [hlh] at h2
        simp only [decide_eq_false_iff_not] at hF
        simp only [sealB, List.all_eq_true, List.mem_range, Bool.or_eq_true, decide_eq_true_eq] at hseal
        rcases hseal i (by omega) with h | h
        · omega
        · rcases h j (Array.getElem?_eq_some_iff.1 hj).1 with h | h
          · omega
          · exact aheadB_spec _ _ h oj hj)
      hcl
      (fun j hj => by
        simp only [decide_eq_true_eq] at hj
        rw [hlh]
        rcases Nat.lt_or_ge j p with h | h
        · exact .inl (hall j (.inr ⟨Nat.zero_le _, by rw [hlp]; omega⟩))
        · exact .inr ⟨h, by omega⟩)
      (by rw [hlh]; exact hn)
      (wpQuiet_mono (fun a'' hN listed'' ht w' hw' => by
        rw [hlh, show p + (n - p) = n by omega] at ht
        have := tail_any (P := P) (Q := Calm Q) (md := .any) (l.drop n) n listed'' a'' w' (fun j => by rw [List.getElem?_drop]; simp) (by rw [hlt, ← hsz]; exact ht) (hN w' hw')
        rwa [hlt] at this) _ hq)
    rw [hlh] at hh
    exact wpAny_of_H (fun listed a w hw hL => hL w hw) _ _ _ _ hC hh

/-! ### Reads that float past what makes memory, or writes elsewhere -/
variable {S : Nat → Bool}
def wpAnyK (P : Program) (md : Region.Mode) (ops : Array Oper) (C : World → Prop) (S : Nat → Bool) (Q : Exit → Act → World → Prop) : Nat → Array Bool → Act → World → Prop
  | 0, listed, a, w => Region.ready md ops listed = [] ∧ Q .normal a w
  | fuel + 1, listed, a, w =>
    (Region.ready md ops listed = [] → Q .normal a w) ∧
    ∀ i ∈ Region.ready md ops listed, wpOp P ops Q i (fun a' w' => (S i = false → C w') ∧ wpAnyK P md ops C S Q fuel (listed.setIfInBounds i true) a' w') a w
theorem wpAny_of_K : ∀ (fuel : Nat) (listed : Array Bool) (a : Act) (w : World), wpAnyK P md ops C S Q fuel listed a w → wpAny P md ops Q fuel listed a w
  | 0, _, _, _, h => h
  | fuel + 1, _, _, _, h => ⟨h.1, fun i hi => wpOp_mono (fun a' w' h' => wpAny_of_K fuel _ a' w' h'.2) (h.2 i hi)⟩
/-- An operation's value in every world of the class, which it leaves alone. -/
def ReadIn (P : Program) (ops : Array Oper) (C : World → Prop) (o : Oper) (v : Value) (a : Act) : Prop :=
  (Region.wanted o (yielded ops a.tmps) = true ∧ ∀ w, C w → (execOp a.eval o).run P w = .ok (.value v) w) ∨ (Region.wanted o (yielded ops a.tmps) = false ∧ v = undef)
theorem ReadIn.of_same {o : Oper} {v : Value} {a a' : Act} (hy : ReadIn P ops C o v a) (he : execOp a'.eval o = execOp a.eval o)
    (hw : Region.wanted o (yielded ops a'.tmps) = Region.wanted o (yielded ops a.tmps)) : ReadIn P ops C o v a' := by
  unfold ReadIn at *
  rw [he, hw]
  exact hy
theorem ReadIn.fire {i : Nat} {o : Oper} {v : Value} {a : Act} {w : World} {K : Act → World → Prop} (hi : ops[i]? = some o) (hy : ReadIn P ops C o v a) (hw : C w) (hK : K (a.put o.dst v) w) : wpOp P ops Q i K a w := by
  unfold wpOp
  simp only [hi]
  rcases hy with ⟨hwt, hv⟩ | ⟨hwt, rfl⟩
  · simp only [hwt, if_true]
    refine .inl ?_
    unfold Oper.wp
    rw [hv w hw]
    exact hK
  · simp only [hwt, Bool.false_eq_true, if_false]; exact hK
theorem wpAnyK_first {i : Nat} {oi : Oper} {v : Value} (hi : ops[i]? = some oi) (hsel : ∀ (j : Nat) (o : Oper) cs b, ops[j]? = some o → o.op ≠ .select cs b)
    (hS : ∀ j oj, ops[j]? = some oj → S j = true → Ahead md ops i j) (hSi : S i = false) :
    ∀ (fuel : Nat) (listed : Array Bool) (a : Act) (w : World),
      (∀ j oj, ops[j]? = some oj → j ≠ i → listed.getD j true = false → (∀ e ∈ oj.after, Region.binds md e = true → e.on ≠ i) → oi.apart ops oj = true) →
      ClosedL md ops listed → i ∈ Region.ready md ops listed → ReadIn P ops C oi v a → C w →
      wpAnyK P md ops C S (Calm Q) fuel (listed.setIfInBounds i true) (a.put oi.dst v) w → wpAnyK P md ops C S (Calm Q) (fuel + 1) listed a w := by
  intro fuel
  induction fuel with
  | zero =>
    intro listed a w _ _ hr hy hw H
    refine ⟨fun h => (by rw [h] at hr; cases hr), fun j hj => ?_⟩
    by_cases hji : j = i
    · subst hji; exact hy.fire hi hw ⟨fun _ => hw, H⟩
    · have := ready_mono hj hji
      rw [H.1] at this
      cases this
  | succ fuel ih =>
    intro listed a w hfree hcl hr hy hw H
    refine ⟨fun h => (by rw [h] at hr; cases hr), fun j hj => ?_⟩
    by_cases hji : j = i
    · subst hji; exact hy.fire hi hw ⟨fun _ => hw, H⟩
    · obtain ⟨hjun, oj, hoj, hall⟩ := mem_ready.1 hj
      have hnot : ∀ e ∈ oj.after, Region.binds md e = true → e.on ≠ i := fun e he hb heq => not_listed (mem_ready.1 hr).1 (heq ▸ hall e he hb)
      have hap := hfree j oj hoj hji hjun hnot
      have h2 := wpOp_put hoj hap (fun cs b => hsel j oj cs b hoj) (H.2 j (ready_mono hj hji))
      obtain ⟨h1, _, h3⟩ := Oper.apart_spec hap
      have hSj : S j = false := by
        cases hs : S j with
        | false => rfl
        | true => exact absurd ((hS j oj hoj hs).listed hcl fun ok hk e he hb => by rw [hoj] at hk; injection hk with hk; subst hk; exact hall e he hb) (not_listed (mem_ready.1 hr).1)
      refine wpOp_mono (fun a' w' ⟨⟨u, ds, ha'⟩, hK⟩ => ?_) h2
      have hC' := hK.1 hSj
      have hy' : ReadIn P ops C oi v a' := by
        have e1 : ReadIn P ops C oi v ({ a with defers := ds } : Act) := hy.of_same (by rfl) rfl
        rw [ha']
        exact e1.of_same (execOp_put oi (fun cs b => hsel i oi cs b hi) _ oj.dst u h3) (wanted_put oi _ oj.dst u h3)
      refine ⟨fun _ => hC', ih (listed.setIfInBounds j true) a' w' (free_set hjun hfree) (hcl.set hj) (ready_mono hr (Ne.symm hji)) hy' hC' ?_⟩
      rw [Array.setIfInBounds_comm _ _ hji]
      exact hK.2

/-- What comes behind the reads, one behind the other; an operation that a read may still follow keeps the class. -/
def wpTail (P : Program) (ops : Array Oper) (C : World → Prop) (S : Nat → Bool) (Q : Exit → Act → World → Prop) : Nat → List Oper → Act → World → Prop
  | _, [], a, w => Q .normal a w
  | k, o :: rest, a, w => wpOp P ops Q k (fun a' w' => (S k = false → C w') ∧ wpTail P ops C S Q (k + 1) rest a' w') a w
theorem wpTail_sealed : ∀ (l : List Oper) (k : Nat) {a : Act} {w : World}, (∀ j, l[j]? = ops[k + j]?) → (∀ j, j < l.length → S (k + j) = true) → wpList P ops Q l a w → wpTail P ops C S Q k l a w
  | [], _, _, _, _, _, h => h
  | o :: l, k, a, w, hl, hS, h => by
    have h0 : ops[k]? = some o := by simpa using (hl 0).symm
    have hh : wpOp P ops Q k (wpList P ops Q l) a w := by unfold wpOp; simp only [h0]; exact h
    exact wpOp_mono (fun a' w' h' => ⟨(fun hs => by
        have h1 := hS 0 (by simp)
        rw [Nat.add_zero] at h1
        rw [h1] at hs
        cases hs),
      wpTail_sealed l (k + 1) (fun j => by have := hl (j + 1); simpa [Nat.add_assoc, Nat.add_comm 1 j] using this) (fun j hj => by have := hS (j + 1) (by simpa using hj); simpa [Nat.add_assoc, Nat.add_comm 1 j] using this) h'⟩) hh
theorem wpTail_open {k : Nat} {o : Oper} {rest : List Oper} {a : Act} {w : World} (h0 : ops[k]? = some o) (hg : o.guard = none)
    (h : ∀ K : Act → World → Prop, (∀ a' w', C w' → wpTail P ops C S Q (k + 1) rest a' w' → K a' w') → o.wp P a w K Q) : wpTail P ops C S Q k (o :: rest) a w := by
  unfold wpTail wpOp
  simp only [h0]
  rw [if_pos (by simp [Region.wanted, hg])]
  exact .inl (h _ fun a' w' h1 h2 => ⟨fun _ => h1, h2⟩)
theorem wpTail_last {k : Nat} {o : Oper} {a : Act} {w : World} (h0 : ops[k]? = some o) (hS : S k = true) (h : wpList P ops Q [o] a w) : wpTail P ops C S Q k [o] a w := by
  have hh : wpOp P ops Q k (wpList P ops Q []) a w := by unfold wpOp; simp only [h0]; exact h
  exact wpOp_mono (fun a' w' h' => ⟨(fun hs => by rw [hS] at hs; cases hs), h'⟩) hh
def Only (R : Act → World → Prop) : Exit → Act → World → Prop
  | .normal, a, w => R a w
  | _, _, _ => False
theorem Oper.wp_only {o : Oper} {a : Act} {w : World} {K : Act → World → Prop} {R : Act → World → Prop} {Q' : Exit → Act → World → Prop} (h : o.wp P a w K (Only R)) : o.wp P a w K Q' := by
  unfold Oper.wp at *
  generalize (execOp a.eval o).run P w = r at *
  cases r with
  | ok n w' =>
    cases n <;> simp only [Oper.upon] at h ⊢ <;> first
      | exact h
      | exact Calls.mono h (fun e w'' he => by cases e <;> first | exact he | exact (he : False).elim | exact (let ⟨_, _, x⟩ := he; (x : False).elim))
  | halt x w' => cases x <;> simp only [Oper.upon] at h ⊢ <;> first | exact h | exact (h : False).elim
/-- An operation of the tail by the rules on lists. -/
theorem wpTail_list {k : Nat} {o : Oper} {rest : List Oper} {a : Act} {w : World} (h0 : ops[k]? = some o) (hg : o.guard = none) (R : Act → World → Prop) (h : wpList P ops (Only R) [o] a w)
    (hR : ∀ a' w', R a' w' → C w' ∧ wpTail P ops C S Q (k + 1) rest a' w') : wpTail P ops C S Q k (o :: rest) a w := by
  refine wpTail_open h0 hg fun K hK => ?_
  unfold wpList at h
  rw [if_pos (by simp [Region.wanted, hg])] at h
  rcases h with h | ⟨_, _, _, hf⟩
  · exact Oper.wp_only (Oper.wp_mono (fun a' w' h' => hK a' w' (hR a' w' h').1 (hR a' w' h').2) h)
  · exact (hf : False).elim
theorem wpTail_val {k : Nat} {o : Oper} {rest : List Oper} {a : Act} {w : World} (h0 : ops[k]? = some o) (hg : o.guard = none) (T : Value → World → Prop)
    (h : wpList P ops (Only fun a' w' => ∃ v, a' = a.put o.dst v ∧ T v w') [o] a w) (hR : ∀ v w', T v w' → C w' ∧ wpTail P ops C S Q (k + 1) rest (a.put o.dst v) w') : wpTail P ops C S Q k (o :: rest) a w :=
  wpTail_list h0 hg _ h fun a' w' ⟨v, e, hT⟩ => by subst e; exact hR v w' hT
theorem tail_anyK : ∀ (l : List Oper) (k : Nat) (listed : Array Bool) (a : Act) (w : World), (∀ j, l[j]? = ops[k + j]?) → tailB md ops l.length k listed = true → wpTail P ops C S Q k l a w → wpAnyK P md ops C S Q l.length listed a w
  | [], _, _, _, _, _, hB, h => ⟨by simpa [tailB] using hB, h⟩
  | o :: l, k, listed, a, w, hl, hB, h => by
    simp only [List.length_cons, tailB, Bool.and_eq_true, beq_iff_eq] at hB
    obtain ⟨hr, hB'⟩ := hB
    refine ⟨fun h => (by rw [hr] at h; cases h), fun i hi => ?_⟩
    rw [hr] at hi
    obtain rfl : i = k := by simpa using hi
    exact wpOp_mono (fun a' w' h' => ⟨h'.1, tail_anyK l (i + 1) _ a' w' (fun j => by have := hl (j + 1); simpa [Nat.add_assoc, Nat.add_comm 1 j] using this) hB' h'.2⟩) h

def wpRead (P : Program) (ops : Array Oper) (C : World → Prop) (N : Act → Prop) : List Oper → Act → Prop
  | [], a => N a
  | o :: rest, a => if Region.wanted o (yielded ops a.tmps) then ∃ v, (∀ w, C w → (execOp a.eval o).run P w = .ok (.value v) w) ∧ wpRead P ops C N rest (a.put o.dst v) else wpRead P ops C N rest (a.put o.dst undef)
theorem wpRead_mono {N N' : Act → Prop} (h : ∀ a, N a → N' a) : ∀ (l : List Oper) {a : Act}, wpRead P ops C N l a → wpRead P ops C N' l a
  | [], _, hh => h _ hh
  | o :: l, a, hh => by
    unfold wpRead at *
    split
    · rename_i hw
      rw [if_pos hw] at hh
      obtain ⟨v, h1, h2⟩ := hh
      exact ⟨v, h1, wpRead_mono h l h2⟩
    · rename_i hw
      rw [if_neg hw] at hh
      exact wpRead_mono h l hh
theorem wpRead_value {N : Act → Prop} {a : Act} {o : Oper} {rest : List Oper} (hg : o.guard = none) (v : Value) (hv : ∀ w, C w → (execOp a.eval o).run P w = .ok (.value v) w) (h : wpRead P ops C N rest (a.put o.dst v)) : wpRead P ops C N (o :: rest) a := by
  unfold wpRead
  rw [if_pos (by simp [Region.wanted, hg])]
  exact ⟨v, hv, h⟩
theorem wpRead_nil {N : Act → Prop} {a : Act} (h : N a) : wpRead P ops C N [] a := h

theorem read_any (hs : Region.noSelect ops = true) {g : Nat} : ∀ (l : List Oper) (k : Nat) (listed : Array Bool) (a : Act) (w : World) (next : Nat → Array Bool → Bool), (∀ j, j < l.length → l[j]? = ops[k + j]?) → ClosedL md ops listed →
    (∀ i, k ≤ i → i < k + l.length → S i = false ∧ ∀ j oj, ops[j]? = some oj → S j = true → Ahead md ops i j) → C w →
    pureB md ops l.length k listed next = true → wpRead P ops C (fun a' => ∀ listed', next (k + l.length) listed' = true → wpAnyK P md ops C S (Calm Q) g listed' a' w) l a → wpAnyK P md ops C S (Calm Q) (l.length + g) listed a w
  | [], k, listed, a, w, next, _, hcl, _, _, hB, h => by
    simp only [List.length_nil, Nat.zero_add]
    exact h listed hB
  | o :: l, k, listed, a, w, next, hl, hcl, hS, hw, hB, h => by
    have h0 : ops[k]? = some o := by simpa using (hl 0 (by simp)).symm
    simp only [List.length_cons, pureB, Bool.and_eq_true] at hB
    obtain ⟨⟨hr, hf⟩, hB'⟩ := hB
    have hrk := ready_contains hr
    rw [show (o :: l).length + g = (l.length + g) + 1 by simp; omega]
    unfold wpRead at h
    have fin : ∀ v, ReadIn P ops C o v a → wpRead P ops C (fun a' => ∀ listed', next (k + (o :: l).length) listed' = true → wpAnyK P md ops C S (Calm Q) g listed' a' w) l (a.put o.dst v) →
        wpAnyK P md ops C S (Calm Q) (l.length + g + 1) listed a w := by
      intro v hy hK
      obtain ⟨hSk, hSa⟩ := hS k (Nat.le_refl _) (by simp)
      refine wpAnyK_first h0 (Region.noSelect_spec hs) hSa hSk (l.length + g) listed a w (Region.free_spec h0 hf) hcl hrk hy hw
        (read_any hs l (k + 1) _ _ w next (fun j hj => by have := hl (j + 1) (by simpa using hj); simpa [Nat.add_assoc, Nat.add_comm 1 j] using this) (hcl.set hrk) (fun i h1 h2 => hS i (by omega) (by simp; omega)) hw hB' ?_)
      rw [show k + 1 + l.length = k + (o :: l).length by simp; omega]
      exact hK
    split at h
    · rename_i hwt
      obtain ⟨v, hv, hK⟩ := h
      exact fin v (.inl ⟨hwt, hv⟩) hK
    · rename_i hwt
      exact fin undef (.inr ⟨by simpa using hwt, rfl⟩) h

/-- Which operations come behind all of the first n. -/
def allAhead (md : Region.Mode) (ops : Array Oper) (n j : Nat) : Bool := decide (n ≤ j) && (List.range n).all fun i => aheadB md ops i ops.size j
def readB (md : Region.Mode) (ops : Array Oper) (n : Nat) : Bool :=
  decide (n ≤ ops.size) && Region.noSelect ops && pureB md ops n 0 (Array.replicate ops.size false) fun k listed => tailB md ops (ops.size - n) k listed
/-- **A region that draws**: its first n operations read, whatever of the others comes between: these come in order, and keep what is read as long as a read may follow. -/
theorem wp_region_reads {id : Nat} {a : Act} {w : World} {l : List Oper} (n : Nat) (hm : P.follows .mixedOrders = true) (hB : readB .any l.toArray n = true) (C : World → Prop) (hC : C { w with drawn := w.drawn + 1 })
    (h : wpRead P l.toArray C (fun a' => wpTail P l.toArray C (allAhead .any l.toArray n) (Calm Q) n (l.drop n) a' { w with drawn := w.drawn + 1 }) (l.take n) a) : (Code.region id l.toArray true).wp P Q a w := by
  simp only [readB, Bool.and_eq_true, decide_eq_true_eq] at hB
  obtain ⟨⟨hns, hsel⟩, hpure⟩ := hB
  have hsz : l.toArray.size = l.length := by simp
  rw [hsz] at hns
  have hln : (l.take n).length = n := by rw [List.length_take]; omega
  have hld : (l.drop n).length = l.length - n := by rw [List.length_drop]
  refine wp_region_any hm (wpAny_Q Calm.imp _ _ _ _ (wpAny_of_K _ _ _ _ (C := C) (S := allAhead .any l.toArray n) ?_))
  have hclosed : ClosedL .any l.toArray (Array.replicate l.toArray.size false) := by
    intro j oj _ hl
    rw [getD_replicate_false] at hl
    cases hl
  have key := read_any (P := P) (Q := Q) (C := C) (S := allAhead .any l.toArray n) (md := .any) (ops := l.toArray) (g := l.length - n) hsel (l.take n) 0 (Array.replicate l.toArray.size false) a { w with drawn := w.drawn + 1 }
    (fun k listed => tailB .any l.toArray (l.toArray.size - n) k listed)
    (fun j hj => by rw [hln] at hj; simp [List.getElem?_take, hj]) hclosed
    (fun i _ h2 => by
      rw [hln, Nat.zero_add] at h2
      refine ⟨by simp [allAhead]; omega, fun j oj hj hs => ?_⟩
      simp only [allAhead, Bool.and_eq_true, List.all_eq_true, List.mem_range] at hs
      exact aheadB_spec _ _ (hs.2 i h2) oj hj)
    hC (by rw [hln]; exact hpure)
    (wpRead_mono (fun a' ht listed' hn => by
      rw [hln, Nat.zero_add] at hn
      have := tail_anyK (P := P) (Q := Calm Q) (C := C) (S := allAhead .any l.toArray n) (md := .any) (l.drop n) n listed' a' _ (fun j => by rw [List.getElem?_drop]; simp) (by rw [hld, ← hsz]; exact hn) ht
      rwa [hld] at this) _ h)
  rw [hln] at key
  rw [hsz] at key ⊢
  rw [show n + (l.length - n) = l.length by omega] at key
  exact key
end
end Go.Proofs.An
