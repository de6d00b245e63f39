/-
  A small library for walks: worlds that keep old blocks (Ext), and what a Go value stands for (Enc, Sl). No program in it.
-/
import Derived.WalkKit
import Derived.Lib.Hide
import Derived.Deep.QuietTactic
import Derived.BigQuiet
namespace Go.Proofs.An
open Go.RowKit

/-- Behind w' all old blocks but those of N are as they were in w. -/
structure Ext (N : Nat → Prop) (w w' : World) : Prop where
  os : w'.os = w.os
  tape : w'.tape = w.tape
  output : w'.output = w.output
  size : w.heap.size ≤ w'.heap.size
  block : ∀ b, b < w.heap.size → ¬ N b → w'.heap[b]? = w.heap[b]?

def No : Nat → Prop := fun _ => False

theorem Ext.refl (N : Nat → Prop) (w : World) : Ext N w w := ⟨rfl, rfl, rfl, Nat.le_refl _, fun _ _ _ => rfl⟩
theorem Ext.trans {N : Nat → Prop} {a b c : World} (h : Ext N a b) (k : Ext N b c) : Ext N a c :=
  ⟨k.os.trans h.os, k.tape.trans h.tape, k.output.trans h.output, Nat.le_trans h.size k.size,
    fun i hi hn => (k.block i (Nat.lt_of_lt_of_le hi h.size) hn).trans (h.block i hi hn)⟩
theorem Ext.mono {N N' : Nat → Prop} {w w' : World} (h : Ext N w w') (hn : ∀ b, b < w.heap.size → N b → N' b) : Ext N' w w' :=
  ⟨h.os, h.tape, h.output, h.size, fun b hb hnb => h.block b hb fun x => hnb (hn b hb x)⟩
theorem Ext.any {N : Nat → Prop} {w w' : World} (h : Ext No w w') : Ext N w w' := h.mono fun _ _ x => x.elim
theorem Ext.drew {N : Nat → Prop} {a w : World} (h : Ext N a w) : Ext N a w.drew := ⟨h.os, h.tape, h.output, h.size, h.block⟩
theorem Ext.drewN {N : Nat → Prop} {a w : World} (h : Ext N a w) (n : Nat) : Ext N a (w.drewN n) := ⟨h.os, h.tape, h.output, h.size, h.block⟩
theorem Ext.alloc {N : Nat → Prop} {a w : World} (h : Ext N a w) (o : Obj) : Ext N a (w.alloc o) :=
  h.trans ⟨rfl, rfl, rfl, by simp, fun k hk _ => Below.heap_alloc _ _ _ hk⟩
theorem Ext.setCell {N : Nat → Prop} {a w : World} (h : Ext N a w) (p : Addr) (hp : N p.block ∨ a.heap.size ≤ p.block) (u : Value) : Ext N a (w.setCell p u) :=
  ⟨h.os, h.tape, h.output, by have := h.size; simpa [World.setCell] using this, fun b hb hn => by
    rw [Below.heap_setCell _ _ _ _ (by rintro rfl; rcases hp with hp | hp; exact hn hp; omega)]
    exact h.block b hb hn⟩
theorem Ext.below {w w' : World} (h : Ext No w w') : Below w.heap.size w w' := ⟨h.os, h.tape, h.output, h.size, fun k hk => h.block k hk id⟩
theorem Ext.of_below {N : Nat → Prop} {w w' : World} (h : Below w.heap.size w w') : Ext N w w' := ⟨h.os, h.tape, h.output, h.size, fun k hk _ => h.block k hk⟩
theorem Ext.of_grown {w w' : World} {row : Option Nat} (h : w.grownBy w' row) : Ext (fun b => row = some b) w w' :=
  ⟨h.os, h.tape, h.output, h.size, fun k hk hn => h.block k hk fun e => hn e.symm⟩
theorem Ext.cell {N : Nat → Prop} {w w' : World} (h : Ext N w w') {a : Addr} {v : Value} (hn : ¬ N a.block) (hc : w.cell? a = some v) : w'.cell? a = some v := by
  have hb := World.block_lt_of_cell? w a hc
  rw [World.cell?_of_block (w := w) (h.block a.block hb hn)]; exact hc
/-- What is new since a is N's own affair: a step from b that turns blocks new since a, or N's. -/
theorem Ext.then {N N' : Nat → Prop} {a b c : World} (h : Ext N a b) (k : Ext N' b c) (hn : ∀ x, x < a.heap.size → N' x → N x) : Ext N a c :=
  ⟨k.os.trans h.os, k.tape.trans h.tape, k.output.trans h.output, Nat.le_trans h.size k.size,
    fun i hi hni => (k.block i (Nat.lt_of_lt_of_le hi h.size) fun x => hni (hn i hi x)).trans (h.block i hi hni)⟩

@[go_sem] theorem Ext.drew_iff {N : Nat → Prop} {a w : World} : Ext N a w.drew ↔ Ext N a w := ⟨fun h => ⟨h.os, h.tape, h.output, h.size, h.block⟩, Ext.drew⟩
@[go_sem] theorem Ext.drewN_iff {N : Nat → Prop} {a w : World} {n : Nat} : Ext N a (w.drewN n) ↔ Ext N a w := ⟨fun h => ⟨h.os, h.tape, h.output, h.size, h.block⟩, fun h => h.drewN n⟩
attribute [go_sem] Ext.alloc Ext.refl
/-- A cell that was there, in whatever world keeps it. -/
theorem Ext.stay {N : Nat → Prop} {w w1 : World} {a : Addr} {v : Value} (h : Ext N w w1) (hn : ¬ N a.block) (hc : w.cell? a = some v) : ∀ W, Ext No w1 W → W.cell? a = some v :=
  fun _ hW => hW.cell id (h.cell hn hc)
theorem Ext.thaw {N : Nat → Prop} {w w1 : World} {a : Addr} (h : Ext N w w1) (hn : ¬ N a.block) (hb : a.block < w.heap.size) (hc : w.frozen? a = false) : ∀ W, Ext No w1 W → W.frozen? a = false := by
  intro W hW
  rw [World.frozen?_of_block (w := w1) (hW.block a.block (Nat.lt_of_lt_of_le hb h.size) id), World.frozen?_of_block (w := w) (h.block a.block hb hn)]
  exact hc

theorem add_add (a : Addr) (m n : Nat) : (a.add m).add n = a.add (m + n) := by
  unfold Addr.add
  by_cases hm : m = 0 <;> by_cases hn : n = 0 <;> simp [hm, hn, Nat.add_assoc]
theorem add_block (a : Addr) (m : Nat) : (a.add m).block = a.block := by unfold Addr.add; split <;> rfl
theorem add_zero (a : Addr) : a.add 0 = a := by simp [Addr.add]

/-- What cells stand for: n of them; M: the blocks that may still be written. -/
class Enc (α : Type) where
  n : Nat
  dflt : α
  rep : (Nat → Prop) → World → List Value → α → Prop
  rep_len : ∀ {M w cs x}, rep M w cs x → cs.length = n
  rep_ext : ∀ {M M' : Nat → Prop} {w w' cs x}, (∀ b, b < w.heap.size → ¬ M b → ¬ M' b ∧ w'.heap[b]? = w.heap[b]?) → rep M w cs x → rep M' w' cs x

def nth {α : Type} [Enc α] (xs : List α) (k : Nat) : α := xs.getD k Enc.dflt
theorem nth_eq {α : Type} [Enc α] (xs : List α) (k : Nat) (h : k < xs.length) : nth xs k = xs[k] := by simp [nth, List.getD, List.getElem?_eq_getElem h]

/-- The k-th element's address. -/
def eaddr (v : Value) (n k : Nat) : Addr := match v with
  | .slice (some a) _ _ => a.add (k * n)
  | _ => default
def MemAt (w : World) (a : Addr) (cs : List Value) : Prop := ∀ j v, cs[j]? = some v → w.cell? (a.add j) = some v
theorem MemAt.ext {N : Nat → Prop} {w w' : World} {a : Addr} {cs : List Value} (h : MemAt w a cs) (hE : Ext N w w') (hn : ¬ N a.block) : MemAt w' a cs :=
  fun j v hj => hE.cell (by rw [add_block]; exact hn) (h j v hj)

structure Sl {α : Type} [Enc α] (M : Nat → Prop) (w : World) (v : Value) (xs : List α) : Prop where
  kind : (v = .slice none 0 0 ∧ xs.length = 0) ∨ ∃ a cap, v = .slice (some a) xs.length cap ∧ xs.length ≤ cap
  small : xs.length ≤ maxLen
  elem : ∀ k, k < xs.length → ∃ a cap, v = .slice (some a) xs.length cap ∧ ¬ M a.block ∧ ∃ cs, Enc.rep M w cs (nth xs k) ∧ MemAt w (a.add (k * Enc.n α)) cs

theorem Sl.form {α : Type} [Enc α] {M : Nat → Prop} {w : World} {v : Value} {xs : List α} (h : Sl M w v xs) : ∃ A cap, v = .slice A xs.length cap := by
  rcases h.kind with ⟨rfl, h0⟩ | ⟨a, cap, rfl, _⟩
  · exact ⟨none, 0, by rw [h0]⟩
  · exact ⟨_, cap, rfl⟩
theorem block_ext {w w' : World} {a : Addr} {v : Value} (hc : w.cell? a = some v) (h : w'.heap[a.block]? = w.heap[a.block]?) : w'.cell? a = some v := by
  rw [World.cell?_of_block (w := w) h]; exact hc

theorem Sl.ext' {α : Type} [Enc α] {M M' : Nat → Prop} {w w' : World} {v : Value} {xs : List α} (hn : 0 < Enc.n α)
    (h : ∀ b, b < w.heap.size → ¬ M b → ¬ M' b ∧ w'.heap[b]? = w.heap[b]?) (hs : Sl M w v xs) : Sl M' w' v xs := by
  refine ⟨hs.kind, hs.small, fun k hk => ?_⟩
  obtain ⟨a, cap, he, hm, cs, hr, hc⟩ := hs.elem k hk
  have hlt : a.block < w.heap.size := by
    have hl := Enc.rep_len hr
    have h0 := hc 0 (cs[0]'(by omega)) (by simp)
    have := World.block_lt_of_cell? w _ h0
    simpa [add_block] using this
  refine ⟨a, cap, he, (h _ hlt hm).1, cs, Enc.rep_ext h hr, fun j x hj => ?_⟩
  exact block_ext (hc j x hj) (by simp only [add_block]; exact (h _ hlt hm).2)

instance encInt : Enc Int where
  n := 1
  dflt := 0
  rep _ _ cs x := cs = [.int .i64 x]
  rep_len h := by rw [h]; rfl
  rep_ext _ h := h
instance encBool : Enc Bool where
  n := 1
  dflt := false
  rep _ _ cs x := cs = [.bool x]
  rep_len h := by rw [h]; rfl
  rep_ext _ h := h
instance encStr : Enc ByteArray where
  n := 1
  dflt := ByteArray.empty
  rep _ _ cs x := cs = [.string x] ∧ x.size ≤ maxLen
  rep_len h := by rw [h.1]; rfl
  rep_ext _ h := h

/-- Slices of what has at least one cell. -/
class Enc1 (α : Type) extends Enc α where
  pos : 0 < n
instance : Enc1 Int where pos := by decide
instance : Enc1 Bool where pos := by decide
instance : Enc1 ByteArray where pos := by decide
instance encList {α : Type} [i : Enc1 α] : Enc (List α) where
  n := 1
  dflt := []
  rep M w cs xs := ∃ v, cs = [v] ∧ Sl M w v xs
  rep_len h := by obtain ⟨v, h, _⟩ := h; rw [h]; rfl
  rep_ext h hr := by obtain ⟨v, h1, h2⟩ := hr; exact ⟨v, h1, h2.ext' i.pos h⟩
instance {α : Type} [Enc1 α] : Enc1 (List α) where pos := by show 0 < 1; decide

theorem Sl.ext {α : Type} [i : Enc1 α] {M : Nat → Prop} {w w' : World} {v : Value} {xs : List α} (hs : Sl M w v xs) (h : Ext M w w') : Sl M w' v xs :=
  hs.ext' i.pos fun b hb hm => ⟨hm, h.block b hb hm⟩
theorem Sl.free {α : Type} [i : Enc1 α] {M M' : Nat → Prop} {w : World} {v : Value} {xs : List α} (hs : Sl M w v xs) (h : ∀ b, b < w.heap.size → M' b → M b) : Sl M' w v xs :=
  hs.ext' i.pos fun b hb hm => ⟨fun x => hm (h b hb x), rfl⟩
theorem rep_ext {α : Type} [Enc α] {M : Nat → Prop} {w w' : World} {cs : List Value} {x : α} (hs : Enc.rep M w cs x) (h : Ext M w w') : Enc.rep M w' cs x :=
  Enc.rep_ext (fun b hb hm => ⟨hm, h.block b hb hm⟩) hs

/-! ### Rules for the walk: the slice's value stays closed -/
section
variable {P : Program} {α : Type} [i : Enc1 α] {M : Nat → Prop} {w : World} {v : Value} {xs : List α}
theorem Sl.len_rule (hs : Sl M w v xs) (t : TypeId) (ht : P.underlying t = some (.slice (P.elem t))) :
    ∀ (ty : TypeId) (W : World), (Builtin.len_ #[t] ty #[v]).run P W = .ok (.int .i64 (xs.length : Int)) W := by
  intro ty W
  obtain ⟨A, cap, rfl⟩ := hs.form
  exact run_len_slice W t ty A _ cap ht
theorem Sl.idx_rule (hs : Sl M w v xs) (t : TypeId) (ht : P.underlying t = some (.slice (P.elem t))) (hz : (P.info? (P.elem t)).map (·.size) = some (Enc.n α)) :
    ∀ (q : Int) (W : World), 0 ≤ q → q < (xs.length : Int) → (Instr.indexAt t v (.int .i64 q)).run P W = .ok (.pointer (some (eaddr v (Enc.n α) q.toNat))) W := by
  intro q W h0 h1
  obtain ⟨a, cap, rfl, -⟩ := hs.elem q.toNat (by omega)
  rw [run_indexAt_slice (h := ht), if_pos ⟨h0, h1⟩]
  obtain ⟨inf, hi, hsz⟩ := Option.map_eq_some_iff.1 hz
  simp [sizeOf, typeInfo, hi, hsz, eaddr]
theorem run_loadAt_one (t : TypeId) (a : Addr) (x : Value) (W : World) (ht : (P.underlying t).map (fun d => match d with | .struct _ => true | .array _ _ => true | _ => false) = some false) (hc : W.cell? a = some x) :
    (Instr.loadAt t (.pointer (some a))).run P W = .ok x W := by
  obtain ⟨d, hd, hb⟩ := Option.map_eq_some_iff.1 ht
  cases d <;> simp at hb <;> simp [Instr.loadAt, Instr.sureAddr, loadVar, isAgg, run_underlying hd, hc]
theorem run_loadAt_agg (t : TypeId) (a : Addr) (cs : List Value) (W : World) (ht : (P.underlying t).map (fun d => match d with | .struct _ => true | .array _ _ => true | _ => false) = some true)
    (hz : (P.info? t).map (·.size) = some cs.length) (hc : MemAt W a cs) :
    (Instr.loadAt t (.pointer (some a))).run P W = .ok (.agg cs.toArray) W := by
  obtain ⟨d, hd, hb⟩ := Option.map_eq_some_iff.1 ht
  obtain ⟨inf, hi, hsz⟩ := Option.map_eq_some_iff.1 hz
  have hl := run_loadCells_list (P := P) W a cs hc
  cases d <;> simp at hb <;> simp [Instr.loadAt, Instr.sureAddr, loadVar, isAgg, run_underlying hd, sizeOf, typeInfo, hi, hsz, hl]
/-- An element's cells, as the walk's loads ask for them. -/
theorem Sl.cells (hs : Sl M w v xs) (k : Nat) (hk : k < xs.length) :
    ∃ cs, Enc.rep M w cs (nth xs k) ∧ (∀ x, cs[0]? = some x → ∀ W, Ext M w W → W.cell? (eaddr v (Enc.n α) k) = some x) ∧
      ∀ j, j ≠ 0 → ∀ x, cs[j]? = some x → ∀ W, Ext M w W → W.cell? ⟨(eaddr v (Enc.n α) k).block, (eaddr v (Enc.n α) k).off + j, none⟩ = some x := by
  obtain ⟨a, cap, rfl, hm, cs, hr, hc⟩ := hs.elem k hk
  refine ⟨cs, hr, fun x hx W hE => ?_, fun j hj x hx W hE => ?_⟩
  · have := (hc.ext hE (by rw [add_block]; exact hm)) 0 x hx
    simpa [add_zero, eaddr] using this
  · have := (hc.ext hE (by rw [add_block]; exact hm)) j x hx
    have e : ((a.add (k * Enc.n α)).add j) = ⟨(a.add (k * Enc.n α)).block, (a.add (k * Enc.n α)).off + j, none⟩ := by
      conv => lhs; unfold Addr.add
      rw [if_neg hj]
      unfold Addr.add
      rfl
    rw [e] at this
    exact this
end

end Go.Proofs.An
