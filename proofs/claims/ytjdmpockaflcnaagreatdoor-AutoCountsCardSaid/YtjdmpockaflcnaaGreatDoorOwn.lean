/-
  Rows of a call's own: slices that are appended to, and what their elements stand for.
-/
import Derived.Test.YtjdmpockaflcnaaGreatDoorData
import Derived.Maps.AppendAt
import Derived.Laws.AppendOwnNone
namespace Go.Proofs.An
open Go.RowKit

/-- From (M, w) to (M', w'): whatever stood for something in blocks that may not be written still does. -/
structure Keeps (M : Nat → Prop) (w : World) (M' : Nat → Prop) (w' : World) : Prop where
  size : w.heap.size ≤ w'.heap.size
  block : ∀ b, b < w.heap.size → ¬ M b → ¬ M' b ∧ w'.heap[b]? = w.heap[b]?
theorem Keeps.refl (M : Nat → Prop) (w : World) : Keeps M w M w := ⟨Nat.le_refl _, fun _ _ h => ⟨h, rfl⟩⟩
theorem Keeps.trans {M M1 M2 : Nat → Prop} {w w1 w2 : World} (h : Keeps M w M1 w1) (k : Keeps M1 w1 M2 w2) : Keeps M w M2 w2 :=
  ⟨Nat.le_trans h.size k.size, fun b hb hm => by
    have h1 := h.block b hb hm
    have h2 := k.block b (Nat.lt_of_lt_of_le hb h.size) h1.1
    exact ⟨h2.1, h2.2.trans h1.2⟩⟩
theorem Keeps.of_ext {M : Nat → Prop} {w w' : World} (h : Ext M w w') : Keeps M w M w' := ⟨h.size, fun b hb hm => ⟨hm, h.block b hb hm⟩⟩
theorem Keeps.sl {α : Type} [i : Enc1 α] {M M' : Nat → Prop} {w w' : World} {v : Value} {xs : List α} (h : Keeps M w M' w') (hs : Sl M w v xs) : Sl M' w' v xs := hs.ext' i.pos h.block
theorem Keeps.rep {α : Type} [Enc α] {M M' : Nat → Prop} {w w' : World} {cs : List Value} {x : α} (h : Keeps M w M' w') (hs : Enc.rep M w cs x) : Enc.rep M' w' cs x := Enc.rep_ext h.block hs

def cut (cells : List Value) (n k : Nat) : List Value := (cells.drop (k * n)).take n

structure Own {α : Type} [Enc1 α] (E : TypeId) (B : Nat) (M : Nat → Prop) (w : World) (v : Value) (xs : List α) : Prop where
  mine : ∀ b, v.ownBlock = some b → M b
  row : ∃ cells, w.ownsRow B E (Enc.n α) v xs.length cells ∧ ∀ k, k < xs.length → Enc.rep M w (cut cells (Enc.n α) k) (nth xs k)

theorem ownsRow_ext {N : Nat → Prop} {w w' : World} {B : Nat} {E : TypeId} {size n : Nat} {v : Value} {cells : List Value} (h : w.ownsRow B E size v n cells)
    (hE : Ext N w w') (hn : ∀ b, v.ownBlock = some b → ¬ N b) : w'.ownsRow B E size v n cells := by
  refine ⟨h.1, ?_⟩
  rcases h.2 with h1 | ⟨g, cap, cur, he, hb, hg, hr⟩
  · exact .inl h1
  · have hlt : g < w.heap.size := (Array.getElem?_eq_some_iff.1 hg).1
    exact .inr ⟨g, cap, cur, he, hb, by rw [hE.block g hlt (hn g (by rw [he]; rfl))]; exact hg, hr⟩

theorem Own.nil {α : Type} [Enc1 α] (E : TypeId) (B : Nat) (M : Nat → Prop) (w : World) : Own (α := α) E B M w (.slice none 0 0) [] :=
  ⟨fun b h => by simp [Value.ownBlock] at h, [], ⟨by simp, .inl ⟨rfl, rfl⟩⟩, fun k hk => absurd hk (by simp)⟩

/-- Nothing of mine is turned: it stays mine. -/
theorem Own.ext {α : Type} [Enc1 α] {E : TypeId} {B : Nat} {M : Nat → Prop} {w w' : World} {v : Value} {xs : List α} (h : Own E B M w v xs) (hE : Ext No w w') : Own E B M w' v xs := by
  refine ⟨h.mine, ?_⟩
  obtain ⟨cells, hr, hc⟩ := h.row
  exact ⟨cells, ownsRow_ext hr hE (fun _ _ x => x), fun k hk => rep_ext (hc k hk) hE.any⟩
/-- Another set of blocks that may be written. -/
theorem Own.to {α : Type} [Enc1 α] {E : TypeId} {B : Nat} {M M' : Nat → Prop} {w w' : World} {v : Value} {xs : List α} (h : Own E B M w v xs) (hk : Keeps M w M' w')
    (hm : ∀ b, v.ownBlock = some b → M' b ∧ w'.heap[b]? = w.heap[b]?) : Own E B M' w' v xs := by
  refine ⟨fun b hb => (hm b hb).1, ?_⟩
  obtain ⟨cells, hr, hc⟩ := h.row
  refine ⟨cells, ⟨hr.1, ?_⟩, fun k hk' => hk.rep (hc k hk')⟩
  rcases hr.2 with h1 | ⟨g, cap, cur, he, hb, hg, hr⟩
  · exact .inl h1
  · exact .inr ⟨g, cap, cur, he, hb, by rw [(hm g (by rw [he]; rfl)).2]; exact hg, hr⟩

theorem cut_get (cells : List Value) (n k j : Nat) (x : Value) (h : (cut cells n k)[j]? = some x) : cells[k * n + j]? = some x := by
  unfold cut at h
  rw [List.getElem?_take] at h
  split at h
  · rw [List.getElem?_drop] at h; exact h
  · simp at h

/-- What is mine, read: it need not be mine any more. -/
theorem Own.sl {α : Type} [i : Enc1 α] {E : TypeId} {B : Nat} {M M' : Nat → Prop} {w : World} {v : Value} {xs : List α} (h : Own E B M w v xs)
    (hf : ∀ b, v.ownBlock = some b → ¬ M' b) (hM : ∀ b, b < w.heap.size → M' b → M b) : Sl M' w v xs := by
  obtain ⟨cells, hr, hc⟩ := h.row
  have hk' : ∀ b, b < w.heap.size → ¬ M b → ¬ M' b ∧ w.heap[b]? = w.heap[b]? := fun b hb hn => ⟨fun x => hn (hM b hb x), rfl⟩
  rcases hr.2 with ⟨rfl, h0⟩ | ⟨g, cap, cur, rfl, hb, hg, hn, hcap, hcur, htake⟩
  · exact ⟨.inl ⟨rfl, h0⟩, by rw [h0]; exact Nat.zero_le _, fun k hk => by omega⟩
  · refine ⟨.inr ⟨_, cap, rfl, hn⟩, by omega, fun k hk => ⟨_, cap, rfl, hf g rfl, _, Enc.rep_ext hk' (hc k hk), fun j x hj => ?_⟩⟩
    have hx := cut_get _ _ _ _ _ hj
    rw [← htake, List.getElem?_take] at hx
    split at hx
    · have : ((⟨g, 0, none⟩ : Addr).add (k * Enc.n α)).add j = ⟨g, k * Enc.n α + j, none⟩ := by
        rw [add_add]; unfold Addr.add; split <;> simp_all
      rw [this]
      simp only [World.cell?, hg]
      simpa using hx
    · simp at hx

/-- A new block of a literal's elements, one element. -/
theorem Sl.lit1 {α : Type} [i : Enc1 α] {M : Nat → Prop} {w : World} {cs : List Value} {x : α} (hr : Enc.rep M w cs x) (E : TypeId) (hM : ∀ b, M b → b < w.heap.size) :
    Sl M (w.alloc (.cells cs.toArray E)) (.slice (some ⟨w.heap.size, 0, none⟩) 1 1) [x] := by
  refine ⟨.inr ⟨_, 1, rfl, by simp⟩, by simp only [maxLen, List.length_singleton]; omega, fun k hk => ⟨_, 1, rfl, fun h => by have := hM _ h; simp at this, cs, ?_, fun j y hj => ?_⟩⟩
  · have : k = 0 := by simp at hk; exact hk
    subst this
    exact rep_ext hr (Ext.alloc (Ext.refl _ _) _)
  · have : k = 0 := by simp at hk; exact hk
    subst this
    have e : ((⟨w.heap.size, 0, none⟩ : Addr).add (0 * Enc.n α)).add j = ⟨w.heap.size, j, none⟩ := by
      rw [add_add]; unfold Addr.add; split <;> simp_all
    rw [e]
    simp only [World.cell?, World.alloc]
    simp
    exact hj

theorem Sl.lit1' {α : Type} [i : Enc1 α] {M : Nat → Prop} {w : World} {cs : List Value} {x : α} (hr : Enc.rep M w cs x) (E : TypeId) (g : Nat) (hg : g = w.heap.size) (hM : ∀ b, M b → b < w.heap.size) :
    Sl M (w.alloc (.cells cs.toArray E)) (.slice (some ⟨g, 0, none⟩) 1 1) [x] := by
  subst hg
  exact Sl.lit1 hr E hM
def AppendOut {α : Type} [Enc1 α] (E : TypeId) (B : Nat) (M : Nat → Prop) (w : World) (v : Value) (xs ys : List α) (v1 : Value) (w1 : World) : Prop :=
  ∃ M1 : Nat → Prop, Own E B M1 w1 v1 (xs ++ ys) ∧ Keeps M w M1 w1 ∧ (∀ b, M b → M1 b) ∧ (∀ b, M1 b → M b ∨ w.heap.size ≤ b) ∧ Ext (fun b => v.ownBlock = some b) w w1 ∧ (∀ b, v1.ownBlock = some b → v.ownBlock = some b ∨ w.heap.size ≤ b)

theorem nth_append_left {α : Type} [Enc α] (xs ys : List α) (k : Nat) (h : k < xs.length) : nth (xs ++ ys) k = nth xs k := by
  simp [nth, List.getD, List.getElem?_append_left h]
theorem nth_append_right {α : Type} [Enc α] (xs ys : List α) (k : Nat) (h : xs.length ≤ k) : nth (xs ++ ys) k = nth ys (k - xs.length) := by
  simp [nth, List.getD, List.getElem?_append_right h]

theorem cut_append_left (a b : List Value) (n k : Nat) (h : (k + 1) * n ≤ a.length) : cut (a ++ b) n k = cut a n k := by
  unfold cut
  have : (k + 1) * n = k * n + n := by rw [Nat.add_mul, Nat.one_mul]
  rw [List.drop_append_of_le_length (by omega), List.take_append_of_le_length (by rw [List.length_drop]; omega)]
theorem cut_append_right (a b : List Value) (n k : Nat) (m : Nat) (ha : a.length = m * n) (h : m ≤ k) : cut (a ++ b) n k = cut b n (k - m) := by
  unfold cut
  have hle : m * n ≤ k * n := Nat.mul_le_mul_right n h
  have hz : a.drop (k * n) = [] := List.drop_eq_nil_of_le (by omega)
  rw [List.drop_append, ha, hz, List.nil_append, Nat.sub_mul]

/-- The cells of what is read, one list. -/
theorem Sl.flat {α : Type} [i : Enc1 α] {M : Nat → Prop} {w : World} {v : Value} {xs : List α} (hs : Sl M w v xs) :
    ∃ cells : List Value, cells.length = xs.length * Enc.n α ∧ (∀ k, k < xs.length → Enc.rep M w (cut cells (Enc.n α) k) (nth xs k)) ∧
      (0 < xs.length → ∃ a cap, v = .slice (some a) xs.length cap ∧ ¬ M a.block ∧ MemAt w a cells) := by
  have hp := i.pos
  have key : ∀ m, m ≤ xs.length → ∃ cells : List Value, cells.length = m * Enc.n α ∧ (∀ k, k < m → Enc.rep M w (cut cells (Enc.n α) k) (nth xs k)) ∧
      (0 < m → ∃ a cap, v = .slice (some a) xs.length cap ∧ ¬ M a.block ∧ MemAt w a cells) := by
    intro m
    induction m with
    | zero => exact fun _ => ⟨[], by simp, fun k hk => absurd hk (by omega), fun h => absurd h (by omega)⟩
    | succ m ih =>
      intro hm
      obtain ⟨cells, hl, hr, ha⟩ := ih (by omega)
      obtain ⟨a, cap, he, hM, cs, hcs, hat⟩ := hs.elem m (by omega)
      have hlc := Enc.rep_len hcs
      refine ⟨cells ++ cs, by rw [List.length_append, hl, hlc, Nat.add_mul, Nat.one_mul], fun k hk => ?_, fun _ => ⟨a, cap, he, hM, fun j x hj => ?_⟩⟩
      · rcases Nat.lt_or_ge k m with h | h
        · rw [cut_append_left _ _ _ _ (by rw [hl]; exact Nat.mul_le_mul_right _ h)]; exact hr k h
        · have : k = m := by omega
          subst this
          rw [cut_append_right _ _ _ _ k hl (Nat.le_refl _), Nat.sub_self]
          have : cut cs (Enc.n α) 0 = cs := by simp [cut, ← hlc]
          rw [this]; exact hcs
      · rcases Nat.lt_or_ge j cells.length with h | h
        · rw [List.getElem?_append_left h] at hj
          rcases Nat.eq_zero_or_pos m with h0 | h0
          · subst h0; simp at hl; subst hl; simp at h
          · obtain ⟨a', cap', he', _, hat'⟩ := ha h0
            rw [he] at he'
            injection he' with e1 e2 e3
            injection e1 with e1
            subst e1
            exact hat' j x hj
        · rw [List.getElem?_append_right h] at hj
          have := hat _ _ hj
          rw [add_add, ← hl] at this
          rwa [Nat.add_sub_cancel' h] at this
  exact key xs.length (Nat.le_refl _)

theorem Own.shape {α : Type} [Enc1 α] {E : TypeId} {B : Nat} {M : Nat → Prop} {w : World} {v : Value} {xs : List α} (h : Own E B M w v xs) : ∃ A c, v = .slice A xs.length c := by
  obtain ⟨cells, hr, _⟩ := h.row
  rcases hr.2 with ⟨rfl, h0⟩ | ⟨g, cap, cur, rfl, _⟩
  · exact ⟨none, 0, by rw [h0]⟩
  · exact ⟨_, cap, rfl⟩
theorem Own.above {α : Type} [Enc1 α] {E : TypeId} {B : Nat} {M : Nat → Prop} {w : World} {v : Value} {xs : List α} (h : Own E B M w v xs) : ∀ b, v.ownBlock = some b → B ≤ b ∧ b < w.heap.size := by
  intro b hb
  obtain ⟨cells, hr, _⟩ := h.row
  rcases hr.2 with ⟨rfl, h0⟩ | ⟨g, cap, cur, rfl, hB, hg, _⟩
  · simp [Value.ownBlock] at hb
  · simp [Value.ownBlock] at hb
    subst hb
    exact ⟨hB, (Array.getElem?_eq_some_iff.1 hg).1⟩
/-- What stands for itself, wherever it lies. -/
class Flat (α : Type) extends Enc1 α where
  flat : ∀ {M M' : Nat → Prop} {w w' : World} {cs : List Value} {x : α}, rep M w cs x → rep M' w' cs x
instance : Flat Int where flat h := h
instance : Flat Bool where flat h := h
instance : Flat ByteArray where flat h := h
instance : Flat Step where flat h := h
instance : Flat Term where flat h := h
instance : Flat Val where flat h := h
theorem Own.flat {α : Type} [i : Flat α] {E : TypeId} {B B' : Nat} {M M' : Nat → Prop} {w w' : World} {v : Value} {xs : List α} (h : Own E B M w v xs)
    (hk : ∀ b, v.ownBlock = some b → M' b ∧ B' ≤ b ∧ w'.heap[b]? = w.heap[b]?) : Own E B' M' w' v xs := by
  refine ⟨fun b hb => (hk b hb).1, ?_⟩
  obtain ⟨cells, hr, hc⟩ := h.row
  refine ⟨cells, ⟨hr.1, ?_⟩, fun k hk' => i.flat (hc k hk')⟩
  rcases hr.2 with h1 | ⟨g, cap, cur, he, hb, hg, hr⟩
  · exact .inl h1
  · have := hk g (by rw [he]; rfl)
    exact .inr ⟨g, cap, cur, he, this.2.1, by rw [this.2.2]; exact hg, hr⟩
theorem Own.low {α : Type} [Enc1 α] {E : TypeId} {B : Nat} {M : Nat → Prop} {w : World} {v : Value} {xs : List α} (h : Own E B M w v xs) {b : Nat} (hb : b < B) : ¬ v.ownBlock = some b :=
  fun e => absurd (h.above b e).1 (Nat.not_le.2 hb)
theorem Own.high {α : Type} [Enc1 α] {E : TypeId} {B : Nat} {M : Nat → Prop} {w : World} {v : Value} {xs : List α} (h : Own E B M w v xs) {b : Nat} (hb : w.heap.size ≤ b) : ¬ v.ownBlock = some b :=
  fun e => absurd (h.above b e).2 (Nat.not_lt.2 hb)
theorem cell_new (w : World) (cs : Array Value) (E : TypeId) (j : Nat) {v : Value} (h : cs[j]? = some v) : (w.alloc (.cells cs E)).cell? ⟨w.heap.size, j, none⟩ = some v := by
  simp only [World.cell?, heap_alloc_new]
  simpa using h
theorem ownBlock_slice (a : Addr) (n c : Nat) : (Value.slice (some a) n c).ownBlock = some a.block := rfl

/-- append(s, x..): s mine, x whatever is read. -/
theorem wpl_append {α : Type} [i : Enc1 α] {P : Program} {ops : Array Oper} {rest : List Oper} {o : Oper} {a : Act} {Q : Exit → Act → World → Prop} {w : World} {M : Nat → Prop}
    (s x : Operand) (t e : TypeId) (ho : o.op = .call { callee := .builtin .append, args := #[s, x], argTypes := #[t, t] }) (hgd : o.guard = none)
    (z : Value) (bytes : Nat) (ht : P.underlying t = some (.slice e)) (hinfo : (P.info? e).map (fun j => (j.zero, j.size, j.bytes)) = some (some z, Enc.n α, bytes)) (hz : z.cells.size = Enc.n α)
    (B : Nat) (v u : Value) (xs ys : List α) (hv : a.eval s = v) (hu : a.eval x = u) (hO : Own e B M w v xs) (hS : Sl M w u ys) (hB : B ≤ w.heap.size)
    (hone : ∀ cs (y : α), Enc.rep M w cs y → ∀ c ∈ cs, c.oneCell' = true)
    (hb0 : 0 < bytes) (hbytes : (xs.length + ys.length) * bytes ≤ 140737488355328)
    (h : ∀ v1 w1, AppendOut e B M w v xs ys v1 w1 → wpList P ops Q rest (a.put o.dst v1) w1) : wpList P ops Q (o :: rest) a w := by
  obtain ⟨inf, hi, hzz⟩ := Option.map_eq_some_iff.1 hinfo
  simp only [Prod.mk.injEq] at hzz
  obtain ⟨hz0, hz1, hz2⟩ := hzz
  obtain ⟨cx, hrow, hcx⟩ := hO.row
  obtain ⟨cy, hly, hcy, hay⟩ := hS.flat
  have hlen : xs.length + ys.length ≤ 140737488355328 := Nat.le_trans (Nat.le_mul_of_pos_right _ hb0) hbytes
  have key : ∀ (ad : Addr) (c : Nat), u = .slice (some ad) ys.length c → (∀ j y, cy[j]? = some y → w.cell? (ad.add j) = some y) → wpList P ops Q (o :: rest) a w := by
    intro ad c hue had
    refine wpList_append_own_at w hgd s x t ho B e inf z (Enc.n α) bytes ht hi hz0 hz1 hz2 hz i.pos v xs.length cx hv hrow ad ys.length c cy (by rw [hu, hue]) hly had ?_ (by simp only [maxLen]; omega) hbytes hB ?_
    · intro y hy
      obtain ⟨q, hq, rfl⟩ := List.getElem_of_mem hy
      have hp := i.pos
      have hd : q / Enc.n α < ys.length := by rw [Nat.div_lt_iff_lt_mul hp, ← hly]; exact hq
      refine hone _ _ (hcy _ hd) _ ?_
      have hm : q % Enc.n α < Enc.n α := Nat.mod_lt _ hp
      have hqe : q / Enc.n α * Enc.n α + q % Enc.n α = q := Nat.div_add_mod' q (Enc.n α)
      unfold cut
      refine List.mem_of_getElem? (i := q % Enc.n α) ?_
      rw [List.getElem?_take, if_pos hm, List.getElem?_drop, hqe, List.getElem?_eq_getElem hq]
    · intro v1 w1 hown hg _ hat
      refine h v1 w1 ⟨fun b => M b ∨ v1.ownBlock = some b, ⟨fun b hb => .inr hb, cx ++ cy, by rw [List.length_append]; exact hown, fun k hk => ?_⟩, ?_, fun b hb => .inl hb, ?_, Ext.of_grown hg, ?_⟩
      · have hK : ∀ b, b < w.heap.size → ¬ M b → ¬ (M b ∨ v1.ownBlock = some b) ∧ w1.heap[b]? = w.heap[b]? := by
          intro b hb hm
          refine ⟨?_, hg.block b hb fun hx => hm (hO.mine b hx.symm)⟩
          rintro (hx | hx)
          · exact hm hx
          · rcases hat with hat | hat
            · exact hm (hO.mine b (hat.symm.trans hx))
            · rw [hat] at hx; injection hx with hx; omega
        have hlx : cx.length = xs.length * Enc.n α := hrow.1
        rw [List.length_append] at hk
        rcases Nat.lt_or_ge k xs.length with hkx | hkx
        · rw [nth_append_left _ _ _ hkx, cut_append_left _ _ _ _ (by rw [hlx]; exact Nat.mul_le_mul_right _ hkx)]
          exact Enc.rep_ext hK (hcx k hkx)
        · rw [nth_append_right _ _ _ hkx, cut_append_right _ _ _ _ _ hlx hkx]
          exact Enc.rep_ext hK (hcy _ (by omega))
      · refine ⟨hg.size, fun b hb hm => ?_⟩
        refine ⟨?_, hg.block b hb fun hx => hm (hO.mine b hx.symm)⟩
        rintro (hx | hx)
        · exact hm hx
        · rcases hat with hat | hat
          · exact hm (hO.mine b (hat.symm.trans hx))
          · rw [hat] at hx; injection hx with hx; omega
      · rintro b (hb | hb)
        · exact .inl hb
        · rcases hat with hat | hat
          · exact .inl (hO.mine b (hat.symm.trans hb))
          · rw [hat] at hb; injection hb with hb; exact .inr (by omega)
      · intro b hb
        rcases hat with hat | hat
        · exact .inl (hat.symm.trans hb)
        · rw [hat] at hb; injection hb with hb; exact .inr (by omega)
  rcases Nat.eq_zero_or_pos ys.length with h0 | h0
  · have hcy0 : cy = [] := List.eq_nil_of_length_eq_zero (by rw [hly, h0, Nat.zero_mul])
    rcases hS.kind with ⟨hA, _⟩ | ⟨ad, c, hA, _⟩
    · have hy0 : ys = [] := List.eq_nil_of_length_eq_zero h0
      subst hy0
      refine wpList_append_own_none hgd s x t ho B e inf (Enc.n α) ht hi v xs.length cx hv hrow (hu.trans hA) (h v w ⟨M, ?_, Keeps.refl _ _, fun _ h => h, fun _ h => .inl h, Ext.refl _ _, fun _ h => .inl h⟩)
      rw [List.append_nil]; exact hO
    · exact key ad c hA (fun j y hj => by rw [hcy0] at hj; simp at hj)
  · obtain ⟨ad, c, hue, _, had⟩ := hay h0
    exact key ad c hue had

end Go.Proofs.An
