/-
  What an argument reads as: a slice of steps.
-/
import Derived.Test.YtjdmpockaflcnaaGreatDoorAwake14
import Derived.WalkKit
import Derived.ProofKit
import Derived.OpenShut
import Derived.Carry
namespace Go.Proofs.An
open Go.RowKit Go.ChangeShapes Go.WideShapes Go.ChangeAt
theorem wf_i64 {n : Int} (h : (Lit.int .i64 n).wf = true) : I64 n := by
  unfold I64
  simpa [Lit.wf, IntKind.min, IntKind.max, IntKind.signed, IntKind.bits] using h
theorem sl_of {α : Type} [i : Enc1 α] {M : Nat → Prop} {w : World} {a : Addr} {len cap : Nat} (hl : len ≤ cap) (hm : cap ≤ maxLen) (hM : ¬ M a.block) (h : ∀ k, k < len → ∃ (x : α) (cs : List Value), Enc.rep M w cs x ∧ MemAt w (a.add (k * Enc.n α)) cs) :
    ∃ xs : List α, Sl M w (.slice (some a) len cap) xs := by
  classical
  have key : ∀ m, m ≤ len → ∃ xs : List α, xs.length = m ∧ ∀ k, k < m → ∃ cs, Enc.rep M w cs (nth xs k) ∧ MemAt w (a.add (k * Enc.n α)) cs := by
    intro m
    induction m with
    | zero => exact fun _ => ⟨[], rfl, fun k hk => absurd hk (by omega)⟩
    | succ m ih =>
      intro hle
      obtain ⟨xs, h1, h2⟩ := ih (by omega)
      obtain ⟨x, cs, h3, h4⟩ := h m (by omega)
      refine ⟨xs ++ [x], by simp [h1], fun k hk => ?_⟩
      rcases Nat.lt_or_ge k m with hkm | hkm
      · obtain ⟨cs', h5, h6⟩ := h2 k hkm
        exact ⟨cs', by rw [nth_append_left _ _ _ (by omega)]; exact h5, h6⟩
      · have : k = m := by omega
        subst this
        refine ⟨cs, ?_, h4⟩
        rw [nth_append_right _ _ _ (by omega), h1, Nat.sub_self]
        exact h3
  obtain ⟨xs, h1, h2⟩ := key len (Nat.le_refl _)
  refine ⟨xs, .inr ⟨a, cap, by rw [h1], by omega⟩, by omega, fun k hk => ?_⟩
  obtain ⟨cs, h3, h4⟩ := h2 k (by omega)
  exact ⟨a, cap, by rw [h1], hM, cs, h3, h4⟩
theorem mem_of_cells {w : World} {base : Nat} {a : Addr} {n : Nat} {cs : List Value} (h : w.cells? base a n = some cs) : MemAt w a cs := by
  obtain ⟨_, hl, hc⟩ := World.cells?_some h
  intro j v hj
  have := (List.getElem?_eq_some_iff.1 hj).1
  rw [hc j (by omega), hj]
theorem cells_step : Tryz.prog.cellsOf 64 = 2 := by kernel_rfl
theorem cells_int : Tryz.prog.cellsOf 3 = 1 := by kernel_rfl
theorem cells_string : Tryz.prog.cellsOf 9 = 1 := by kernel_rfl
set_option maxRecDepth 100000 in
theorem read_step {H : Type} {enc : TypeId × Value → H} {W : World} {base : Nat} {spare : Nat → Bool} {held : Bool} {n : Nat} {cs : List Value} {y : DataW H × List MemPlace} (h : DataW.trod enc Tryz.prog W base spare held n 64 cs = some y) (M : Nat → Prop) (w : World) :
    ∃ x : Step, Enc.rep M w cs x := by
  obtain ⟨y0, y1, n', _, hl, h0, h1⟩ := trod_struct2 Tryz.underlying64 h
  rw [cells_step] at hl
  simp only [] at h0 h1
  rw [cells_int] at h0
  rw [cells_string] at h1
  match cs, hl with
  | [c0, c1], _ =>
    obtain ⟨k, e0, _, hk⟩ := DataW.trod_int Tryz.underlying3 h0
    obtain ⟨s, e1, _, hs⟩ := DataW.trod_string Tryz.underlying9 h1
    simp at e0 e1
    subst e0 e1
    exact ⟨⟨k, s⟩, rfl, hs, wf_i64 hk⟩
set_option maxRecDepth 100000 in
theorem read_steps {H : Type} {enc : TypeId × Value → H} {W : World} {base b0 : Nat} {spare : Nat → Bool} {held : Bool} {v : Value} {d : DataW H} {ps : List MemPlace} (hv : Value.okWide Tryz.prog W .any b0 22 v) (h : DataW.Trod enc Tryz.prog W base spare held 22 v d ps) :
    ∃ xs : List Step, Sl No W v xs := by
  obtain ⟨a0, len, cap, rfl⟩ := okWide_slice Tryz.underlying22 hv
  obtain ⟨fuel, hf⟩ := h
  rcases DataW.trod_slice Tryz.underlying22 hf with ⟨hc, _⟩ | ⟨a, len', cap', elems, rest, n, rfl, hcs, hx, hb, hl, hm, hlen, hel, _, _⟩
  · simp [Value.cells] at hc
    obtain ⟨rfl, rfl, rfl⟩ := hc
    exact ⟨[], .inl ⟨rfl, rfl⟩, Nat.zero_le _, fun k hk => absurd hk (by simp)⟩
  · simp [Value.cells] at hcs
    obtain ⟨rfl, rfl, rfl⟩ := hcs
    refine sl_of hl hm id fun k hk => ?_
    have hE := hel k hk
    rw [cells_step, List.getElem?_eq_getElem (show k < elems.length by omega)] at hE
    simp only [Option.bind_eq_some_iff] at hE
    obtain ⟨cs, hc1, hy1⟩ := hE
    obtain ⟨x, hx⟩ := read_step hy1 No W
    exact ⟨x, cs, hx, mem_of_cells hc1⟩
end Go.Proofs.An
