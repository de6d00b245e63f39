/-
  antecedentlaw14.awake.
-/
import Derived.Test.YtjdmpockaflcnaaGreatDoorBuild
import Derived.Test.YtjdmpockaflcnaaGreatDoorWalks
namespace Go.Proofs.An
open Go.RowKit
def stepCells (x : Step) : List Value := [.int .i64 x.kind, .string x.label]
theorem step_at (xs : List Step) (k j : Nat) (hk : k < xs.length) (hj : j < 2) : (xs.flatMap stepCells)[k * 2 + j]? = (stepCells xs[k])[j]? := by
  induction xs generalizing k with
  | nil => simp at hk
  | cons x xs ih =>
    rw [List.flatMap_cons]
    cases k with
    | zero => rw [List.getElem?_append_left (by simp [stepCells]; omega)]; simp
    | succ k =>
      rw [List.getElem?_append_right (by simp [stepCells]; omega)]
      have : (k + 1) * 2 + j - (stepCells x).length = k * 2 + j := by simp [stepCells]; omega
      rw [this, ih k (by simpa using hk)]
      simp
theorem Sl.steps {M : Nat → Prop} {w : World} (g : Nat) (hg : g = w.heap.size) (hM : ∀ b, M b → b < w.heap.size) (xs : List Step) (n : Nat) (hn : n = xs.length) (cs : Array Value) (E : TypeId) (hcs : cs.toList = xs.flatMap stepCells) (hx : ∀ x ∈ xs, x.label.size ≤ maxLen ∧ I64 x.kind) (hs : xs.length ≤ maxLen) :
    Sl M (w.alloc (.cells cs E)) (.slice (some ⟨g, 0, none⟩) n n) xs := by
  subst hg hn
  refine ⟨.inr ⟨_, xs.length, rfl, Nat.le_refl _⟩, hs, fun k hk => ⟨_, xs.length, rfl, fun h => by have := hM _ h; simp at this, stepCells (nth xs k), ⟨rfl, ?_⟩, fun j y hj => ?_⟩⟩
  · rw [nth_eq _ _ hk]; exact hx _ (List.getElem_mem hk)
  · have hj2 : j < 2 := by
      have := (List.getElem?_eq_some_iff.1 hj).1
      simpa [stepCells] using this
    have e : ((⟨w.heap.size, 0, none⟩ : Addr).add (k * Enc.n Step)).add j = ⟨w.heap.size, k * 2 + j, none⟩ := by
      rw [add_add]; show (⟨w.heap.size, 0, none⟩ : Addr).add (k * 2 + j) = _; unfold Addr.add; split <;> simp_all
    rw [e]
    refine cell_new w cs E _ ?_
    rw [← Array.getElem?_toList, hcs, step_at xs k j hk hj2, ← nth_eq _ _ hk]
    exact hj
/-- What Build hands back, to be read. -/
theorem auto_is {xs : List Step} (hR : rightB xs = true) {w : World} {lv f l fv : Value} (h1 : Sl No w lv (built xs).ls) (h2 : Sl No w f (nth (built xs).st 0).first) (h3 : Sl No w l (nth (built xs).st 0).last) (h4 : Sl No w fv (built xs).fs) :
    AutoIs No w lv f l fv (built xs).ls (nth (built xs).st 0).first (nth (built xs).st 0).last (built xs).fs := by
  obtain ⟨hl, hi, hb, hs, _⟩ := right_end hR
  exact ⟨h1, h2, h3, h4, hi.len, by omega, hi.good, hi.first 0 (by omega), hi.last 0 (by omega), Nat.le_trans (hi.firstLen 0 (by omega)) (by omega), Nat.le_trans (hi.lastLen 0 (by omega)) (by omega)⟩
def stA : Step := ⟨1, ⟨#[97]⟩⟩
def stB : Step := ⟨1, ⟨#[98]⟩⟩
def pathA : List Step := [stA, stB, ⟨4, ByteArray.empty⟩, ⟨5, ByteArray.empty⟩, stA, ⟨3, ByteArray.empty⟩]
theorem pathA_right : rightB pathA = true := by decide +kernel
theorem pathA_ls : (built pathA).ls = [stA, stB, stA] := by decide +kernel
theorem pathA_first : (nth (built pathA).st 0).first = [0, 1, 2] := by decide +kernel
theorem pathA_last : (nth (built pathA).st 0).last = [2] := by decide +kernel
theorem pathA_empty : (nth (built pathA).st 0).empty = false := by decide +kernel
theorem j1 : join1 [] [0, 1] = [0, 1] := by simp [join1, srt, List.mergeSort]; decide
theorem j2 : join1 [0, 1] [2] = [0, 1, 2] := by simp [join1, srt, List.mergeSort]; decide
theorem pathA_fs : (built pathA).fs = [[0, 1, 2], [0, 1, 2], []] := by
  have e : (built pathA).fs = thenF (thenF [[], []] [0, 1] [0, 1] ++ [[]]) [0, 1] [2] := by rfl
  rw [e]
  simp only [thenF, thenStep, List.foldl_cons, List.foldl_nil]
  simp [j1, j2]
theorem s012 : Lib.compact (srt [0, 1, 2]) = [0, 1, 2] := by simp [srt, List.mergeSort]; decide
theorem pathA_ba : walksM [stA, stB, stA] [0, 1, 2] [2] [[0, 1, 2], [0, 1, 2], []] false [stB, stA] = true := by
  have e1 : (atPl [stA, stB, stA] [0, 1, 2] stB).flatMap (follow [[0, 1, 2], [0, 1, 2], []]) = [0, 1, 2] := by decide +kernel
  have e2 : nextPl [stA, stB, stA] [[0, 1, 2], [0, 1, 2], []] [0, 1, 2] stB = [0, 1, 2] := by unfold nextPl; rw [e1]; exact s012
  show ((atPl [stA, stB, stA] (nextPl [stA, stB, stA] [[0, 1, 2], [0, 1, 2], []] [0, 1, 2] stB) stA).any fun i => [(2 : Int)].contains i) = true
  rw [e2]
  decide +kernel
theorem pathA_ab : walksM [stA, stB, stA] [0, 1, 2] [2] [[0, 1, 2], [0, 1, 2], []] false [stA, stB] = false := by
  have e1 : (atPl [stA, stB, stA] [0, 1, 2] stA).flatMap (follow [[0, 1, 2], [0, 1, 2], []]) = [0, 1, 2] := by decide +kernel
  have e2 : nextPl [stA, stB, stA] [[0, 1, 2], [0, 1, 2], []] [0, 1, 2] stA = [0, 1, 2] := by unfold nextPl; rw [e1]; exact s012
  show ((atPl [stA, stB, stA] (nextPl [stA, stB, stA] [[0, 1, 2], [0, 1, 2], []] [0, 1, 2] stA) stB).any fun i => [(2 : Int)].contains i) = false
  rw [e2]
  decide +kernel
theorem pathA_count : countM 3 [0, 1, 2] [2] [[0, 1, 2], [0, 1, 2], []] 1 = 1 := by decide +kernel
theorem stA_ok : stA.label.size ≤ maxLen ∧ I64 stA.kind := ⟨by decide, by unfold I64; decide⟩
theorem stB_ok : stB.label.size ≤ maxLen ∧ I64 stB.kind := ⟨by decide, by unfold I64; decide⟩
theorem pathA_ok : ∀ x ∈ pathA, x.label.size ≤ maxLen ∧ I64 x.kind := by
  intro x hx
  simp only [pathA, List.mem_cons, List.not_mem_nil, or_false] at hx
  rcases hx with rfl | rfl | rfl | rfl | rfl | rfl <;> exact ⟨by decide, by unfold I64; decide⟩
theorem two_ok (x y : Step) (h1 : x.label.size ≤ maxLen ∧ I64 x.kind) (h2 : y.label.size ≤ maxLen ∧ I64 y.kind) : ∀ z ∈ [x, y], z.label.size ≤ maxLen ∧ I64 z.kind := by
  intro z hz
  simp only [List.mem_cons, List.not_mem_nil, or_false] at hz
  rcases hz with rfl | rfl
  · exact h1
  · exact h2
set_option maxRecDepth 100000 in
set_option maxHeartbeats 3200000 in
theorem awake_any (w : World) : Calls Tryz.prog 9 #[] w fun e w' => e = .returned (.bool true) ∧ Ext No w w' := by
  have HB := fun W v h => Lib.hid (build_right No W v pathA h pathA_right)
  have HI := fun W lv f l fv => auto_is (w := W) (lv := lv) (f := f) (l := l) (fv := fv) pathA_right
  rw [pathA_ls, pathA_first, pathA_last, pathA_fs] at HI
  rw [pathA_ls, pathA_first, pathA_last, pathA_fs, pathA_empty] at HB
  have HB' := Lib.hid HB
  have HI' := Lib.hid HI
  clear HB HI
  go_enter Tryz.func9, Tryz.ntmps9
  go_wp2_with (first
    | (go_at_call 10; go_loud (
       refine ((HB'.out _ _ (Sl.steps _ (by simp) (fun b h => h.elim) pathA 6 rfl #[.int .i64 1, .string ⟨#[97]⟩, .int .i64 1, .string ⟨#[98]⟩, .int .i64 4, .string ⟨#[]⟩, .int .i64 5, .string ⟨#[]⟩, .int .i64 1, .string ⟨#[97]⟩, .int .i64 3, .string ⟨#[]⟩] _ rfl pathA_ok (by decide))).out).mono ?_
       rintro e w1 ⟨hE1, lv, f, l, fv, rfl, h1, h2, h3, h4⟩
       have hI := HI'.out w1 lv f l fv h1 h2 h3 h4
       obtain ⟨Al, cl, rfl⟩ := h1.form
       obtain ⟨Af, cf, rfl⟩ := h2.form
       obtain ⟨Aq, cq, rfl⟩ := h3.form
       obtain ⟨Av, cv, rfl⟩ := h4.form
       obtain ⟨g0, g1, g2, gs⟩ := three_objs w (.cells #[.int .i64 1, .string ⟨#[97]⟩] 64) (.cells #[.int .i64 1, .string ⟨#[98]⟩] 64) (.cells #[.int .i64 1, .string ⟨#[97]⟩, .int .i64 1, .string ⟨#[98]⟩, .int .i64 4, .string ⟨#[]⟩, .int .i64 5, .string ⟨#[]⟩, .int .i64 1, .string ⟨#[97]⟩, .int .i64 3, .string ⟨#[]⟩] 64)
       have k0 : w1.heap[w.heap.size]? = some _ := (hE1.block _ (by omega) id).trans g0
       have k1 : w1.heap[w.heap.size + 1]? = some _ := (hE1.block _ (by omega) id).trans g1
       have a0 : ∀ W, Ext No w1 W → W.cell? ⟨w.heap.size, 0, none⟩ = some (.int .i64 1) := fun W hW => hW.cell id (by simp [World.cell?, k0])
       have a1 : ∀ W, Ext No w1 W → W.cell? ⟨w.heap.size, 1, none⟩ = some (.string ⟨#[97]⟩) := fun W hW => hW.cell id (by simp [World.cell?, k0])
       have b0 : ∀ W, Ext No w1 W → W.cell? ⟨w.heap.size + 1, 0, none⟩ = some (.int .i64 1) := fun W hW => hW.cell id (by simp [World.cell?, k1])
       have b1 : ∀ W, Ext No w1 W → W.cell? ⟨w.heap.size + 1, 1, none⟩ = some (.string ⟨#[98]⟩) := fun W hW => hW.cell id (by simp [World.cell?, k1])))
    | (go_at_call 27; have hk2 := hE2; go_loud (
       refine (walks_any No No (w2.alloc (.cells #[.int .i64 1, .string ⟨#[97]⟩, .int .i64 1, .string ⟨#[98]⟩] 64)) (.slice Al 3 cl) (.slice Af 3 cf) (.slice Aq 1 cq) (.slice Av 3 cv) (.slice (some ⟨w2.heap.size, 0, none⟩) 2 2) false [stA, stB, stA] [0, 1, 2] [2] [[0, 1, 2], [0, 1, 2], []] [stA, stB] (by decide) (hI.ext (hE2.trans (Ext.alloc (Ext.refl _ _) _)).any)
         (Sl.steps _ (by simp) (fun b h => h.elim) [stA, stB] 2 rfl #[.int .i64 1, .string ⟨#[97]⟩, .int .i64 1, .string ⟨#[98]⟩] _ rfl (two_ok _ _ stA_ok stB_ok) (by decide))).mono ?_
       rintro e w3 ⟨rfl, hE3⟩
       rw [pathA_ab]
       have hE3 : Ext No w2 w3 := (Ext.alloc (Ext.refl _ _) _).trans hE3
       obtain ⟨d0, d1, d2, d3, d4⟩ := five ((hE3.block _ hlt2 id).trans kA)))
    | (go_at_call 27; go_loud (
       refine (walks_any No No ((w1.alloc (.cells #[.slice Al 3 cl, .slice Af 3 cf, .slice Aq 1 cq, .slice Av 3 cv, .bool false] 27)).alloc (.cells #[.int .i64 1, .string ⟨#[98]⟩, .int .i64 1, .string ⟨#[97]⟩] 64)) (.slice Al 3 cl) (.slice Af 3 cf) (.slice Aq 1 cq) (.slice Av 3 cv) (.slice (some ⟨w1.heap.size + 1, 0, none⟩) 2 2) false [stA, stB, stA] [0, 1, 2] [2] [[0, 1, 2], [0, 1, 2], []] [stB, stA] (by decide) (hI.ext ((Ext.alloc (Ext.refl _ _) _).alloc _))
         (Sl.steps _ (by simp) (fun b h => h.elim) [stB, stA] 2 rfl #[.int .i64 1, .string ⟨#[98]⟩, .int .i64 1, .string ⟨#[97]⟩] _ rfl (two_ok _ _ stB_ok stA_ok) (by decide))).mono ?_
       rintro e w2 ⟨rfl, hE2⟩
       rw [pathA_ba]
       obtain ⟨kA, -, kn⟩ := two_objs w1 (.cells #[.slice Al 3 cl, .slice Af 3 cf, .slice Aq 1 cq, .slice Av 3 cv, .bool false] 27) (.cells #[.int .i64 1, .string ⟨#[98]⟩, .int .i64 1, .string ⟨#[97]⟩] 64)
       have kA : w2.heap[w1.heap.size]? = some _ := (hE2.block _ (by omega) id).trans kA
       have hlt2 : w1.heap.size < w2.heap.size := by have := hE2.size; omega
       have hE2 : Ext No w1 w2 := ((Ext.alloc (Ext.refl _ _) _).alloc _).trans hE2
       obtain ⟨c0, c1, c2, c3, c4⟩ := five kA
       have a0 := a0 w2 hE2
       have a1 := a1 w2 hE2
       have b0 := b0 w2 hE2
       have b1 := b1 w2 hE2))
    | (go_at_call 11; go_loud (
       refine (count_any No w3 (.slice Al 3 cl) (.slice Af 3 cf) (.slice Aq 1 cq) (.slice Av 3 cv) false [stA, stB, stA] [0, 1, 2] [2] [[0, 1, 2], [0, 1, 2], []] 1 ⟨by decide, by decide⟩ (hI.ext (hE2.trans hE3).any)).mono ?_
       rintro e w4 ⟨rfl, hE4⟩
       rw [show [stA, stB, stA].length = 3 from rfl, pathA_count])))
  go_ret
  exact ⟨rfl, (((((Ext.alloc (Ext.refl No w) _).alloc _).alloc _).trans hE1).trans ((hE2.trans hE3).trans hE4))⟩
end Go.Proofs.An
