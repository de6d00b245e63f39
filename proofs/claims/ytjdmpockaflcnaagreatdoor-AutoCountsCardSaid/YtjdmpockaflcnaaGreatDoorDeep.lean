/-
  parse.Deep on a text of words and marks.
-/
import Derived.Test.YtjdmpockaflcnaaGreatDoorTokens
namespace Go.Proofs.An
open Go.RowKit
def deepStep (st : Int × Int) (t : List UInt8) : Int × Int :=
  let o := if t = [40] then st.1 + 1 else if t = [41] then max 0 (st.1 - 1) else st.1
  (o, max st.2 o)
def deepTs (ts : List (List UInt8)) : Int × Int := ts.foldl deepStep (0, 0)
theorem deepTs_snoc (ts : List (List UInt8)) (t : List UInt8) : deepTs (ts ++ [t]) = deepStep (deepTs ts) t := by simp [deepTs]
theorem deep_fold (ts : List (List UInt8)) : ∀ (st : Int × Int) (n : Int), 0 ≤ st.1 → st.1 ≤ st.2 → st.2 ≤ n → 0 ≤ (ts.foldl deepStep st).1 ∧ (ts.foldl deepStep st).1 ≤ (ts.foldl deepStep st).2 ∧ (ts.foldl deepStep st).2 ≤ n + ts.length := by
  induction ts with
  | nil => intro st n h1 h2 h3; exact ⟨h1, h2, by simpa using h3⟩
  | cons t ts ih =>
    intro st n h1 h2 h3
    have h : 0 ≤ (deepStep st t).1 ∧ (deepStep st t).1 ≤ (deepStep st t).2 ∧ (deepStep st t).2 ≤ n + 1 := by
      simp only [deepStep]
      split
      · omega
      · split <;> omega
    have := ih (deepStep st t) (n + 1) h.1 h.2.1 h.2.2
    simp only [List.foldl_cons, List.length_cons]
    omega
theorem deepTs_range (ts : List (List UInt8)) : 0 ≤ (deepTs ts).1 ∧ (deepTs ts).1 ≤ (deepTs ts).2 ∧ (deepTs ts).2 ≤ ts.length := by
  have := deep_fold ts (0, 0) 0 (by simp) (by simp) (by simp)
  simpa [deepTs] using this
theorem toList_bl (s : ByteArray) : s.toList = bl s := ByteArray.toList_eq s
set_option maxRecDepth 100000 in
set_option maxHeartbeats 1600000 in
theorem deep_any (s : ByteArray) (ts : List (List UInt8)) (w : World) (hs : s.size ≤ 20000) (hts : GoodTs ts) (he : bl s = ts.flatten) (hl : ts.length ≤ 20000) :
    Calls Tryz.prog 125 #[.string s] w fun e w' => e = .returned (.int .i64 (deepTs ts).2) ∧ Ext No w w' := by
  have HT := Lib.hid (tokens_any s ts w hs hts he)
  clear he hts
  go_enter Tryz.func125, Tryz.ntmps125
  go_wp2_with (go_at_call 157; refine HT.out.mono ?_; rintro e w1 ⟨v, toks, rfl, hE1, hO, hm⟩
               have hS := hO.sl (M' := No) (fun _ _ h => h) (fun _ _ h => h.elim)
               have l1 := hS.len_rule (P := Tryz.prog) 195 (by kernel_rfl)
               have i1 := hS.idx_rule (P := Tryz.prog) 195 (by kernel_rfl) (by kernel_rfl)
               have hlen : toks.length ≤ 20000 := by rw [← hm] at hl; simpa using hl
               have HM := Lib.hid hm
               clear hm)
  go_loopw [6, 7, 18] (fun t6 t7 i wr => ∃ (j : Nat) (o m : Int), j ≤ toks.length ∧ i = .int .i64 j ∧ t6 = .int .i64 o ∧ t7 = .int .i64 m ∧ 0 ≤ o ∧ o ≤ m ∧ m ≤ j ∧ Ext No w1 wr ∧ Hid (deepTs (ts.take j) = (o, m))) (fun _ _ i _ => toks.length - (intOf i).toNat)
  case atStart => exact ⟨0, 0, 0, Nat.zero_le _, rfl, rfl, rfl, by omega, by omega, by omega, Ext.refl _ _, rfl⟩
  case round =>
    obtain ⟨j, o, m, hj, rfl, rfl, rfl, ho, hom, hm, hE, hd⟩ := hrel
    by_cases hlt : j < toks.length
    · obtain ⟨cs, ⟨rfl, hsz⟩, p0, p1⟩ := hS.cells j hlt
      have p2 := p1 2 (by decide) _ rfl
      have p1 := p1 1 (by decide) _ rfl
      have p0 := p0 _ rfl
      have htx : ts[j]? = some (bl (nth toks j).text) := by
        rw [← HM.out, nth_eq _ _ hlt]; simp [List.getElem?_eq_getElem hlt]
      have hnext : deepTs (ts.take (j + 1)) = deepStep (o, m) (bl (nth toks j).text) := by
        have hjl : j < ts.length := (List.getElem?_eq_some_iff.1 htx).1
        have : ts[j] = bl (nth toks j).text := (List.getElem?_eq_some_iff.1 htx).2
        rw [List.take_succ_eq_append_getElem hjl, deepTs_snoc, hd.out, this]
      have HX := Lib.hid hnext
      clear hnext htx
      by_cases h40 : bl (nth toks j).text = [40]
      · have e40 : ((nth toks j).text.toList == [40]) = true := by rw [toList_bl, h40]; rfl
        rw [h40] at HX
        have H40 := Lib.hid h40; clear h40
        go_wp2
        exact ⟨⟨j + 1, o + 1, max m (o + 1), by omega, by go_num, rfl, rfl, by omega, by omega, by omega, hE.alloc _, by show _ = _; rw [HX.out]; simp [deepStep]⟩, by simp [intOf]; omega⟩
      · have e40 : ((nth toks j).text.toList == [40]) = false := by rw [toList_bl]; simpa using h40
        by_cases h41 : bl (nth toks j).text = [41]
        · have e41 : ((nth toks j).text.toList == [41]) = true := by rw [toList_bl, h41]; rfl
          rw [h41] at HX
          have H40 := Lib.hid h40; have H41 := Lib.hid h41; clear h40 h41
          go_wp2
          exact ⟨⟨j + 1, max 0 (o - 1), max m (max 0 (o - 1)), by omega, by go_num, rfl, rfl, by omega, by omega, by omega, hE.alloc _, by show _ = _; rw [HX.out]; simp [deepStep]⟩, by simp [intOf]; omega⟩
        · have e41 : ((nth toks j).text.toList == [41]) = false := by rw [toList_bl]; simpa using h41
          have H40 := Lib.hid h40; have H41 := Lib.hid h41; clear h40 h41
          go_wp2
          exact ⟨⟨j + 1, o, max m o, by omega, by go_num, rfl, rfl, by omega, by omega, by omega, hE.alloc _, by show _ = _; rw [HX.out]; simp [deepStep, H40.out, H41.out]⟩, by simp [intOf]; omega⟩
    · go_wp2
      go_ret
      have e : j = toks.length := by omega
      have hts : ts.take j = ts := List.take_of_length_le (by rw [e, ← HM.out]; simp)
      have hd := hd.out
      rw [hts] at hd
      exact ⟨ret_int (by rw [hd]), hE1.trans hE⟩
end Go.Proofs.An
