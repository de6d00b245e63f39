/-
  auto.Count as a function of lists, and what it counts.
-/
import Derived.Test.YtjdmpockaflcnaaGreatDoorAutoFold
namespace Go.Proofs.An
open Go.RowKit
def bump (v : Int) (nx : List Int) (k : Int) : List Int := nx.set k.toNat (min 1000000 (nx.getD k.toNat 0 + v))
def zeros' (n : Nat) : List Int := List.replicate n 0
def nextTo (fs : List (List Int)) (row : List Int) (m : Nat) : List Int := (List.range m).foldl (fun nx i => (fs.getD i []).foldl (bump (row.getD i 0)) nx) (zeros' row.length)
def row0 (n : Nat) (first : List Int) : List Int := first.foldl (fun r i => r.set i.toNat 1) (zeros' n)
def tally (row : List Int) (last : List Int) (n : Int) : Int := last.foldl (fun n i => n + row.getD i.toNat 0) n
def crow (fs : List (List Int)) (r : List Int) : Nat → List Int
  | 0 => r
  | t + 1 => nextTo fs (crow fs r t) fs.length
def ctally (fs : List (List Int)) (last r : List Int) : Nat → Int
  | 0 => 0
  | t + 1 => min 1000000 (tally (crow fs r t) last (ctally fs last r t))
def countM (n : Nat) (first last : List Int) (fs : List (List Int)) (most : Int) : Int := ctally fs last (row0 n first) (max 0 (min most 8)).toNat

def Small (l : List Int) : Prop := ∀ k, 0 ≤ l.getD k 0 ∧ l.getD k 0 ≤ 1000000
theorem getD_set (l : List Int) (k q : Nat) (y : Int) : (l.set k y).getD q 0 = if q = k ∧ k < l.length then y else l.getD q 0 := by
  rw [List.getD_eq_getElem?_getD, List.getD_eq_getElem?_getD, List.getElem?_set]
  by_cases e : k = q
  · subst e
    by_cases h : k < l.length
    · simp [h]
    · simp [h]
  · rw [if_neg e, if_neg (fun h => e h.1.symm)]
theorem Small.zeros (n : Nat) : Small (zeros' n) := fun k => by
  have : (zeros' n).getD k 0 = 0 := by
    rw [List.getD_eq_getElem?_getD, zeros', List.getElem?_replicate]
    split <;> rfl
  omega
theorem Small.bump {l : List Int} (h : Small l) {v : Int} (hv : 0 ≤ v) (k : Int) : Small (bump v l k) := fun q => by
  unfold An.bump
  rw [getD_set]
  split
  · have := h k.toNat; omega
  · exact h q
theorem bump_length (v : Int) (l : List Int) (k : Int) : (bump v l k).length = l.length := by simp [bump]
theorem bumps_length (v : Int) (ks : List Int) : ∀ l, (ks.foldl (bump v) l).length = l.length := by
  induction ks with
  | nil => intro l; rfl
  | cons k ks ih => intro l; rw [List.foldl_cons, ih, bump_length]
theorem Small.bumps {v : Int} (hv : 0 ≤ v) (ks : List Int) : ∀ {l : List Int}, Small l → Small (ks.foldl (An.bump v) l) := by
  induction ks with
  | nil => intro l h; exact h
  | cons k ks ih => intro l h; exact ih (h.bump hv k)
theorem nextTo_succ (fs : List (List Int)) (row : List Int) (m : Nat) : nextTo fs row (m + 1) = (fs.getD m []).foldl (bump (row.getD m 0)) (nextTo fs row m) := by
  simp [nextTo, List.range_succ]
theorem nextTo_length (fs : List (List Int)) (row : List Int) (m : Nat) : (nextTo fs row m).length = row.length := by
  induction m with
  | zero => simp [nextTo, zeros']
  | succ m ih => rw [nextTo_succ, bumps_length, ih]
theorem Small.nextTo {fs : List (List Int)} {row : List Int} (h : Small row) (m : Nat) : Small (nextTo fs row m) := by
  induction m with
  | zero => exact Small.zeros _
  | succ m ih => rw [nextTo_succ]; exact Small.bumps (h m).1 _ ih
theorem row0_aux (ks : List Int) : ∀ l, Small l → (ks.foldl (fun r i => r.set i.toNat 1) l).length = l.length ∧ Small (ks.foldl (fun r i => r.set i.toNat 1) l) := by
  induction ks with
  | nil => intro l h; exact ⟨rfl, h⟩
  | cons k ks ih =>
    intro l h
    rw [List.foldl_cons]
    have := ih (l.set k.toNat 1) fun q => by
      rw [getD_set]
      split
      · omega
      · exact h q
    exact ⟨by rw [this.1, List.length_set], this.2⟩
theorem row0_length (n : Nat) (first : List Int) : (row0 n first).length = n := by rw [row0, (row0_aux _ _ (Small.zeros _)).1]; simp [zeros']
theorem row0_small (n : Nat) (first : List Int) : Small (row0 n first) := (row0_aux _ _ (Small.zeros _)).2
theorem crow_length (fs : List (List Int)) (r : List Int) (t : Nat) : (crow fs r t).length = r.length := by
  induction t with
  | zero => rfl
  | succ t ih => rw [crow, nextTo_length, ih]
theorem crow_small (fs : List (List Int)) {r : List Int} (h : Small r) (t : Nat) : Small (crow fs r t) := by
  induction t with
  | zero => exact h
  | succ t ih => exact ih.nextTo _
theorem tally_le {row : List Int} (h : Small row) (last : List Int) : ∀ n : Int, n ≤ tally row last n ∧ tally row last n ≤ n + 1000000 * last.length := by
  induction last with
  | nil => intro n; simp [tally]
  | cons i last ih =>
    intro n
    have h1 := ih (n + row.getD i.toNat 0)
    have h2 := h i.toNat
    simp only [tally, List.foldl_cons, List.length_cons] at *
    omega
theorem ctally_small (fs : List (List Int)) (last : List Int) {r : List Int} (h : Small r) (t : Nat) : 0 ≤ ctally fs last r t ∧ ctally fs last r t ≤ 1000000 := by
  induction t with
  | zero => simp [ctally]
  | succ t ih =>
    have := tally_le (crow_small fs h t) last (ctally fs last r t)
    simp only [ctally]
    omega

/-! ### What is counted -/
theorem row0_spec (n : Nat) (ks : List Int) : ∀ l : List Int, l.length = n → InPlaces n ks → ∀ k : Nat, k < n → (ks.foldl (fun r i => r.set i.toNat 1) l).getD k 0 = if (k : Int) ∈ ks then 1 else l.getD k 0 := by
  induction ks with
  | nil => intro l _ _ k _; simp
  | cons i ks ih =>
    intro l hl hin k hk
    have hi := hin i (by simp)
    rw [List.foldl_cons, ih (l.set i.toNat 1) (by simp [hl]) (fun j hj => hin j (by simp [hj])) k hk, getD_set]
    by_cases h : (k : Int) ∈ ks
    · simp [h]
    · rw [if_neg h]
      by_cases e : k = i.toNat
      · rw [if_pos ⟨e, by omega⟩, if_pos]
        have : (k : Int) = i := by omega
        simp [this]
      · rw [if_neg (fun x => e x.1), if_neg]
        simp only [List.mem_cons, not_or]
        exact ⟨by omega, h⟩
def cnt (k : Int) (l : List Int) : Int := (l.count k : Nat)
theorem cnt_cons (k a : Int) (l : List Int) : cnt k (a :: l) = cnt k l + if a = k then 1 else 0 := by
  unfold cnt
  rw [List.count_cons]
  by_cases h : a = k
  · simp [h]
  · simp [h]
theorem cnt_append (k : Int) (a b : List Int) : cnt k (a ++ b) = cnt k a + cnt k b := by simp [cnt, List.count_append]
theorem cnt_nonneg (k : Int) (l : List Int) : 0 ≤ cnt k l := by unfold cnt; omega
theorem cnt_le (k : Int) (l : List Int) : cnt k l ≤ l.length := by have := List.count_le_length (a := k) (l := l); unfold cnt; omega
theorem count_one (x : Int) (l : List Int) (h : l.Nodup) (hx : x ∈ l) : l.count x = 1 := by
  induction l with
  | nil => cases hx
  | cons a l ih =>
    obtain ⟨h1, h2⟩ := List.nodup_cons.1 h
    rw [List.count_cons]
    by_cases e : a = x
    · subst e; simp [List.count_eq_zero_of_not_mem h1]
    · rcases List.mem_cons.1 hx with rfl | hx
      · exact absurd rfl e
      · rw [ih h2 hx]; simp [e]
theorem row0_cnt {n : Nat} {first : List Int} (hin : InPlaces n first) (hnd : first.Nodup) (k : Nat) (hk : k < n) : (row0 n first).getD k 0 = cnt k first := by
  unfold row0
  rw [row0_spec n first _ (by simp [zeros']) hin k hk]
  unfold cnt
  by_cases h : (k : Int) ∈ first
  · rw [if_pos h, count_one _ _ hnd h]; rfl
  · rw [if_neg h, List.count_eq_zero_of_not_mem h]
    have : (zeros' n).getD k 0 = 0 := by
      rw [List.getD_eq_getElem?_getD, zeros', List.getElem?_replicate]
      split <;> rfl
    rw [this]; rfl
theorem bumps_spec {v : Int} (hv : 0 ≤ v) (ks : List Int) : ∀ l : List Int, InPlaces l.length ks → (∀ k : Nat, k < l.length → 0 ≤ l.getD k 0 ∧ l.getD k 0 + v * cnt k ks ≤ 1000000) →
    ∀ k : Nat, k < l.length → (ks.foldl (bump v) l).getD k 0 = l.getD k 0 + v * cnt k ks := by
  induction ks with
  | nil => intro l _ _ k _; simp [cnt]
  | cons a ks ih =>
    intro l hin hb k hk
    have ha := hin a (by simp)
    have hat : (a.toNat : Int) = a := by omega
    have hba := hb a.toNat (by omega)
    rw [hat, cnt_cons, if_pos rfl, Int.mul_add, Int.mul_one] at hba
    have hp : ∀ j : Int, 0 ≤ v * cnt j ks := fun j => Int.mul_nonneg hv (cnt_nonneg _ _)
    have hg : ∀ q : Nat, q < l.length → (bump v l a).getD q 0 = l.getD q 0 + if a = (q : Int) then v else 0 := by
      intro q hq
      unfold bump
      rw [getD_set]
      by_cases e : q = a.toNat
      · subst e
        rw [if_pos ⟨rfl, hq⟩, hat, if_pos rfl]
        have := hp a
        omega
      · rw [if_neg (fun x => e x.1), if_neg (by omega)]; omega
    have hmul : ∀ q : Nat, v * cnt q (a :: ks) = v * cnt q ks + if a = (q : Int) then v else 0 := by
      intro q
      rw [cnt_cons, Int.mul_add]
      split
      · rw [Int.mul_one]
      · rw [Int.mul_zero]
    rw [List.foldl_cons, ih (bump v l a) (by rw [bump_length]; exact fun j hj => hin j (by simp [hj])) ?_ k (by rw [bump_length]; exact hk), hg k hk, hmul k]
    · omega
    · intro q hq
      rw [bump_length] at hq
      have h1 := hb q hq
      rw [hmul q] at h1
      rw [hg q hq]
      split <;> rename_i hx
      · rw [if_pos hx] at h1
        constructor <;> omega
      · rw [if_neg hx] at h1
        constructor <;> omega
def sumTo (g : Nat → Int) : Nat → Int
  | 0 => 0
  | m + 1 => sumTo g m + g m
theorem sumTo_mono {g : Nat → Int} (h : ∀ i, 0 ≤ g i) {a b : Nat} (hab : a ≤ b) : sumTo g a ≤ sumTo g b := by
  induction b with
  | zero => have : a = 0 := by omega
            subst this; exact Int.le_refl _
  | succ b ih =>
    rcases Nat.lt_or_ge a (b + 1) with h1 | h1
    · have := ih (by omega)
      have := h b
      simp only [sumTo]; omega
    · have : a = b + 1 := by omega
      subst this; exact Int.le_refl _
theorem sumTo_nonneg {g : Nat → Int} (h : ∀ i, 0 ≤ g i) (a : Nat) : 0 ≤ sumTo g a := by
  have := sumTo_mono h (Nat.zero_le a)
  simpa [sumTo] using this
theorem sumTo_congr {g g' : Nat → Int} (m : Nat) (h : ∀ i, i < m → g i = g' i) : sumTo g m = sumTo g' m := by
  induction m with
  | zero => rfl
  | succ m ih => simp only [sumTo]; rw [ih (fun i hi => h i (by omega)), h m (by omega)]
theorem sumTo_one (g : Nat → Int) (e : Nat) : ∀ m, sumTo (fun i => if i = e then g i else 0) m = if e < m then g e else 0 := by
  intro m
  induction m with
  | zero => simp [sumTo]
  | succ m ih =>
    simp only [sumTo, ih]
    by_cases h : m = e
    · subst h
      rw [if_neg (by omega), if_pos rfl, if_pos (by omega)]; omega
    · rw [if_neg h]
      by_cases h2 : e < m
      · rw [if_pos h2, if_pos (by omega)]; omega
      · rw [if_neg h2, if_neg (by omega)]; omega
theorem sumTo_add (g g' : Nat → Int) (m : Nat) : sumTo (fun i => g i + g' i) m = sumTo g m + sumTo g' m := by
  induction m with
  | zero => rfl
  | succ m ih => simp only [sumTo, ih]; omega
def follow (fs : List (List Int)) (e : Int) : List Int := fs.getD e.toNat []
def stepEnds (fs : List (List Int)) (ends : List Int) : List Int := ends.flatMap (follow fs)
theorem sum_ends (fs : List (List Int)) (n : Nat) (k : Int) : ∀ ends : List Int, InPlaces n ends → sumTo (fun i => cnt i ends * cnt k (fs.getD i [])) n = cnt k (stepEnds fs ends) := by
  intro ends
  induction ends with
  | nil =>
    intro _
    have : sumTo (fun i => cnt i [] * cnt k (fs.getD i [])) n = sumTo (fun _ => 0) n := sumTo_congr n fun i _ => by simp [cnt]
    rw [this]
    have h0 : ∀ m, sumTo (fun _ => 0) m = 0 := by intro m; induction m with
      | zero => rfl
      | succ m ih => simp [sumTo, ih]
    rw [h0]; rfl
  | cons e ends ih =>
    intro hin
    have he := hin e (by simp)
    have h1 : sumTo (fun i => cnt i (e :: ends) * cnt k (fs.getD i [])) n = sumTo (fun i => cnt i ends * cnt k (fs.getD i []) + if i = e.toNat then cnt k (fs.getD i []) else 0) n := by
      refine sumTo_congr n fun i hi => ?_
      rw [cnt_cons, Int.add_mul]
      by_cases h : i = e.toNat
      · rw [if_pos (by omega), if_pos h, Int.one_mul]
      · rw [if_neg (by omega), if_neg h, Int.zero_mul]
    rw [h1, sumTo_add, ih (fun j hj => hin j (by simp [hj])), sumTo_one (fun i => cnt k (fs.getD i [])), if_pos (by omega)]
    show _ = cnt k (follow fs e ++ stepEnds fs ends)
    rw [cnt_append]
    unfold follow
    omega
theorem nextTo_spec {fs : List (List Int)} {n : Nat} {row ends : List Int} (hlen : fs.length = n) (hfs : ∀ r ∈ fs, InPlaces n r) (hrow : row.length = n) (hends : InPlaces n ends)
    (hr : ∀ k : Nat, k < n → row.getD k 0 = cnt k ends) (hbig : (stepEnds fs ends).length ≤ 1000000) :
    ∀ k : Nat, k < n → (nextTo fs row fs.length).getD k 0 = cnt k (stepEnds fs ends) := by
  have hg0 : ∀ (k : Int) (i : Nat), 0 ≤ cnt i ends * cnt k (fs.getD i []) := fun k i => Int.mul_nonneg (cnt_nonneg _ _) (cnt_nonneg _ _)
  have key : ∀ m, m ≤ n → ∀ k : Nat, k < n → (nextTo fs row m).getD k 0 = sumTo (fun i => cnt i ends * cnt k (fs.getD i [])) m := by
    intro m
    induction m with
    | zero =>
      intro _ k _
      have : (zeros' row.length).getD k 0 = 0 := by
        rw [List.getD_eq_getElem?_getD, zeros', List.getElem?_replicate]
        split <;> rfl
      simp only [nextTo, List.range_zero, List.foldl_nil, sumTo]
      exact this
    | succ m ih =>
      intro hm k hk
      have hrm := hr m (by omega)
      have hfm : InPlaces n (fs.getD m []) := by
        have : fs.getD m [] = fs[m]'(by omega) := by simp [List.getD_eq_getElem?_getD, List.getElem?_eq_getElem (show m < fs.length by omega)]
        rw [this]; exact hfs _ (List.getElem_mem _)
      rw [nextTo_succ, bumps_spec (by rw [hrm]; exact cnt_nonneg _ _) _ _ (by rw [nextTo_length, hrow]; exact hfm) ?_ k (by rw [nextTo_length, hrow]; exact hk), ih (by omega) k hk, hrm]
      · rfl
      · intro q hq
        rw [nextTo_length, hrow] at hq
        rw [ih (by omega) q hq, hrm]
        refine ⟨sumTo_nonneg (hg0 _) _, ?_⟩
        have h1 := sumTo_mono (hg0 q) (show m + 1 ≤ n from hm)
        rw [sum_ends fs n q ends hends] at h1
        have h2 := cnt_le (q : Int) (stepEnds fs ends)
        simp only [sumTo] at h1
        omega
  intro k hk
  rw [hlen, key n (Nat.le_refl _) k hk, sum_ends fs n k ends hends]
def hits (last ends : List Int) : Int := (ends.map fun e => cnt e last).sum
theorem hits_nil (ends : List Int) : hits [] ends = 0 := by
  induction ends with
  | nil => rfl
  | cons e ends ih => simp only [hits, List.map_cons, List.sum_cons] at *; rw [ih]; rfl
theorem hits_cons (i : Int) (last ends : List Int) : hits (i :: last) ends = hits last ends + cnt i ends := by
  induction ends with
  | nil => simp [hits, cnt]
  | cons e ends ih =>
    simp only [hits, List.map_cons, List.sum_cons] at *
    rw [cnt_cons, cnt_cons, ih]
    by_cases h : i = e
    · subst h; simp; omega
    · rw [if_neg h, if_neg (fun x => h x.symm)]; omega
theorem tally_hits {n : Nat} {row ends : List Int} (hr : ∀ k : Nat, k < n → row.getD k 0 = cnt k ends) (last : List Int) : ∀ z : Int, InPlaces n last → tally row last z = z + hits last ends := by
  induction last with
  | nil => intro z _; simp [tally, hits_nil]
  | cons i last ih =>
    intro z hin
    have hi := hin i (by simp)
    have hrow := hr i.toNat (by omega)
    have hat : (i.toNat : Int) = i := by omega
    rw [hat] at hrow
    have := ih (z + row.getD i.toNat 0) (fun j hj => hin j (by simp [hj]))
    rw [hits_cons]
    simp only [tally, List.foldl_cons] at *
    rw [this, hrow]; omega
theorem hits_le (last ends : List Int) : 0 ≤ hits last ends ∧ hits last ends ≤ last.length * ends.length := by
  induction ends with
  | nil => simp [hits]
  | cons e ends ih =>
    have h1 := cnt_le e last
    have h2 := cnt_nonneg e last
    simp only [hits, List.map_cons, List.sum_cons, List.length_cons] at *
    rw [show ((ends.length + 1 : Nat) : Int) = (ends.length : Int) + 1 by omega, Int.mul_add, Int.mul_one]
    omega
def endsAt (fs : List (List Int)) (first : List Int) : Nat → List Int
  | 0 => first
  | t + 1 => stepEnds fs (endsAt fs first t)
theorem stepEnds_len {fs : List (List Int)} {d : Nat} (h : ∀ r ∈ fs, r.length ≤ d) (ends : List Int) : (stepEnds fs ends).length ≤ ends.length * d := by
  induction ends with
  | nil => simp [stepEnds]
  | cons e ends ih =>
    have h1 : (follow fs e).length ≤ d := by
      unfold follow
      rw [List.getD_eq_getElem?_getD]
      cases hk : fs[e.toNat]? with
      | none => simp
      | some q => exact h q (List.mem_of_getElem? hk)
    simp only [stepEnds, List.flatMap_cons, List.length_append, List.length_cons] at *
    rw [Nat.add_mul, Nat.one_mul]; omega
theorem stepEnds_in {fs : List (List Int)} {n : Nat} (h : ∀ r ∈ fs, InPlaces n r) (ends : List Int) : InPlaces n (stepEnds fs ends) := by
  intro i hi
  obtain ⟨e, _, he⟩ := List.mem_flatMap.1 hi
  unfold follow at he
  rw [List.getD_eq_getElem?_getD] at he
  cases hk : fs[e.toNat]? with
  | none => rw [hk] at he; simp at he
  | some q => rw [hk] at he; exact h q (List.mem_of_getElem? hk) i he
/-- An Auto's rows of places that end, of at most t places. -/
def manyM (fs : List (List Int)) (first last : List Int) (t : Nat) : Int := sumTo (fun s => hits last (endsAt fs first s)) t
structure Auto4 (n : Nat) (first last : List Int) (fs : List (List Int)) : Prop where
  n4 : n ≤ 4
  len : fs.length = n
  good : GoodF n fs
  fin : InPlaces n first
  fnd : first.Nodup
  flen : first.length ≤ n
  lin : InPlaces n last
  llen : last.length ≤ n
theorem Auto4.ends_len {n : Nat} {first last : List Int} {fs : List (List Int)} (h : Auto4 n first last fs) (t : Nat) : (endsAt fs first t).length ≤ 4 ^ (t + 1) := by
  induction t with
  | zero => have := h.flen; have := h.n4; simp [endsAt]; omega
  | succ t ih =>
    have := stepEnds_len (fs := fs) (d := 4) (fun r hr => by have := (h.good r hr).len; have := h.n4; omega) (endsAt fs first t)
    rw [Nat.pow_succ]
    simp only [endsAt]
    omega
theorem Auto4.ends_in {n : Nat} {first last : List Int} {fs : List (List Int)} (h : Auto4 n first last fs) (t : Nat) : InPlaces n (endsAt fs first t) := by
  cases t with
  | zero => exact h.fin
  | succ t => exact stepEnds_in (fun r hr => (h.good r hr).1) _
theorem Auto4.crow {n : Nat} {first last : List Int} {fs : List (List Int)} (h : Auto4 n first last fs) (t : Nat) (ht : t ≤ 7) : ∀ k : Nat, k < n → (crow fs (row0 n first) t).getD k 0 = cnt k (endsAt fs first t) := by
  induction t with
  | zero => exact fun k hk => row0_cnt h.fin h.fnd k hk
  | succ t ih =>
    have h1 := h.ends_len (t + 1)
    have h2 : 4 ^ (t + 1 + 1) ≤ 4 ^ 9 := Nat.pow_le_pow_right (by decide) (by omega)
    exact nextTo_spec h.len (fun r hr => (h.good r hr).1) (by rw [crow_length, row0_length]) (h.ends_in t) (ih (by omega)) (Nat.le_trans h1 (Nat.le_trans h2 (by decide)))
theorem Auto4.hits {n : Nat} {first last : List Int} {fs : List (List Int)} (h : Auto4 n first last fs) (t : Nat) (ht : t ≤ 7) : 0 ≤ hits last (endsAt fs first t) ∧ hits last (endsAt fs first t) ≤ 100000 * 4 := by
  have h1 := h.ends_len t
  have h2 : 4 ^ (t + 1) ≤ 4 ^ 8 := Nat.pow_le_pow_right (by decide) (by omega)
  have h3 := hits_le last (endsAt fs first t)
  have h4 : last.length ≤ 4 := Nat.le_trans h.llen h.n4
  have h5 : last.length * (endsAt fs first t).length ≤ 4 * 100000 := Nat.mul_le_mul h4 (by omega)
  have h6 : ((last.length * (endsAt fs first t).length : Nat) : Int) ≤ ((4 * 100000 : Nat) : Int) := Int.ofNat_le.2 h5
  rw [Int.natCast_mul] at h6
  omega
theorem Auto4.many {n : Nat} {first last : List Int} {fs : List (List Int)} (h : Auto4 n first last fs) (t : Nat) (ht : t ≤ 6) : 0 ≤ manyM fs first last t ∧ manyM fs first last t ≤ 65536 := by
  have key : ∀ t, t ≤ 6 → 0 ≤ manyM fs first last t ∧ manyM fs first last t ≤ 4 ^ (t + 2) := by
    intro t
    induction t with
    | zero => intro _; simp [manyM, sumTo]
    | succ t ih =>
      intro ht
      have h0 := ih (by omega)
      have h1 := h.ends_len t
      have h3 := hits_le last (endsAt fs first t)
      have h4 : last.length ≤ 4 := Nat.le_trans h.llen h.n4
      have h5 : last.length * (endsAt fs first t).length ≤ 4 * 4 ^ (t + 1) := Nat.mul_le_mul h4 h1
      have h6 := Int.ofNat_le.2 h5
      rw [Int.natCast_mul, Int.natCast_mul, Int.natCast_pow] at h6
      have e : manyM fs first last (t + 1) = manyM fs first last t + An.hits last (endsAt fs first t) := rfl
      rw [e]
      generalize An.hits last (endsAt fs first t) = z at *
      generalize manyM fs first last t = y at *
      generalize (last.length : Int) * ((endsAt fs first t).length : Int) = x at *
      match t, ht with
      | 0, _ | 1, _ | 2, _ | 3, _ | 4, _ | 5, _ => simp at *; omega
  have h1 := key t ht
  have h2 : (4 : Int) ^ (t + 2) ≤ 65536 := by
    match t, ht with
    | 0, _ | 1, _ | 2, _ | 3, _ | 4, _ | 5, _ | 6, _ => decide
  omega
theorem Auto4.ctally {n : Nat} {first last : List Int} {fs : List (List Int)} (h : Auto4 n first last fs) (t : Nat) (ht : t ≤ 6) : ctally fs last (row0 n first) t = manyM fs first last t := by
  induction t with
  | zero => rfl
  | succ t ih =>
    have h1 := (h.many (t + 1) ht)
    have e : manyM fs first last (t + 1) = manyM fs first last t + An.hits last (endsAt fs first t) := rfl
    rw [e] at h1 ⊢
    simp only [An.ctally]
    rw [tally_hits (h.crow t (by omega)) last _ h.lin, ih (by omega)]
    omega
theorem Auto4.count {n : Nat} {first last : List Int} {fs : List (List Int)} (h : Auto4 n first last fs) (m : Nat) (hm : m ≤ 6) : countM n first last fs m = manyM fs first last m := by
  unfold countM
  rw [show (max 0 (min (m : Int) 8)).toNat = m by omega, h.ctally m hm]
theorem Auto4.grows {n : Nat} {first last : List Int} {fs : List (List Int)} (h : Auto4 n first last fs) (m : Nat) (hm : m ≤ 5) : countM n first last fs ((m : Int) + 1) ≥ manyM fs first last m := by
  have := h.count (m + 1) (by omega)
  rw [show ((m + 1 : Nat) : Int) = (m : Int) + 1 by omega] at this
  rw [this]
  have e : manyM fs first last (m + 1) = manyM fs first last m + An.hits last (endsAt fs first m) := rfl
  have := (h.hits m (by omega)).1
  omega
theorem countM_none (n : Nat) (first last : List Int) (fs : List (List Int)) (m : Int) (h : m ≤ 0) : countM n first last fs m = 0 := by
  unfold countM
  rw [show (max 0 (min m 8)).toNat = 0 by omega]; rfl
/-! ### Rows of places, as the statement walks them -/
def endOf (r : List Int) : Int := nth r (r.length - 1)
def grow (fs : List (List Int)) (r : List Int) : List (List Int) := (follow fs (endOf r)).map fun i => r ++ [i]
def rowsAt (fs : List (List Int)) (first : List Int) : Nat → List (List Int)
  | 0 => first.map fun i => [i]
  | t + 1 => (rowsAt fs first t).flatMap (grow fs)
theorem endOf_snoc (r : List Int) (i : Int) : endOf (r ++ [i]) = i := by
  unfold endOf
  rw [nth_append_right _ _ _ (by simp)]
  simp [nth]
theorem rowsAt_ends (fs : List (List Int)) (first : List Int) (t : Nat) : (rowsAt fs first t).map endOf = endsAt fs first t := by
  induction t with
  | zero =>
    simp only [rowsAt, endsAt, List.map_map]
    conv => rhs; rw [← List.map_id first]
    refine List.map_congr_left fun i _ => ?_
    simp [endOf, nth]
  | succ t ih =>
    simp only [rowsAt, endsAt]
    rw [← ih]
    generalize rowsAt fs first t = rs
    induction rs with
    | nil => rfl
    | cons r rs ihr =>
      simp only [List.flatMap_cons, List.map_append, List.map_cons, stepEnds] at *
      rw [ihr]
      congr 1
      unfold grow
      rw [List.map_map]
      conv => rhs; rw [← List.map_id (follow fs (endOf r))]
      exact List.map_congr_left fun i _ => endOf_snoc r i
theorem rowsAt_len (fs : List (List Int)) (first : List Int) (t : Nat) : ∀ r ∈ rowsAt fs first t, r.length = t + 1 := by
  induction t with
  | zero => intro r hr; simp [rowsAt] at hr; obtain ⟨i, _, rfl⟩ := hr; rfl
  | succ t ih =>
    intro r hr
    obtain ⟨r', h1, h2⟩ := List.mem_flatMap.1 hr
    unfold grow at h2
    obtain ⟨i, _, rfl⟩ := List.mem_map.1 h2
    simp [ih r' h1]
end Go.Proofs.An
