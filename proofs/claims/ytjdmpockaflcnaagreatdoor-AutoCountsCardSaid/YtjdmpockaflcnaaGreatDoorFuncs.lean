/-
  slices.DeleteFunc, ContainsFunc over rows of places; slices.Sort of none.
-/
import Derived.Test.YtjdmpockaflcnaaGreatDoorAutoPure
import Derived.Shelf.SlicesE.DeleteFunc
import Derived.Shelf.SlicesE.IndexFunc
import Derived.Shelf.Slices.In.SortNone
namespace Go.Proofs.An
open Go.RowKit Go.Sort Go.Shelf
def renH : Ren := ⟨fun | 6 => 119 | 8 => 72 | 10 => 69 | n => n, fun | 22 => 24 | 23 => 3 | 25 => 119 | 0 => 0 | 3 => 3 | 4 => 4 | n => n, fun | n => n⟩
theorem lays6 : SlLaysH.n6 Tryz.prog renH := {
  mixed := by kernel_rfl
  f6 := ⟨Tryz.f119.name, by decide, Tryz.func119.trans (congrArg some (by kernel_rfl))⟩
  t0 := Tryz.underlying0
  a0 := Tryz.isAgg0
  z0 := Tryz.sizeOf0
  v0 := Tryz.zeroValue0
  t3 := Tryz.underlying3
  a3 := Tryz.isAgg3
  z3 := Tryz.sizeOf3
  v3 := Tryz.zeroValue3
  t4 := Tryz.underlying4
  a4 := Tryz.isAgg4
  z4 := Tryz.sizeOf4
  v4 := Tryz.zeroValue4
  t22 := Tryz.underlying24
  a22 := Tryz.isAgg24
  z22 := Tryz.sizeOf24
  v22 := Tryz.zeroValue24
  a23 := Tryz.isAgg3
  z23 := Tryz.sizeOf3
  t25 := Tryz.underlying119
  a25 := Tryz.isAgg119
  z25 := Tryz.sizeOf119
  v25 := Tryz.zeroValue119 }
theorem lays8 : SlLaysH.n8 Tryz.prog renH := { lays6 with
  f8 := ⟨Tryz.f72.name, by decide, Tryz.func72.trans (congrArg some (by kernel_rfl))⟩ }
theorem lays10 : SlLaysH.n10 Tryz.prog renH := { lays6 with
  f10 := ⟨Tryz.f69.name, by decide, Tryz.func69.trans (congrArg some (by kernel_rfl))⟩ }
theorem sort_none (p : Option Addr) (cap : Nat) (w : World) : Calls Tryz.prog 75 #[.slice p 0 cap] w fun e w' => e = .returned (.tuple #[]) ∧ w' = w := Any.slices_Sort_int_none Tryz.lays189 p cap w
theorem putCells_map {α : Type} [Inhabited α] (f : α → Int) (off : Nat) (d : Array α) (c : Array Value) : putCells (fun x => Value.int .i64 (f x)) off d c = putCells (Value.int .i64) off (d.map f) c := by
  unfold putCells
  congr 1
  funext k x
  simp only [Array.size_map]
  by_cases h : off ≤ k ∧ k < off + d.size
  · rw [if_pos h, if_pos h, getElem!_pos d _ (by omega), getElem!_pos (d.map f) _ (by simp; omega)]
    simp
  · rw [if_neg h, if_neg h]
theorem putRow_map {α : Type} [Inhabited α] (f : α → Int) (w : World) (blk off : Nat) (d : Array α) : putRow (fun x => Value.int .i64 (f x)) w blk off d = putRow (Value.int .i64) w blk off (d.map f) := by
  unfold putRow
  congr 1
  funext c
  exact putCells_map f off d c
structure Pl (n : Nat) where
  val : Int
  lo : 0 ≤ val
  hi : val < n
def pls (n : Nat) : (xs : List Int) → InPlaces n xs → List (Pl n)
  | [], _ => []
  | x :: xs, h => ⟨x, (h x (by simp)).1, (h x (by simp)).2⟩ :: pls n xs fun y hy => h y (by simp [hy])
theorem pls_val (n : Nat) : ∀ (xs : List Int) (h : InPlaces n xs), (pls n xs h).map Pl.val = xs
  | [], _ => rfl
  | x :: xs, h => congrArg (x :: ·) (pls_val n xs fun y hy => h y (by simp [hy]))
theorem pls_len (n : Nat) (xs : List Int) (h : InPlaces n xs) : (pls n xs h).length = xs.length := by
  have := congrArg List.length (pls_val n xs h)
  simpa using this
theorem filter_val {n : Nat} (p : Int → Bool) (l : List (Pl n)) : (l.filter fun x => !p x.1).map Pl.val = (l.map Pl.val).filter fun x => !p x := by
  rw [List.filter_map]; rfl
theorem pls_get {n : Nat} {xs : List Int} (h : InPlaces n xs) (j : Nat) (hj : j < xs.length) : ((pls n xs h)[j]'(by rw [pls_len]; exact hj)).1 = xs[j] := by
  have h1 : ((pls n xs h).map Pl.val)[j]? = xs[j]? := by rw [pls_val]
  rw [List.getElem?_map, List.getElem?_eq_getElem hj, List.getElem?_eq_getElem (by rw [pls_len]; exact hj)] at h1
  simpa using h1
theorem ext_sortWorld {α : Type} [Inhabited α] (enc : α → Value) (w : World) (blk off n : Nat) (dk : Array α) (os : Array Obj) : Ext (fun b => b = blk) w (sortWorld enc w blk off n dk os) := by
  refine ⟨rfl, rfl, rfl, by simp [sortWorld, Sort.grow, putRow, mapBlock, Sort.ahead], fun k hk hne => ?_⟩
  unfold sortWorld
  rw [heap_grow_old _ _ (by simpa [putRow, mapBlock, Sort.ahead] using hk)]
  have : blk ≠ k := fun e => hne (by rw [e])
  simp [putRow, mapBlock, Sort.ahead, Array.getElem?_modify, this]
/-- What is asked of a predicate on places. -/
def Asks (n : Nat) (g : Nat) (lb : Array Value) (p : Int → Bool) (N : Nat → Prop) (w : World) : Prop :=
  ∀ (W : World) (x : Int), 0 ≤ x → x < n → Ext N w W → Calls Tryz.prog g (#[.int .i64 x] ++ lb) W fun e w' => e = .returned (.bool (p x)) ∧ ∃ q, w' = W.drewN q
theorem drewN_ext (w : World) (q : Nat) : Ext No w (w.drewN q) := Ext.drewN (Ext.refl _ _) q
theorem contains_func {n : Nat} (hn : 0 < n) {M : Nat → Prop} {w : World} {v : Value} {xs : List Int} (h : Sl M w v xs) (hin : InPlaces n xs) (hl : xs.length ≤ 1000000) (p : Int → Bool) (g : Nat) (lb : Array Value)
    (eg : ∀ args w, (callFunc g args).run Tryz.prog w = .ok (.enter g args) w) (hp : Asks n g lb p No w) :
    Calls Tryz.prog 72 #[v, .func (.func g) #[] lb] w fun e w' => e = .returned (.bool (xs.any p)) ∧ Ext No w w' := by
  rcases Nat.eq_zero_or_pos xs.length with h0 | h0
  · have hx : xs = [] := List.eq_nil_of_length_eq_zero h0
    subst hx
    obtain ⟨A, c, rfl⟩ := h.form
    refine (AnyE.slices_ContainsFunc_empty lays8 A c _ w).mono ?_
    rintro e w' ⟨rfl, rfl⟩
    exact ⟨rfl, Ext.refl _ _⟩
  · obtain ⟨b, off, cap, rfl, hc⟩ := slice_plain h h0
    haveI : Inhabited (Pl n) := ⟨⟨0, by omega, by omega⟩⟩
    have hlen := pls_len n xs hin
    refine (AnyE.slices_ContainsFunc (α := Pl n) lays8 (fun x => Value.int .i64 x.1) (fun x => p x.1) g lb eg b off xs.length cap (pls n xs hin) w
      (fun W x hW => hp W x.1 x.lo x.hi (Ext.of_below hW)) (by omega) (by omega) (fun j hj => ?_)).mono ?_
    · rw [hc j (by omega), getElem!_pos (pls n xs hin) j hj]
      show some (Value.int .i64 (xs.getD j 0)) = some (Value.int .i64 ((pls n xs hin)[j]).val)
      rw [pls_get hin j (by omega)]
      simp [List.getD, List.getElem?_eq_getElem (show j < xs.length by omega)]
    · rintro e w' ⟨rfl, q, rfl⟩
      refine ⟨?_, drewN_ext w q⟩
      have e1 : ((pls n xs hin).take xs.length).any (fun x => p x.1) = xs.any p := by
        rw [List.take_of_length_le (by omega)]
        conv => rhs; rw [← pls_val n xs hin]
        rw [List.any_map]; rfl
      rw [e1]
set_option maxRecDepth 100000 in
set_option maxHeartbeats 400000 in
theorem delete_ints {n : Nat} (hn : 0 < n) {w : World} {E : TypeId} {B : Nat} {M : Nat → Prop} {v : Value} {xs : List Int} (h : Own E B M w v xs) (hin : InPlaces n xs) (hl : xs.length ≤ 1000000) (p : Int → Bool) (g : Nat) (lb : Array Value)
    (eg : ∀ args w, (callFunc g args).run Tryz.prog w = .ok (.enter g args) w) (hp : Asks n g lb p (fun b => v.ownBlock = some b) w) :
    Calls Tryz.prog 69 #[v, .func (.func g) #[] lb] w fun e w' => ∃ v', e = .returned v' ∧ v'.ownBlock = v.ownBlock ∧ Own E B M w' v' (xs.filter fun x => !p x) ∧ Ext (fun b => v.ownBlock = some b) w w' := by
  have hr := owns_ints h
  rcases hr.2 with ⟨rfl, h0⟩ | ⟨gb, cap, cur, rfl, hb, hg, h1, h2, h3, h4⟩
  · have hx : xs = [] := List.eq_nil_of_length_eq_zero h0
    subst hx
    have hIF := fun fv W => AnyE.slices_IndexFunc_empty lays6 none 0 fv W
    go_enter Tryz.func69, Tryz.ntmps69
    go_wp2_with (go_at_call 119; refine (hIF _ _).mono ?_; rintro e w' ⟨rfl, rfl⟩)
    go_ret
    exact ⟨_, rfl, rfl, h, Ext.refl _ _⟩
  · haveI : Inhabited (Pl n) := ⟨⟨0, by omega, by omega⟩⟩
    have hlen := pls_len n xs hin
    have hH := holds_of_blockI hg (by simpa [An.ints] using h4)
    have hd : (pls n xs hin).toArray.size = xs.length := by simp [hlen]
    have key := AnyE.slices_DeleteFunc (α := Pl n) lays10 (fun x => Value.int .i64 x.1) (fun _ => rfl) (fun x => p x.1) g lb eg ⟨0, by omega, by omega⟩ Tryz.zeroValue3 gb 0 cap (pls n xs hin).toArray w
      (fun W x hW => hp W x.1 x.lo x.hi (Ext.of_below hW)) (fun q os dk x _ => hp _ x.1 x.lo x.hi ((ext_sortWorld _ w gb 0 q dk os).mono fun b _ e => by subst e; rfl)) (fun j hj => by
        have hj' : j < xs.length := by omega
        have := hH j (by simpa using hj')
        refine ⟨this.1.trans ?_, this.2⟩
        rw [getElem!_pos xs.toArray j (by simpa using hj'), getElem!_pos (pls n xs hin).toArray j hj]
        show some (Value.int .i64 (xs.toArray[j])) = some (Value.int .i64 ((pls n xs hin).toArray[j]).val)
        have := pls_get hin j hj'
        simp [this]) (by omega) (by omega)
    rw [hd] at key
    refine key.mono ?_
    rintro e w' ⟨rfl, q, rfl⟩
    rw [putRow_map]
    have hfl : ((pls n xs hin).toArray.toList.filter fun x => !p x.1).map Pl.val = xs.filter fun x => !p x := by
      simp only [List.toList_toArray]
      rw [filter_val, pls_val]
    have hfn : ((pls n xs hin).toArray.toList.filter fun x => !p x.1).length = (xs.filter fun x => !p x).length := by rw [← hfl]; simp
    rw [hfn]
    have hcl : (xs.filter fun x => !p x).length ≤ xs.length := List.length_filter_le _ _
    have harr : Array.map Pl.val (((pls n xs hin).toArray.toList.filter fun x => !p x.1) ++ List.replicate (xs.length - (xs.filter fun x => !p x).length) (⟨0, by omega, by omega⟩ : Pl n)).toArray = ((xs.filter fun x => !p x) ++ List.replicate (xs.length - (xs.filter fun x => !p x).length) 0).toArray := by
      rw [List.map_toArray, List.map_append, hfl, List.map_replicate]
    have harr' := harr
    generalize hys : xs.filter (fun x => !p x) = ys at *
    have hts : (ys ++ List.replicate (xs.length - ys.length) 0).length = xs.length := by rw [List.length_append, List.length_replicate]; omega
    have hheap := heap_sortedI (n := q) (os := #[]) (ys ++ List.replicate (xs.length - ys.length) 0).toArray hg
    have htake := take_putCellsI cur (ys ++ List.replicate (xs.length - ys.length) 0) (by rw [hts, h3]; omega)
    have hgr := grownBy_sortedI (w := w) (g := gb) (n := q) (os := #[]) (ys ++ List.replicate (xs.length - ys.length) 0).toArray
    rw [Sort.grow_empty] at hheap hgr
    rw [harr']
    refine ⟨_, rfl, rfl, own_ints ?_ h.mine, (Ext.of_grown hgr).mono fun b _ hx => by simpa [Value.ownBlock] using hx⟩
    refine ⟨by simp [An.ints], .inr ⟨gb, cap, _, rfl, hb, hheap, by omega, h2, by simp [Sort.putCells, h3], ?_⟩⟩
    rw [hts] at htake
    have : List.take (ys.length * 1) (Sort.putCells (Value.int .i64) 0 (ys ++ List.replicate (xs.length - ys.length) 0).toArray cur).toList
        = List.take ys.length (List.take xs.length (Sort.putCells (Value.int .i64) 0 (ys ++ List.replicate (xs.length - ys.length) 0).toArray cur).toList) := by
      rw [List.take_take, Nat.mul_one, Nat.min_eq_left hcl]
    rw [this, htake, List.map_append, List.take_append_of_le_length (by simp), List.take_of_length_le (by simp)]
    rfl
end Go.Proofs.An
