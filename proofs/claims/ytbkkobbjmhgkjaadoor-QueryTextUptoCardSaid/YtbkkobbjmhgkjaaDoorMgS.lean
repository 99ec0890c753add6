/- The library's sort, and what is told of it, in this layer's words. -/
import Derived.Test.YtbkkobbjmhgkjaaDoorMgH
import Derived.Sort.Grow
import Derived.Lib.SlicesCompact
namespace Go.Mg
open Go Go.Sort
variable {P : Program} {w : World} {S : Nat → Prop} {α : Type} {enc : α → Value} {h1 : ∀ x, (enc x).oneCell' = true} {e : TypeId} {base : Nat}

theorem Chk.map {cs : List Value} {xs : List α} (h : Chk (kSc enc h1) S w cs xs) : cs = xs.map enc := by
  induction h with
  | nil => rfl
  | cons a _ ih => have a : _ = [enc _] := a; rw [a, ih]; rfl
theorem Chk.of_map (xs : List α) : Chk (kSc enc h1) S w (xs.map enc) xs := by
  induction xs with
  | nil => exact .nil
  | cons x xs ih => exact .cons (c := [enc x]) rfl ih

/-- An own row's cells. -/
theorem Ow.cases {v : Value} {xs : List α} (h : Ow (kSc enc h1) e S base w v xs) :
    (v = .slice none 0 0 ∧ xs = []) ∨ ∃ g cap cur, v = .slice (some ⟨g, 0, none⟩) xs.length cap ∧ base ≤ g ∧ ¬ S g ∧ w.heap[g]? = some (.cells cur e (0, 0)) ∧ xs.length ≤ cap ∧ cap ≤ maxLen ∧ cur.size = cap ∧ cur.toList.take xs.length = xs.map enc := by
  obtain ⟨cs, h1, h2, h3, h4⟩ := h
  rcases h1.2 with ⟨rfl, hn⟩ | ⟨g, cap, cur, rfl, hb, hg, hnc, hcm, hcs, htk⟩
  · exact .inl ⟨rfl, List.eq_nil_of_length_eq_zero hn⟩
  · right
    have hc := h2.map
    subst hc
    refine ⟨g, cap, cur, rfl, hb, h4 g rfl, hg, hnc, hcm, ?_, ?_⟩
    · simpa [kSc] using hcs
    · simpa [kSc] using htk
theorem Ow.mk {g cap : Nat} {cur : Array Value} {xs : List α} (hb : base ≤ g) (hS : ¬ S g) (hg : w.heap[g]? = some (.cells cur e (0, 0))) (hn : xs.length ≤ cap) (hm : cap ≤ maxLen) (hl : xs.length ≤ Mg.lim) (hc : cur.size = cap)
    (ht : cur.toList.take xs.length = xs.map enc) : Ow (kSc enc h1) e S base w (.slice (some ⟨g, 0, none⟩) xs.length cap) xs :=
  ⟨xs.map enc, ⟨by simp [kSc], .inr ⟨g, cap, cur, rfl, hb, hg, hn, hm, by simpa [kSc] using hc, by simpa [kSc] using ht⟩⟩, Chk.of_map xs, hl, fun b hb hs => by
    simp [Value.ownBlock] at hb; subst hb; exact hS hs⟩
variable [Inhabited α]

theorem Ow.holds {g cap : Nat} {xs : List α} (h : Ow (kSc enc h1) e S base w (.slice (some ⟨g, 0, none⟩) xs.length cap) xs) : Holds enc w g 0 xs.toArray := by
  rcases h.cases with ⟨h, _⟩ | ⟨g', cap', cur, hv, _, _, hg, hn, _, hc, ht⟩
  · cases h
  · cases hv
    intro j hj
    have hj : j < xs.length := by simpa using hj
    have hx : cur[j]? = some (enc xs[j]) := by
      have : (cur.toList.take xs.length)[j]? = (xs.map enc)[j]? := by rw [ht]
      rw [List.getElem?_take, if_pos hj] at this
      simpa [hj] using this
    rw [Nat.zero_add, cell_of_row w g j cur e (0, 0) hg, frozen_of_row w g j cur e hg, hx]
    exact ⟨by simp [hj], rfl⟩

/-- The row, rewritten as a whole. -/
theorem Ow.put {g cap n : Nat} {xs : List α} {os : Array Obj} (h : Ow (kSc enc h1) e S base w (.slice (some ⟨g, 0, none⟩) xs.length cap) xs) (d : List α) (ys : List α) (hd : d.length = xs.length) (hy : ∃ zs, d = ys ++ zs) :
    Up (Blk (.slice (some ⟨g, 0, none⟩) xs.length cap)) w (grow (putRow enc (Sort.ahead w n) g 0 d.toArray) os) ∧ Ow (kSc enc h1) e S base (grow (putRow enc (Sort.ahead w n) g 0 d.toArray) os) (.slice (some ⟨g, 0, none⟩) ys.length cap) ys := by
  have hlim := h.lim
  rcases h.cases with ⟨h, _⟩ | ⟨g', cap', cur, hv, hb, hS, hg, hn, hm, hc, ht⟩
  · cases h
  · cases hv
    have hglt : g < w.heap.size := (Array.getElem?_eq_some_iff.1 hg).1
    have hget : ∀ k, k < w.heap.size → (grow (putRow enc (Sort.ahead w n) g 0 d.toArray) os).heap[k]? = if g = k then (w.heap[k]?).map (onCells (putCells enc 0 d.toArray)) else w.heap[k]? := by
      intro k hk
      show ((w.heap.modify g (onCells (putCells enc 0 d.toArray))) ++ os)[k]? = _
      rw [Array.getElem?_append_left (by simpa using hk), Array.getElem?_modify]
    obtain ⟨zs, rfl⟩ := hy
    refine ⟨⟨rfl, rfl, rfl, ?_, fun k hk hn => ?_⟩, ?_⟩
    · show w.heap.size ≤ ((w.heap.modify g _) ++ os).size
      simp
    · rw [hget k hk, if_neg (fun he => hn (by simp [Blk, Value.ownBlock, he]))]
    · have hyl : ys.length ≤ xs.length := by rw [← hd]; simp
      refine Ow.mk hb hS (cur := putCells enc 0 (ys ++ zs).toArray cur) ?_ (by omega) hm (by omega) (by simpa [putCells] using hc) ?_
      · rw [hget g hglt, if_pos rfl, hg]; rfl
      · apply List.ext_getElem?
        intro j
        rw [List.getElem?_take]
        by_cases hj : j < ys.length
        · rw [if_pos hj]
          have hjc : j < cur.size := by omega
          have hj2 : j < (ys ++ zs).length := by rw [List.length_append]; omega
          simp only [putCells, Array.getElem?_toList, Array.getElem?_mapIdx, Nat.zero_le, Nat.zero_add, true_and, List.size_toArray, hj2, if_true, Nat.sub_zero, Array.getElem?_eq_getElem hjc, Option.map_some]
          simp [hj, List.getElem?_append_left hj]
        · rw [if_neg hj, List.getElem?_eq_none (by simpa using Nat.le_of_not_lt hj)]

theorem sortI_w {f : FuncId} (hc : ∀ (blk off cap : Nat) (zs : List Int) (w : World), Holds (Value.int .i64) w blk off zs.toArray → blk < w.heap.size → zs.length < 4611686018427387904 →
      Calls P f #[.slice (some ⟨blk, off, none⟩) zs.length cap] w fun e w' => e = .returned (.tuple #[]) ∧ ∃ n os, w' = grow (putRow (Value.int .i64) (Sort.ahead w n) blk off (zs.mergeSort fun x y => decide (x ≤ y)).toArray) os)
    (hn : ∀ (p : Option Addr) (cap : Nat) (w : World), Calls P f #[.slice p 0 cap] w fun e w' => e = .returned (.tuple #[]) ∧ w' = w)
    {v0 : Value} {a0 r : List Int} (_ : Sb S w) (h0 : Ow (kI .i64) e S base w v0 a0) (h : (a0.mergeSort fun x y => decide (x ≤ y)) = r) :
    Calls P f (List.toArray [v0]) w fun e' w1 => e' = .returned (.tuple (List.toArray [])) ∧ Up (Blk v0) w w1 ∧ Ow (kI .i64) e S base w1 v0 r := by
  subst h
  rcases Ow.cases h0 with ⟨rfl, rfl⟩ | ⟨g, cap, cur, rfl, hb, hSg, hg, hnc, hm, hc', ht⟩
  · refine (hn none 0 w).mono fun e' w1 ⟨he, hw⟩ => ⟨he, ?_, ?_⟩
    · rw [hw]; exact Up.refl _ _
    · rw [hw]; simpa using h0
  · have hlim := h0.lim
    unfold lim at hlim
    refine (hc g 0 cap a0 w (Ow.holds h0) (Array.getElem?_eq_some_iff.1 hg).1 (by omega)).mono fun e' w1 ⟨he, n, os, hw⟩ => ⟨he, ?_⟩
    subst hw
    have := Ow.put (n := n) (os := os) h0 (a0.mergeSort fun x y => decide (x ≤ y)) _ (List.length_mergeSort _) ⟨[], (List.append_nil _).symm⟩
    rw [List.length_mergeSort] at this
    exact this

theorem compactI_w {f : FuncId} (hc : ∀ (blk off cap : Nat) (zs : List Int) (w : World), Holds (Value.int .i64) w blk off zs.toArray → zs.length ≤ 9223372036854775807 → zs.length ≤ cap →
      Calls P f #[.slice (some ⟨blk, off, none⟩) zs.length cap] w fun e w' => e = .returned (.slice (some ⟨blk, off, none⟩) (Lib.compact zs).length cap) ∧ ∃ q, w' = putRow (Value.int .i64) (Sort.ahead w q) blk off (Lib.compact zs ++ List.replicate (zs.length - (Lib.compact zs).length) 0).toArray)
    (hn : ∀ (a : Option Addr) (cap : Nat) (w : World), Calls P f #[.slice a 0 cap] w fun e w' => e = .returned (.slice a 0 cap) ∧ w' = w)
    {v0 : Value} {a0 r : List Int} (_ : Sb S w) (h0 : Ow (kI .i64) e S base w v0 a0) (h : Lib.compact a0 = r) :
    Calls P f (List.toArray [v0]) w fun e' w1 => ∃ u0, e' = .returned u0 ∧ Up (Blk v0) w w1 ∧ Ow (kI .i64) e S base w1 u0 r ∧ ∀ b, Blk u0 b → Blk v0 b ∨ w.heap.size ≤ b := by
  subst h
  rcases Ow.cases h0 with ⟨rfl, rfl⟩ | ⟨g, cap, cur, rfl, hb, hSg, hg, hnc, hm, hc', ht⟩
  · refine (hn none 0 w).mono fun e' w1 ⟨he, hw⟩ => ⟨_, he, ?_, ?_, fun b hb => .inl hb⟩
    · rw [hw]; exact Up.refl _ _
    · rw [hw]; exact h0
  · have hlim := h0.lim
    unfold lim at hlim
    refine (hc g 0 cap a0 w (Ow.holds h0) (by omega) hnc).mono fun e' w1 ⟨he, q, hw⟩ => ⟨_, he, ?_⟩
    have hlen : (Lib.compact a0).length ≤ a0.length := by
      have : (Lib.compact a0).length ≤ (List.range a0.length).length := by
        unfold Lib.compact Lib.compactUpTo
        rw [List.length_map]
        exact List.length_filter_le _ _
      simpa using this
    have := Ow.put (n := q) (os := #[]) h0 (Lib.compact a0 ++ List.replicate (a0.length - (Lib.compact a0).length) 0) (Lib.compact a0) (by simp; omega) ⟨_, rfl⟩
    rw [grow_empty, ← hw] at this
    exact ⟨this.1, this.2, fun b hb => .inl hb⟩

end Go.Mg
