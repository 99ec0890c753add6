/- The library's sort of texts, in this layer's words. -/
import Derived.Test.YtbkkobbjmhgkjaaDoorMgS
import Derived.Test.YtbkkobbjmhgkjaaDoorMgSt
import Derived.Test.YtbkkobbjmhgkjaaDoorMgW
import Derived.Test.YtbkkobbjmhgkjaaDoorMgRg
import Derived.Sort.EncStr
namespace Go.Mg
open Go Go.Sort Go.Lib Go.Proofs
set_option linter.unusedVariables false

/-- Texts, rising. -/
def strSort (xs : List ByteArray) : List ByteArray := ((xs.map (·.data.toList)).mergeSort fun x y => decide (x ≤ y)).map fun l => ⟨l.toArray⟩

theorem enc_map (xs : List ByteArray) : (xs.map (·.data.toList)).map encStr = xs.map Value.string := by
  rw [List.map_map]; rfl
theorem sort_str_perm {l m : List ByteArray} (h : l.Perm m) : strSort l = strSort m := by
  unfold strSort
  congr 1
  have t : ∀ a b c : List UInt8, decide (a ≤ b) = true → decide (b ≤ c) = true → decide (a ≤ c) = true := fun a b c h1 h2 => by
    simp only [decide_eq_true_eq] at *; exact List.le_trans h1 h2
  have tot : ∀ a b : List UInt8, (decide (a ≤ b) || decide (b ≤ a)) = true := fun a b => by
    simp only [Bool.or_eq_true, decide_eq_true_eq]; exact List.le_total a b
  refine List.Perm.eq_of_pairwise (le := fun x y => decide (x ≤ y) = true) (fun a b _ _ h1 h2 => by simp only [decide_eq_true_eq] at h1 h2; exact List.le_antisymm h1 h2) (List.pairwise_mergeSort t tot _) (List.pairwise_mergeSort t tot _) ?_
  exact (List.mergeSort_perm _ _).trans ((h.map _).trans (List.mergeSort_perm _ _).symm)
theorem strSort_len (l : List ByteArray) : (strSort l).length = l.length := by simp [strSort]

section
variable {P : Program} {w : World} {S : Nat → Prop} {e : TypeId} {base : Nat}
theorem chk_str {cs : List Value} {xs : List ByteArray} : Chk kS S w cs xs ↔ Chk (kSc encStr (fun _ => rfl)) S w cs (xs.map (·.data.toList)) := by
  constructor
  · intro h
    have := Chk.map (h1 := fun _ => rfl) h
    rw [this, ← enc_map]
    exact Chk.of_map _
  · intro h
    have := Chk.map (h1 := fun _ => rfl) h
    rw [this, enc_map]
    exact Chk.of_map (h1 := fun _ => rfl) _
theorem ow_str {v : Value} {xs : List ByteArray} : Ow kS e S base w v xs ↔ Ow (kSc encStr (fun _ => rfl)) e S base w v (xs.map (·.data.toList)) := by
  unfold Ow
  constructor
  · rintro ⟨cs, h1, h2, h3, h4⟩
    exact ⟨cs, by rw [List.length_map]; exact h1, chk_str.1 h2, by rw [List.length_map]; exact h3, h4⟩
  · rintro ⟨cs, h1, h2, h3, h4⟩
    rw [List.length_map] at h1 h3
    exact ⟨cs, h1, chk_str.2 h2, h3, h4⟩

theorem sortS_w {f : FuncId} (hc : ∀ (blk off cap : Nat) (ss : List (List UInt8)) (w : World), Holds encStr w blk off ss.toArray → blk < w.heap.size → ss.length < 4611686018427387904 →
      Calls P f #[.slice (some ⟨blk, off, none⟩) ss.length cap] w fun e w' => e = .returned (.tuple #[]) ∧ ∃ n os, w' = grow (putRow encStr (Sort.ahead w n) blk off (ss.mergeSort fun x y => decide (x ≤ y)).toArray) os)
    (hn : ∀ (p : Option Addr) (cap : Nat) (w : World), Calls P f #[.slice p 0 cap] w fun e w' => e = .returned (.tuple #[]) ∧ w' = w)
    {v0 : Value} {a0 r : List ByteArray} (_ : Sb S w) (h0 : Ow kS e S base w v0 a0) (h : strSort a0 = r) :
    Calls P f (List.toArray [v0]) w fun e' w1 => e' = .returned (.tuple (List.toArray [])) ∧ Up (Blk v0) w w1 ∧ Ow kS e S base w1 v0 r := by
  subst h
  have h0' := ow_str.1 h0
  have hback : ((strSort a0).map (·.data.toList)) = ((a0.map (·.data.toList)).mergeSort fun x y => decide (x ≤ y)) := by
    unfold strSort
    rw [List.map_map]
    conv => rhs; rw [← List.map_id ((a0.map (·.data.toList)).mergeSort fun x y => decide (x ≤ y))]
    rfl
  have hgoal : ∀ {w1 : World}, Ow (kSc encStr (fun _ => rfl)) e S base w1 v0 ((a0.map (·.data.toList)).mergeSort fun x y => decide (x ≤ y)) → Ow kS e S base w1 v0 (strSort a0) := fun h => ow_str.2 (by rw [hback]; exact h)
  have hl : (a0.map (·.data.toList)).length = a0.length := List.length_map _
  rcases Ow.cases h0' with ⟨rfl, h2⟩ | ⟨g, cap, cur, rfl, hb, hSg, hg, hnc, hm, hc', ht⟩
  · refine (hn none 0 w).mono fun e' w1 h => ⟨h.1, ?_⟩
    rw [h.2]
    refine ⟨Up.refl _ _, hgoal ?_⟩
    rw [h2]
    rw [h2] at h0'
    simpa using h0'
  · have hlim := h0'.lim
    unfold lim at hlim
    refine (hc g 0 cap (a0.map (·.data.toList)) w (Ow.holds h0') (Array.getElem?_eq_some_iff.1 hg).1 (by omega)).mono fun e' w1 h => ?_
    obtain ⟨he, n, os, hw⟩ := h
    refine ⟨he, ?_⟩
    subst hw
    have := Ow.put (n := n) (os := os) h0' ((a0.map (·.data.toList)).mergeSort fun x y => decide (x ≤ y)) _ (List.length_mergeSort _) ⟨[], (List.append_nil _).symm⟩
    rw [List.length_mergeSort] at this
    exact ⟨this.1, hgoal this.2⟩
end
end Go.Mg
