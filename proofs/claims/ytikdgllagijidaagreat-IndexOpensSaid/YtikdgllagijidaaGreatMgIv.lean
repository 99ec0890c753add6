/- Plain laws of the index: what a label is, of all series. -/
import Derived.Test.YtikdgllagijidaaGreatMgIi
import Derived.Test.YtikdgllagijidaaGreatMgSs
namespace Go.Proofs.YtikdgllagijidaaGreat
open Go Go.Mg
set_option linter.unusedVariables false
set_option linter.unusedSimpArgs false

theorem strSort_perm (l : List ByteArray) : (strSort l).Perm l := by
  unfold strSort
  refine ((List.mergeSort_perm _ _).map _).trans ?_
  rw [List.map_map]
  refine List.Perm.of_eq ((List.map_congr_left fun x _ => ?_).trans (List.map_id l))
  cases x; simp
theorem strSort_rise {l : List ByteArray} (hn : l.Nodup) : (strSort l).Pairwise fun a b => strLt a b = true := by
  have hnd : (strSort l).Nodup := (strSort_perm l).nodup_iff.2 hn
  have t : ∀ a b c : List UInt8, decide (a ≤ b) = true → decide (b ≤ c) = true → decide (a ≤ c) = true := fun a b c h1 h2 => by
    simp only [decide_eq_true_eq] at *; exact List.le_trans h1 h2
  have tot : ∀ a b : List UInt8, (decide (a ≤ b) || decide (b ≤ a)) = true := fun a b => by
    simp only [Bool.or_eq_true, decide_eq_true_eq]; exact List.le_total a b
  have hs : (strSort l).Pairwise fun a b => a.data.toList ≤ b.data.toList := by
    unfold strSort
    rw [List.pairwise_map]
    exact (List.pairwise_mergeSort t tot _).imp fun h => by simpa using h
  refine (hs.and hnd).imp fun {a b} ⟨h1, h2⟩ => ?_
  rw [strLt_eq]
  refine decide_eq_true ?_
  rcases List.le_iff_lt_or_eq.1 h1 with h | h
  · exact h
  · exact absurd (ba_ext h) h2

theorem XI.posts_len {x : index_Index} {A : Ser} (H : XI x A) : x.posts.length ≤ 1200 := by
  have h1 : ∀ y ∈ x.posts.map (·.1), y ∈ A.flatMap (·.2) := by
    intro y hy
    rw [mem_keys, H.posts] at hy
    cases hq : idsOf (has y) A with
    | nil => rw [hq] at hy; cases hy
    | cons i is =>
      obtain ⟨l, h1, h2⟩ := mem_idsOf.1 (show i ∈ idsOf (has y) A by rw [hq]; simp)
      exact List.mem_flatMap.2 ⟨_, h1, has_iff.1 h2⟩
  have h2 := H.postsN.length_le_of_subset h1
  have h3 : ∀ B : Ser, (∀ e ∈ B, rightS e.2 = true) → (B.flatMap (·.2)).length ≤ B.length * 6 := by
    intro B
    induction B with
    | nil => intro _; simp
    | cons e B ih =>
      intro h
      have h4 := ih fun y hy => h y (by simp [hy])
      have h5 := (rightS_iff.1 (h e (by simp))).2.2
      simp only [List.flatMap_cons, List.length_append, List.length_cons]; omega
  have h4 := h3 A H.ok
  have h5 := H.few
  rw [List.length_map] at h2
  omega

/-- What a label is, of all series. -/
theorem vals_eq {x : index_Index} {A : Ser} (H : XI x A) (s : ByteArray) : ∃ V, index_Index_Vals (some x) s = some V ∧ V.length ≤ 1200 ∧ V.Nodup ∧ (V.Pairwise fun a b => strLt a b = true) ∧ ∀ v, v ∈ V ↔ idsOf (has ⟨s, v⟩) A ≠ [] := by
  have hl := H.posts_len
  let W := ((x.posts.map (·.1)).filter fun y => y.Name == s).map (·.Val)
  have hmem : ∀ v, v ∈ W ↔ (⟨s, v⟩ : api_Label) ∈ x.posts.map (·.1) := by
    intro v
    constructor
    · intro h
      obtain ⟨y, h1, rfl⟩ := List.mem_map.1 h
      obtain ⟨h1, h2⟩ := List.mem_filter.1 h1
      rw [ba_beq, decide_eq_true_iff] at h2
      cases y
      dsimp only at h2 ⊢
      rw [← h2]; exact h1
    · intro h
      exact List.mem_map.2 ⟨⟨s, v⟩, List.mem_filter.2 ⟨h, by rw [ba_beq]; simp⟩, rfl⟩
  have hWn : W.Nodup := by
    refine List.pairwise_map.2 ?_
    refine List.Pairwise.imp_of_mem ?_ (H.postsN.filter _)
    intro a b ha hb hab e
    have ha := (List.mem_filter.1 ha).2
    have hb := (List.mem_filter.1 hb).2
    rw [ba_beq, decide_eq_true_iff] at ha hb
    refine hab ?_
    cases a; cases b
    simp_all
  refine ⟨strSort W, ?_, ?_, (strSort_perm W).nodup_iff.2 hWn, strSort_rise hWn, fun v => ?_⟩
  · unfold index_Index_Vals
    dsimp only
    rw [if_pos (by rw [limv]; omega)]
  · rw [strSort_len, List.length_map]
    have := List.length_filter_le (fun y : api_Label => y.Name == s) (x.posts.map (·.1))
    rw [List.length_map] at this
    omega
  · rw [(strSort_perm W).mem_iff, hmem, mem_keys, H.posts]
    cases idsOf (has ⟨s, v⟩) A <;> simp [ne]
end Go.Proofs.YtikdgllagijidaaGreat
