/- Plain laws of the index: what an index holds; a series is noted, and let go. -/
import Derived.Test.YtikdgllagijidaaGreatMgIe
namespace Go.Proofs.YtikdgllagijidaaGreat
open Go Go.Mg
set_option linter.unusedVariables false
set_option linter.unusedSimpArgs false

/-- Series, by their ids, rising. -/
abbrev Ser := List (Int × List api_Label)
/-- The ids of those series that are so. -/
def idsOf (p : List api_Label → Bool) (A : Ser) : List Int := (A.filter fun e => p e.2).map (·.1)
noncomputable def has (y : api_Label) (l : List api_Label) : Bool := decide (y ∈ l)
def hasN (n : ByteArray) (l : List api_Label) : Bool := l.any fun z => decide (z.Name = n)
theorem has_iff {y : api_Label} {l : List api_Label} : has y l = true ↔ y ∈ l := by unfold has; exact decide_eq_true_iff
theorem hasN_iff {n : ByteArray} {l : List api_Label} : hasN n l = true ↔ ∃ z ∈ l, z.Name = n := by unfold hasN; rw [List.any_eq_true]; simp
theorem hasN_snoc {n : ByteArray} {l : List api_Label} {z : api_Label} : hasN n (l ++ [z]) = (hasN n l || decide (z.Name = n)) := by unfold hasN; rw [List.any_append]; simp
theorem has_snoc {y : api_Label} {l : List api_Label} {z : api_Label} : has y (l ++ [z]) = (has y l || decide (y = z)) := by
  rw [Bool.eq_iff_iff, Bool.or_eq_true, has_iff, has_iff, List.mem_append]; simp
/-- None, if there are none. -/
def ne (l : List Int) : Option (List Int) := match l with | [] => none | x :: l => some (x :: l)
theorem ne_getD (l : List Int) : (ne l).getD [] = l := by cases l <;> rfl
theorem ne_some {l : List Int} (h : l ≠ []) : ne l = some l := by cases l with | nil => exact absurd rfl h | cons => rfl

/-- What an index holds. -/
structure XI (x : index_Index) (A : Ser) : Prop where
  g0 : 0 ≤ x.given ∧ x.given ≤ 4096
  rise : SR (A.map (·.1))
  rng : ∀ e ∈ A, 0 ≤ e.1 ∧ e.1 < x.given
  ok : ∀ e ∈ A, rightS e.2 = true
  uniq : A.Pairwise fun a b => a.2 ≠ b.2
  few : A.length ≤ 200
  serN : (x.series.map (·.1)).Nodup
  ser : ∀ id, mget id x.series = mget id A
  ids : ∀ e ∈ A, mget (keyS e.2) x.ids = some e.1
  ids2 : ∀ k id, mget k x.ids = some id → ∃ l, (id, l) ∈ A ∧ keyS l = k
  postsN : (x.posts.map (·.1)).Nodup
  posts : ∀ y, mget y x.posts = ne (idsOf (has y) A)
  names : ∀ n, mget n x.names = ne (idsOf (hasN n) A)

section
variable {A : Ser} {p : List api_Label → Bool} {id : Int} {l : List api_Label}
theorem mem_idsOf : id ∈ idsOf p A ↔ ∃ l, (id, l) ∈ A ∧ p l = true := by
  unfold idsOf
  simp only [List.mem_map, List.mem_filter]
  constructor
  · rintro ⟨⟨a, b⟩, ⟨h1, h2⟩, rfl⟩; exact ⟨b, h1, h2⟩
  · rintro ⟨l, h1, h2⟩; exact ⟨(id, l), ⟨h1, h2⟩, rfl⟩
theorem idsOf_sub : (idsOf p A).Sublist (A.map (·.1)) := (List.filter_sublist).map _
theorem idsOf_sr (h : SR (A.map (·.1))) : SR (idsOf p A) := List.Pairwise.sublist idsOf_sub h
theorem idsOf_len : (idsOf p A).length ≤ A.length := by have := (idsOf_sub (p := p) (A := A)).length_le; simpa using this
theorem idsOf_append : idsOf p (A ++ [(id, l)]) = idsOf p A ++ if p l = true then [id] else [] := by
  unfold idsOf
  rw [List.filter_append, List.map_append]
  cases h : p l <;> simp [List.filter_cons, h]
theorem idsOf_good (h : SR (A.map (·.1))) (h0 : ∀ e ∈ A, 0 ≤ e.1) (hl : A.length ≤ 4096) : Good (idsOf p A) :=
  good_of (idsOf_sr h) (fun x hx => by
    obtain ⟨l, h1, _⟩ := mem_idsOf.1 hx
    exact h0 _ h1) (Nat.le_trans idsOf_len hl)
theorem get_mem (h : SR (A.map (·.1))) : mget id A = some l ↔ (id, l) ∈ A := by
  induction A with
  | nil => simp [mget]
  | cons e A ih =>
    rw [List.map_cons] at h
    replace h := List.pairwise_cons.1 h
    rw [mget_cons, List.mem_cons]
    by_cases he : id = e.1
    · subst he
      rw [if_pos rfl]
      constructor
      · intro h2; cases h2; exact .inl rfl
      · rintro (h2 | h2)
        · rw [← h2]
        · have := h.1 e.1 (List.mem_map.2 ⟨_, h2, rfl⟩); omega
    · rw [if_neg he, ih h.2]
      constructor
      · exact .inr
      · rintro (h2 | h2)
        · exact absurd (by rw [← h2]) he
        · exact h2
theorem idsOf_drop : idsOf p (A.filter fun e => decide (e.1 ≠ id)) = (idsOf p A).filter fun i => decide (i ≠ id) := by
  unfold idsOf
  rw [List.filter_map, List.filter_filter, List.filter_filter]
  congr 1
  refine List.filter_congr fun e _ => ?_
  simp [Bool.and_comm]
end

/-- A rising list with a greater number. -/
theorem with_end {B : List Int} {id : Int} (hB : Good B) (hl : B.length ≤ 200) (h0 : 0 ≤ id) (hlt : ∀ x ∈ B, x < id) : post_With B id = some (B ++ [id], 0) ∧ post_With (B ++ [id]) id = some (B ++ [id], 0) := by
  have hE : SR (B ++ [id]) := hB.1.1.append (by simp) fun x hx y hy => by simp at hy; subst hy; exact hlt x hx
  have gE : Good (B ++ [id]) := good_of hE (fun x hx => by
    rcases List.mem_append.1 hx with hx | hx
    · exact hB.1.2 x hx
    · simp at hx; omega) (by simp; omega)
  constructor
  · obtain ⟨r, h1, h2, _, h3⟩ := with_good hB h0 (by omega)
    rw [h1, SR.ext h2.1.1 hE fun x => by rw [h3]; simp]
  · obtain ⟨r, h1, h2, _, h3⟩ := with_good gE h0 (by simp; omega)
    rw [h1, SR.ext h2.1.1 hE fun x => by rw [h3]; simp]
/-- A rising list without a number. -/
theorem less_eq {B : List Int} {id : Int} (hB : Good B) (h0 : 0 ≤ id) : index_less B id = some (B.filter fun i => decide (i ≠ id)) := by
  have g1 : Good [id] := good_of (by simp) (fun x hx => by simp at hx; omega) (by simp)
  obtain ⟨r, h1, h2, _, h3⟩ := minus_good hB g1
  unfold index_less
  rw [h1, Option.bind_some]
  congr 1
  exact SR.ext h2.1.1 (hB.1.1.filter _) fun x => by rw [h3]; simp

theorem XI.good {x : index_Index} {A : Ser} (H : XI x A) (p : List api_Label → Bool) : Good (idsOf p A) := idsOf_good H.rise (fun e he => (H.rng e he).1) (Nat.le_trans H.few (by decide))

/-- A series is noted behind the others. -/
theorem put_eq {x : index_Index} {A : Ser} {id : Int} {l : List api_Label} (H : XI x A) (h0 : 0 ≤ id) (hg : id < x.given) (hlt : ∀ e ∈ A, e.1 < id) (hl : rightS l = true) (hn : ∀ e ∈ A, e.2 ≠ l) (hf : A.length < 200) :
    ∃ x', index_Index_put x id l (keyS l) = some x' ∧ XI x' (A ++ [(id, l)]) ∧ x'.given = x.given := by
  have hnone : mget id A = none := by
    cases h : mget id A with
    | none => rfl
    | some m => have := hlt _ ((get_mem H.rise).1 h); dsimp only at this; omega
  have hlen := (rightS_iff.1 hl).2.2
  have wE : ∀ p, post_With (idsOf p A) id = some (idsOf p A ++ [id], 0) ∧ post_With (idsOf p A ++ [id]) id = some (idsOf p A ++ [id], 0) := fun p =>
    with_end (H.good p) (Nat.le_trans idsOf_len H.few) h0 fun i hi => by
      obtain ⟨m, h1, _⟩ := mem_idsOf.1 hi
      exact hlt _ h1
  unfold index_Index_put
  rw [pur_eq, pur_eq]
  obtain ⟨r, e1, r1, r2, r3, r4, r5, r6⟩ := iter_inv (step := fun s : Int × index_Index => index_Index_put.b1 id l s.1 s.2) (fun s i => (i, s)) l
    (fun s i => s.series = mput id l x.series ∧ s.ids = mput (keyS l) id x.ids ∧ s.given = x.given ∧ (s.posts.map (·.1)).Nodup ∧
      (∀ y, mget y s.posts = ne (if has y (l.take i) = true then idsOf (has y) A ++ [id] else idsOf (has y) A)) ∧ ∀ n, mget n s.names = ne (if hasN n (l.take i) = true then idsOf (hasN n) A ++ [id] else idsOf (hasN n) A))
    (fun s => s.series = mput id l x.series ∧ s.ids = mput (keyS l) id x.ids ∧ s.given = x.given ∧ (s.posts.map (·.1)).Nodup ∧
      (∀ y, mget y s.posts = ne (if has y l = true then idsOf (has y) A ++ [id] else idsOf (has y) A)) ∧ ∀ n, mget n s.names = ne (if hasN n l = true then idsOf (hasN n) A ++ [id] else idsOf (hasN n) A)) (by
    rintro s i z hz ⟨s1, s2, s3, s4, s5, s6⟩
    left
    have hi := lt_of_get hz
    have ew : ∀ (c : Prop) [Decidable c] (p), post_With ((ne (if c then idsOf p A ++ [id] else idsOf p A)).getD []) id = some (idsOf p A ++ [id], 0) := by
      intro c _ p
      rw [ne_getD]
      by_cases hc : c
      · rw [if_pos hc]; exact (wE p).2
      · rw [if_neg hc]; exact (wE p).1
    refine ⟨{ s with posts := mput z (idsOf (has z) A ++ [id]) s.posts, names := mput z.Name (idsOf (hasN z.Name) A ++ [id]) s.names }, ?_, s1, s2, s3, mput_keys s4, fun y => ?_, fun n => ?_⟩
    · unfold index_Index_put.b1
      dsimp only
      rw [decide_eq_true (by omega), cond_true, at_nat hz, Option.bind_some, pur_eq, s5, ew, Option.bind_some, pur_eq, s6, ew, Option.bind_some, pur_eq, pur_eq, wrap64 (by omega) (by omega)]
      rfl
    · rw [mget_mput, List.take_add_one, hz, Option.toList_some, has_snoc]
      by_cases hy : y = z
      · subst hy
        rw [if_pos rfl, if_pos (by simp), ne_some (by simp)]
      · rw [if_neg hy, s5, decide_eq_false hy, Bool.or_false]
    · rw [mget_mput, List.take_add_one, hz, Option.toList_some, hasN_snoc]
      by_cases hy : n = z.Name
      · subst hy
        rw [if_pos rfl, if_pos (by simp), ne_some (by simp)]
      · rw [if_neg hy, s6, decide_eq_false (fun e => hy e.symm), Bool.or_false]) (by
    rintro s ⟨s1, s2, s3, s4, s5, s6⟩
    rw [List.take_length] at s5 s6
    refine ⟨s, ?_, s1, s2, s3, s4, s5, s6⟩
    unfold index_Index_put.b1
    dsimp only
    rw [decide_eq_false (by omega)]; rfl) { x with series := mput id l x.series, ids := mput (keyS l) id x.ids } ⟨rfl, rfl, rfl, H.postsN, fun y => by rw [H.posts]; simp [has], fun n => by rw [H.names]; simp [hasN]⟩
  refine ⟨r, e1, ?_, r3⟩
  have hkey : ∀ e ∈ A, keyS e.2 ≠ keyS l := fun e he h => hn e he (keyS_inj (H.ok e he) hl h)
  constructor
  · rw [r3]; exact H.g0
  · rw [List.map_append]
    exact H.rise.append (by simp) fun a ha b hb => by
      simp at hb; subst hb
      obtain ⟨e, he, rfl⟩ := List.mem_map.1 ha
      exact hlt e he
  · intro e he
    rw [r3]
    rcases List.mem_append.1 he with he | he
    · exact H.rng e he
    · simp at he; subst he; exact ⟨h0, hg⟩
  · intro e he
    rcases List.mem_append.1 he with he | he
    · exact H.ok e he
    · simp at he; subst he; exact hl
  · rw [List.pairwise_append]
    exact ⟨H.uniq, by simp, fun a ha b hb => by simp at hb; subst hb; exact hn a ha⟩
  · simp; omega
  · rw [r1]; exact mput_keys H.serN
  · intro i
    rw [r1, mget_mput, H.ser]
    by_cases hi : i = id
    · subst hi
      rw [if_pos rfl]
      unfold mget
      rw [List.find?_append]
      unfold mget at hnone
      rw [Option.map_eq_none_iff] at hnone
      rw [hnone]; simp
    · rw [if_neg hi]
      unfold mget
      rw [List.find?_append]
      simp [hi]
  · intro e he
    rw [r2, mget_mput]
    rcases List.mem_append.1 he with he | he
    · rw [if_neg (hkey e he)]; exact H.ids e he
    · simp at he; subst he; rw [if_pos rfl]
  · intro k i hk
    rw [r2, mget_mput] at hk
    split at hk
    · rename_i he; subst he
      cases hk
      exact ⟨l, by simp, rfl⟩
    · obtain ⟨m, h1, h2⟩ := H.ids2 k i hk
      exact ⟨m, by simp [h1], h2⟩
  · exact r4
  · intro y
    rw [r5, idsOf_append]
    cases hy : has y l <;> simp
  · intro n
    rw [r6, idsOf_append]
    cases hy : hasN n l <;> simp

theorem XI.more {x : index_Index} {A : Ser} (H : XI x A) {g : Int} (h : x.given ≤ g) (hg : g ≤ 4096) : XI { x with given := g } A :=
  ⟨⟨by have := H.g0.1; dsimp only; omega, hg⟩, H.rise, fun e he => by have := H.rng e he; dsimp only; omega, H.ok, H.uniq, H.few, H.serN, H.ser, H.ids, H.ids2, H.postsN, H.posts, H.names⟩
theorem xi_new : XI ⟨[], [], [], [], 0⟩ [] :=
  ⟨⟨by decide, by decide⟩, .nil, by simp, by simp, .nil, by simp, by simp, fun _ => rfl, by simp, by simp [mget], by simp, fun _ => rfl, fun _ => rfl⟩

theorem XI.keys {x : index_Index} {A : Ser} (H : XI x A) : ((x.series.map (·.1)).Perm (A.map (·.1))) := by
  refine (List.perm_ext_iff_of_nodup H.serN H.rise.nodup).2 fun id => ?_
  rw [mem_keys, mem_keys, H.ser]
theorem XI.slen {x : index_Index} {A : Ser} (H : XI x A) : x.series.length = A.length := by simpa using H.keys.length_eq
/-- All ids, rising. -/
theorem all_eq {x : index_Index} {A : Ser} (H : XI x A) : index_Index_all x = some (A.map (·.1)) := by
  unfold index_Index_all keys_
  rw [if_pos (by have := H.slen; have := H.few; rw [limv]; simp; omega)]
  congr 1
  rw [keys_perm H.keys]
  have t : ∀ a b c : Int, decide (a ≤ b) = true → decide (b ≤ c) = true → decide (a ≤ c) = true := fun a b c h1 h2 => by simp at *; omega
  have tot : ∀ a b : Int, (decide (a ≤ b) || decide (b ≤ a)) = true := fun a b => by simp; omega
  refine List.mergeSort_of_pairwise ?_
  exact H.rise.imp fun h => by simp; omega

/-! ### Add, Id -/
theorem ids_look {x : index_Index} {A : Ser} (H : XI x A) {l : List api_Label} (hl : rightS l = true) :
    (∃ id, (id, l) ∈ A ∧ mget (keyS l) x.ids = some id) ∨ (∀ e ∈ A, e.2 ≠ l) ∧ mget (keyS l) x.ids = none := by
  cases h : mget (keyS l) x.ids with
  | none => exact .inr ⟨fun e he h2 => (by have := H.ids e he; rw [h2, h] at this; cases this), rfl⟩
  | some id =>
    obtain ⟨m, h1, h2⟩ := H.ids2 _ _ h
    have := keyS_inj (H.ok _ h1) hl h2
    dsimp only at this
    subst this
    exact .inl ⟨id, h1, rfl⟩
theorem XI.id_uniq {x : index_Index} {A : Ser} (H : XI x A) {l : List api_Label} {i j : Int} (hi : (i, l) ∈ A) (hj : (j, l) ∈ A) : i = j := by
  have h1 := H.ids _ hi
  have h2 := H.ids _ hj
  exact Option.some.inj (h1.symm.trans h2)

/-- A series' number. -/
theorem add_eq {x : index_Index} {A : Ser} (H : XI x A) {l : List api_Label} (hl : l.length < 20) :
    ((∀ m, m.Perm l → rightS m = false) ∧ index_Index_Add (some x) l = some (0, 50, some x)) ∨
    ∃ r, rightS r = true ∧ r.Perm l ∧
      ((∃ id, (id, r) ∈ A ∧ index_Index_Add (some x) l = some (id, 0, some x)) ∨
       (∀ e ∈ A, e.2 ≠ r) ∧ ((200 ≤ A.length ∨ 4096 ≤ x.given) ∧ index_Index_Add (some x) l = some (0, 4, some x) ∨
         A.length < 200 ∧ x.given < 4096 ∧ ∃ x', index_Index_Add (some x) l = some (x.given, 0, some x') ∧ XI x' (A ++ [(x.given, r)]) ∧ x'.given = x.given + 1)) := by
  have hg := H.g0
  unfold index_Index_Add
  rw [show (some x).isNone = false from rfl, cond_false]
  rcases index_keyS hl with ⟨r, h1, h2, h3⟩ | ⟨h1, h2⟩
  · refine .inr ⟨r, h1, h2, ?_⟩
    rw [h3]
    simp only [Option.bind_some, bne_self_eq_false, cond_false]
    rcases ids_look H h1 with ⟨id, h4, h5⟩ | ⟨h4, h5⟩
    · refine .inl ⟨id, h4, ?_⟩
      rw [h5]; rfl
    · refine .inr ⟨h4, ?_⟩
      rw [h5]
      simp only [Option.isSome_none, cond_false]
      by_cases hA : 200 ≤ A.length
      · left
        refine ⟨.inl hA, ?_⟩
        rw [decide_eq_true (by have := H.slen; omega)]; rfl
      · rw [decide_eq_false (by have := H.slen; omega)]
        by_cases hG : 4096 ≤ x.given
        · left
          refine ⟨.inr hG, ?_⟩
          rw [decide_eq_true (by omega)]; rfl
        · right
          rw [decide_eq_false (by omega)]
          simp only [cond_false, Option.bind_some, Sum.elim_inl, pur_eq]
          rw [wrap64 (by omega) (by omega)]
          obtain ⟨x', p1, p2, p3⟩ := put_eq (H.more (g := x.given + 1) (by omega) (by omega)) (id := x.given) (l := r) (by omega) (by dsimp only; omega) (fun e he => (H.rng e he).2) h1 h4 (by omega)
          refine ⟨by omega, by omega, x', ?_, p2, p3⟩
          rw [p1]; rfl
  · refine .inl ⟨h1, ?_⟩
    rw [h2]; rfl
theorem id_eq {x : index_Index} {A : Ser} (H : XI x A) {l : List api_Label} (hl : l.length < 20) :
    ((∀ m, m.Perm l → rightS m = false) ∧ index_Index_Id (some x) l = some (0, false)) ∨
    ∃ r, rightS r = true ∧ r.Perm l ∧ ((∃ id, (id, r) ∈ A ∧ index_Index_Id (some x) l = some (id, true)) ∨ (∀ e ∈ A, e.2 ≠ r) ∧ index_Index_Id (some x) l = some (0, false)) := by
  unfold index_Index_Id
  rcases index_keyS hl with ⟨r, h1, h2, h3⟩ | ⟨h1, h2⟩
  · refine .inr ⟨r, h1, h2, ?_⟩
    rw [h3]
    simp only [Option.bind_some, bne_self_eq_false, Option.isNone_some, cond_false, Sum.elim_inl]
    rcases ids_look H h1 with ⟨id, h4, h5⟩ | ⟨h4, h5⟩
    · exact .inl ⟨id, h4, by rw [h5]; rfl⟩
    · exact .inr ⟨h4, by rw [h5]; rfl⟩
  · refine .inl ⟨h1, ?_⟩
    rw [h2]; rfl
theorem labels_eq {x : index_Index} {A : Ser} (H : XI x A) (id : Int) : index_Index_Labels (some x) id = some ((mget id A).getD [], (mget id A).isSome) := by
  unfold index_Index_Labels slices_Clone_api_Label_api_Label
  rw [show (some x).isNone = false from rfl, cond_false]
  simp only [Option.bind_some]
  rw [H.ser]
  cases h : mget id A with
  | none => rw [clone_ok (by simp)]; rfl
  | some l =>
    have := (rightS_iff.1 (H.ok _ ((get_mem H.rise).1 h))).2.2
    dsimp only at this
    rw [clone_ok (by rw [limv]; simp only [Option.getD_some]; omega)]; rfl
end Go.Proofs.YtikdgllagijidaaGreat
