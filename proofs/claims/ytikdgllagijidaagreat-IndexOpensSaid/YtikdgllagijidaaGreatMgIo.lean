/- The document's index beside ours: what is done, and what is seen, is alike. -/
import Derived.Test.YtikdgllagijidaaGreatMgIn
namespace Go.Proofs.YtikdgllagijidaaGreat
open Go Go.Mg
set_option linter.unusedVariables false
set_option linter.unusedSimpArgs false

/-! ### The document's bytes -/
theorem ref_put_loop : ∀ (n : Nat) (out : List Int), n < 2 ^ 64 → out.length + (vint n).length < 1000000 → ∃ (m : Nat) (o : List Int), m < 128 ∧ iter (fun s : Int × (List Int) => marigraphref01_Put.b2 s.1 s.2) ((n : Int), out) = some ((m : Int), o) ∧ o ++ [(m : Int)] = out ++ vint n := by
  intro n
  induction n using Nat.strongRecOn with
  | _ n ih =>
    intro out hn hl
    by_cases h : n < 128
    · refine ⟨n, out, h, iter_end ?_, by rw [vint_low h]⟩
      unfold marigraphref01_Put.b2
      dsimp only
      rw [decide_eq_false (by omega)]; rfl
    · rw [vint_high h] at hl
      simp only [List.length_cons] at hl
      obtain ⟨m, o, h1, h2, h3⟩ := ih (n / 128) (by omega) (out ++ [((n % 128 + 128 : Nat) : Int)]) (by omega) (by simp; omega)
      refine ⟨m, o, h1, ?_, by rw [h3, vint_high h]; simp⟩
      rw [← h2]
      refine iter_next ?_
      unfold marigraphref01_Put.b2
      dsimp only
      rw [decide_eq_true (by omega), cond_true, pur_eq, pur_eq, pur_eq]
      have e1 : Int.tmod (n : Int) 128 = ((n % 128 : Nat) : Int) := by rw [Int.tmod_eq_emod_of_nonneg (by omega)]; omega
      have e2 : Int.tdiv (n : Int) 128 = ((n / 128 : Nat) : Int) := by rw [Int.tdiv_eq_ediv_of_nonneg (by omega)]; omega
      rw [e1, e2, wrapu64 (x := ((n % 128 : Nat) : Int) + 128) (by omega) (by omega), show ((n % 128 : Nat) : Int) + 128 = ((n % 128 + 128 : Nat) : Int) by omega, u8_low (by omega), app_ok (by rw [limv]; simp; omega), Option.bind_some, pur_eq, wu64 (by omega)]
theorem ref_put {a : List Int} {n : Nat} (ha : a.length < 900000) (hn : n < 2 ^ 64) : marigraphref01_Put a (n : Int) = some (a ++ vint n) := by
  have hv := vint_len hn
  unfold marigraphref01_Put
  rw [app_ok (by rw [limv]; simp; omega), Option.bind_some, List.nil_append]
  obtain ⟨m, o, h1, h2, h3⟩ := ref_put_loop n a hn (by omega)
  have hlen := congrArg List.length h3
  simp only [List.length_append, List.length_singleton] at hlen
  rw [h2]
  simp only [Option.bind_some, pur_eq]
  rw [u8_low (by omega), app_ok (by rw [limv]; simp; omega), h3]
  rfl
theorem ref_putText {a : List Int} {s : ByteArray} (ha : a.length < 800000) (hs : s.size < 1000) : marigraphref01_PutText a s = some (a ++ encT s) := by
  unfold marigraphref01_PutText
  have hv := vint_len2 (n := s.size) (by omega)
  rw [pur_eq, wu64 (by omega), ref_put (by omega) (by omega), Option.bind_some, app_ok (by rw [limv, strB_length]; simp; omega)]
  simp [encT]
theorem ref_putL {l : List api_Label} (h : rightS l = true) : marigraphref05_Put l = some (encL l, 0) := by
  obtain ⟨h1, _, h2, h3⟩ := rightS_iff.1 h
  unfold marigraphref05_Put
  rw [ref_right (by omega) (fun x hx => by have := okL_size (h1 x hx); omega), h, Option.bind_some, Bool.not_true, cond_false, pur_eq, wu64 (by omega), ref_put (by simp) (by omega), Option.bind_some, List.nil_append]
  obtain ⟨r, e1, rfl⟩ := iter_inv (step := fun s : (List Int) × Int => marigraphref05_Put.b2 l s.1 s.2) (fun s i => (s, i)) l (fun s i => s = vint l.length ++ (l.take i).flatMap encX) (fun r => r = encL l) (by
    intro s i x hx hs
    subst hs
    left
    have hi := lt_of_get hx
    have hok := okL_size (h1 x (List.mem_of_getElem? hx))
    have h4 := encs_len (l := l.take i) fun y hy => h1 y (List.mem_of_mem_take hy)
    have h5 := vint_len2 (n := l.length) (by omega)
    have h6 := encT_len (s := x.Name) (by omega)
    have htl : (l.take i).length ≤ 6 := by rw [List.length_take]; omega
    refine ⟨_, ?_, rfl⟩
    unfold marigraphref05_Put.b2
    dsimp only
    rw [decide_eq_true (by omega), cond_true, at_nat hx, Option.bind_some, ref_putText (by simp only [List.length_append]; omega) (by omega), Option.bind_some, Option.bind_some,
      ref_putText (by simp only [List.length_append]; omega) (by omega), Option.bind_some, pur_eq, wrap64 (by omega) (by omega), List.take_add_one, hx]
    simp [encX]
    ) (by
    intro s hs
    subst hs
    refine ⟨_, ?_, rfl⟩
    unfold marigraphref05_Put.b2
    dsimp only
    rw [decide_eq_false (by omega), cond_false, List.take_length]
    rfl) (vint l.length) (by simp)
  rw [e1]
  rfl
/-! ### Add, Id: both -/
section
variable {x : index_Index} {A : Ser} {l : List api_Label}
theorem perm_r2 {r q : List api_Label} (h : rightS r = true) (hp : r.Perm l) (hq : rightS q = true) (hqp : q.Perm l) : q = r := right_uniq h (hqp.trans hp.symm) (rightS_nle hq)
theorem find_in (H : XI x A) {r : List api_Label} {id : Int} (hm : (id, r) ∈ A) : ∃ k : Nat, A.findIdx? (fun e => decide (e.2 = r)) = some k ∧ A[k]? = some (id, r) := by
  cases hq : A.findIdx? (fun e => decide (e.2 = r)) with
  | none => have := idx_none hq _ hm; simp at this
  | some k =>
    obtain ⟨e, he, hp⟩ := idx_some hq
    have hp := of_decide_eq_true hp
    refine ⟨k, rfl, ?_⟩
    have h1 : (e.1, r) ∈ A := by rw [← hp]; exact List.mem_of_getElem? he
    rw [he, ← hp, ← H.id_uniq h1 hm]
theorem find_out {r : List api_Label} (hn : ∀ e ∈ A, e.2 ≠ r) : A.findIdx? (fun e => decide (e.2 = r)) = none := by
  rw [List.findIdx?_eq_none_iff]
  intro e he
  exact decide_eq_false (hn e he)

theorem add_alike (H : XI x A) (hl : l.length < 20) (hs : ∀ x ∈ l, x.Name.size < 1000000) :
    ∃ i e x' A', index_Index_Add (some x) l = some (i, e, some x') ∧ marigraphref08_Index_Add (wOf A x.given) l = some (i, e, wOf A' x'.given) ∧ XI x' A' := by
  have hf := H.few
  have hg := H.g0
  unfold marigraphref08_Index_Add
  rcases ref_sort hl hs with ⟨q, b1, b2, b3⟩ | ⟨b1, b2⟩
  · rw [b3, Option.bind_some]
    dsimp only
    rw [show ((0 : Int) != 0) = false from rfl, cond_false, w_find (by omega) H.ok, Option.bind_some]
    rcases add_eq H hl with ⟨a1, _⟩ | ⟨r, a1, a2, a3⟩
    · rw [a1 q b2] at b1; cases b1
    · obtain rfl := perm_r2 a1 a2 b1 b2
      rcases a3 with ⟨i, c1, c2⟩ | ⟨c1, c2⟩
      · obtain ⟨k, k1, k2⟩ := find_in H c1
        rw [k1]
        simp only []
        rw [decide_eq_true (by omega), cond_true, at_mk k2]
        exact ⟨_, _, x, A, c2, rfl, H⟩
      · rw [find_out c1]
        dsimp only
        rw [show decide ((0 : Int) ≤ -1) = false from rfl, cond_false]
        rcases c2 with ⟨c2, c3⟩ | ⟨c2, c3, x', c4, c5, c6⟩
        · refine ⟨_, _, x, A, c3, ?_, H⟩
          have : ((bif (decide ((200 : Int) ≤ ((wOf A x.given).S.length : Int))) then some true else some (decide ((4096 : Int) ≤ (wOf A x.given).Given)))) = some true := by
            rw [len_mk]
            by_cases h : 200 ≤ A.length
            · rw [decide_eq_true (by omega)]; rfl
            · have h2 : 4096 ≤ x.given := c2.resolve_left h
              rw [decide_eq_false (by omega), cond_false]
              exact congrArg some (decide_eq_true h2)
          rw [this]; rfl
        · refine ⟨_, _, x', _, c4, ?_, c5⟩
          have : ((bif (decide ((200 : Int) ≤ ((wOf A x.given).S.length : Int))) then some true else some (decide ((4096 : Int) ≤ (wOf A x.given).Given)))) = some false := by
            rw [len_mk, decide_eq_false (by omega), cond_false]
            exact congrArg some (decide_eq_false (by simp only [wOf]; omega))
          rw [this]
          simp only [Option.bind_some, cond_false, Sum.elim_inl, pur_eq]
          rw [app_ok (by rw [limv]; simp [len_mk]; omega), Option.bind_some, app_ok (by rw [limv]; simp [len_mk]; omega), Option.bind_some]
          rw [show (wOf A x.given).Given = x.given from rfl, wrap64 (by omega) (by omega), c6]
          simp [wOf, mkS]
  · rw [b2, Option.bind_some]
    rcases add_eq H hl with ⟨a1, a2⟩ | ⟨r, a1, a2, a3⟩
    · exact ⟨_, _, x, A, a2, rfl, H⟩
    · rw [b1 r a2] at a1; cases a1
theorem id_alike (H : XI x A) (hl : l.length < 20) (hs : ∀ x ∈ l, x.Name.size < 1000000) :
    ∃ i b, index_Index_Id (some x) l = some (i, b) ∧ marigraphref08_Index_Id (wOf A x.given) l = some (i, b) := by
  have hf := H.few
  unfold marigraphref08_Index_Id
  rcases ref_sort hl hs with ⟨q, b1, b2, b3⟩ | ⟨b1, b2⟩
  · rw [b3, Option.bind_some]
    dsimp only
    rw [w_find (by omega) H.ok, Option.bind_some, show ((0 : Int) != 0) = false from rfl, cond_false]
    rcases id_eq H hl with ⟨a1, _⟩ | ⟨r, a1, a2, a3⟩
    · rw [a1 q b2] at b1; cases b1
    · obtain rfl := perm_r2 a1 a2 b1 b2
      rcases a3 with ⟨i, c1, c2⟩ | ⟨c1, c2⟩
      · obtain ⟨k, k1, k2⟩ := find_in H c1
        rw [k1]
        simp only []
        rw [decide_eq_false (by omega)]
        simp only [Option.bind_some, cond_false, Sum.elim_inl]
        rw [at_mk k2]
        exact ⟨_, _, c2, rfl⟩
      · rw [find_out c1]
        exact ⟨_, _, c2, rfl⟩
  · rw [b2, Option.bind_some, w_find (by omega) H.ok, Option.bind_some]
    rcases id_eq H hl with ⟨a1, a2⟩ | ⟨r, a1, a2, a3⟩
    · exact ⟨_, _, a2, rfl⟩
    · rw [b1 r a2] at a1; cases a1
end

/-! ### IndexPlays -/
theorem does_ok {x : index_Index} {A : Ser} (H : XI x A) (a : marigraphlaw08_Act) :
    ∃ x' A', marigraphlaw08_does (some x) (wOf A x.given) a = some (true, some x', wOf A' x'.given) ∧ XI x' A' := by
  have hf := H.few
  unfold marigraphlaw08_does
  rw [pur_eq]
  by_cases h3 : Int.tmod a.Kind 5 = 3
  · rw [show (Int.tmod a.Kind 5 == 3) = true by simp [h3], cond_true]
    rw [w_drop H.rise (by omega)]
    rcases drop_eq H a.Id with ⟨d1, d2⟩ | ⟨l, d1, x', d2, d3, d4⟩
    · rw [d2, d1]
      exact ⟨x, A, rfl, H⟩
    · rw [d2, (get_mem H.rise).2 d1]
      refine ⟨x', offS a.Id A, ?_, d3⟩
      rw [d4]; rfl
  rw [beqF h3, cond_false]
  by_cases h4 : Int.tmod a.Kind 5 = 4
  · rw [show (Int.tmod a.Kind 5 == 4) = true by simp [h4], cond_true]
    obtain ⟨q, q1, q2, q3⟩ := some_eq a.A
    rw [q1]
    simp only [Option.bind_some]
    rw [find_eq H, w_Find (by omega) H.ok (by omega) fun y hy => by have := q3 y hy; omega]
    simp only [Option.bind_some]
    rw [ints_eq (by split; exact (H.good _).lim; simp), decide_eq_true rfl]
    simp only [Option.bind_some, cond_true, beq_self_eq_true]
    exact ⟨x, A, rfl, H⟩
  · rw [beqF h4, cond_false]
    obtain ⟨f, f1, f2, f3⟩ := few_eq a.L
    rw [f1]
    simp only [Option.bind_some]
    obtain ⟨i, e, x', A', g1, g2, H'⟩ := add_alike H (l := f) (by omega) fun y hy => by have := f3 y hy; omega
    rw [g1, g2]
    refine ⟨x', A', ?_, H'⟩
    simp
theorem seen_ok {x : index_Index} {A : Ser} (H : XI x A) (a : marigraphlaw08_Act) : marigraphlaw08_seen (some x) (wOf A x.given) a = some true := by
  have hf := H.few
  unfold marigraphlaw08_seen
  obtain ⟨f, f1, f2, f3⟩ := few_eq a.L
  obtain ⟨i, b, g1, g2⟩ := id_alike H (l := f) (by omega) fun y hy => by have := f3 y hy; omega
  rw [f1]
  simp only [Option.bind_some]
  rw [g1, g2]
  simp only [Option.bind_some]
  rw [labels_eq H, w_labels H.rise (by omega)]
  simp only [Option.bind_some]
  obtain ⟨r, e2, rfl⟩ := iter_inv (step := fun s : Int => marigraphlaw08_seen.b2 (some x) (wOf A x.given) f s) (fun (_ : Unit) i => i) f (fun _ _ => True) (fun r => r = .inl ()) (by
    rintro s j y hy -
    left
    have hj := lt_of_get hy
    refine ⟨(), ?_, trivial⟩
    unfold marigraphlaw08_seen.b2
    rw [decide_eq_true (by omega), cond_true, at_nat hy, Option.bind_some, pur_eq, post_eq H, Option.bind_some, w_post (by omega) H.ok, Option.bind_some, ints_eq (H.good _).lim, decide_eq_true rfl, Option.bind_some]
    obtain ⟨V, v1, v2, v3, v4, v5⟩ := vals_eq H y.Name
    obtain ⟨W, w1, w2, w3⟩ := w_vals (g := x.given) (by omega : A.length < 100000) H.ok y.Name
    have hVW : V = W := rise_ext v4 w2 fun v => by
      rw [v5, w3]
      constructor
      · intro h
        cases hq : idsOf (has ⟨y.Name, v⟩) A with
        | nil => exact absurd hq h
        | cons k ks =>
          obtain ⟨m, h1, h2⟩ := mem_idsOf.1 (show k ∈ idsOf (has ⟨y.Name, v⟩) A by rw [hq]; simp)
          exact ⟨_, h1, (getS_iff (H.ok _ h1)).2 (has_iff.1 h2)⟩
      · rintro ⟨e, h1, h2⟩ h3
        have : e.1 ∈ idsOf (has ⟨y.Name, v⟩) A := mem_idsOf.2 ⟨e.2, h1, has_iff.2 ((getS_iff (H.ok _ h1)).1 h2)⟩
        rw [h3] at this; cases this
    rw [v1, w1, ← hVW]
    simp only [Bool.not_true, cond_false, Option.bind_some]
    rw [strings_eq (by omega), decide_eq_true rfl]
    simp only [Bool.not_true, cond_false, Option.bind_some, Sum.elim_inl, pur_eq]
    rw [wrap64 (by omega) (by omega)]; rfl) (by
    rintro s -
    refine ⟨.inl (), ?_, rfl⟩
    unfold marigraphlaw08_seen.b2
    rw [decide_eq_false (by omega)]; rfl) () trivial
  rw [e2]
  simp only [Option.bind_some, Sum.elim_inl, beq_self_eq_true, cond_true]
  have hlen : ((mget a.Id A).getD []).length < 1000000 := by
    cases hq : mget a.Id A with
    | none => simp
    | some l =>
      have := (rightS_iff.1 (H.ok _ ((get_mem H.rise).1 hq))).2.2
      simp only [Option.getD_some]
      dsimp only at this
      omega
  rw [same_eq hlen, decide_eq_true rfl]
  rfl
end Go.Proofs.YtikdgllagijidaaGreat
