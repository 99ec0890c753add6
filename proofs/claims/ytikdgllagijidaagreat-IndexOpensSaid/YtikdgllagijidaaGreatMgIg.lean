/- Plain laws of the index: a series is let go; what is asked; what is found. -/
import Derived.Test.YtikdgllagijidaaGreatMgIf
namespace Go.Proofs.YtikdgllagijidaaGreat
open Go Go.Mg
set_option linter.unusedVariables false
set_option linter.unusedSimpArgs false

/-! ### Drop -/
/-- The series without an id. -/
def offS (id : Int) (A : Ser) : Ser := A.filter fun e => decide (e.1 ≠ id)
theorem idsOf_off {A : Ser} {id : Int} (p : List api_Label → Bool) : idsOf p (offS id A) = (idsOf p A).filter fun i => decide (i ≠ id) := idsOf_drop
theorem mem_off {A : Ser} {id : Int} {e : Int × List api_Label} : e ∈ offS id A ↔ e ∈ A ∧ e.1 ≠ id := by unfold offS; rw [List.mem_filter]; simp
theorem ne_len (l : List Int) : (((ne l).getD []).length : Int) == 0 ↔ l = [] := by rw [ne_getD]; cases l <;> simp; omega

theorem drop_eq {x : index_Index} {A : Ser} (H : XI x A) (id : Int) :
    (mget id A = none ∧ index_Index_Drop (some x) id = some (2, some x)) ∨
    ∃ l, (id, l) ∈ A ∧ ∃ x', index_Index_Drop (some x) id = some (0, some x') ∧ XI x' (offS id A) ∧ x'.given = x.given := by
  unfold index_Index_Drop
  rw [labels_eq H, Option.bind_some]
  cases hg : mget id A with
  | none => exact .inl ⟨rfl, rfl⟩
  | some l =>
    right
    have hm := (get_mem H.rise).1 hg
    have hr := H.ok _ hm
    have h0 := (H.rng _ hm).1
    dsimp only at hr h0
    have hlen := (rightS_iff.1 hr).2.2
    refine ⟨l, hm, ?_⟩
    simp only [Option.isSome_some, Bool.not_true, cond_false, Option.getD_some]
    rw [index_keyR hr, Option.bind_some, Option.bind_some, pur_eq, pur_eq]
    have le : ∀ (c : Prop) [Decidable c] (p), index_less ((ne (if c then (idsOf p A).filter (fun i => decide (i ≠ id)) else idsOf p A)).getD []) id = some ((idsOf p A).filter fun i => decide (i ≠ id)) := by
      intro c _ p
      rw [ne_getD]
      have g := H.good p
      by_cases hc : c
      · rw [if_pos hc, less_eq (good_of (g.1.1.filter _) (fun x hx => g.1.2 x ((List.mem_filter.1 hx).1)) (Nat.le_trans (List.length_filter_le _ _) g.2)) h0, List.filter_filter]
        simp
      · rw [if_neg hc, less_eq g h0]
    obtain ⟨r, e1, r1, r2, r3, r4, r5, r6⟩ := iter_inv (step := fun s : Int × index_Index => index_Index_Drop.b2 id (l, true) s.1 s.2) (fun s i => (i, s)) l
      (fun s i => s.series = mrem id x.series ∧ s.ids = mrem (keyS l) x.ids ∧ s.given = x.given ∧ (s.posts.map (·.1)).Nodup ∧
        (∀ y, mget y s.posts = ne (if has y (l.take i) = true then (idsOf (has y) A).filter (fun i => decide (i ≠ id)) else idsOf (has y) A)) ∧ ∀ n, mget n s.names = ne (if hasN n (l.take i) = true then (idsOf (hasN n) A).filter (fun i => decide (i ≠ id)) else idsOf (hasN n) A))
      (fun s => s.series = mrem id x.series ∧ s.ids = mrem (keyS l) x.ids ∧ s.given = x.given ∧ (s.posts.map (·.1)).Nodup ∧
        (∀ y, mget y s.posts = ne (if has y l = true then (idsOf (has y) A).filter (fun i => decide (i ≠ id)) else idsOf (has y) A)) ∧ ∀ n, mget n s.names = ne (if hasN n l = true then (idsOf (hasN n) A).filter (fun i => decide (i ≠ id)) else idsOf (hasN n) A)) (by
      rintro s i z hz ⟨s1, s2, s3, s4, s5, s6⟩
      left
      have hi := lt_of_get hz
      generalize hP : (idsOf (has z) A).filter (fun i => decide (i ≠ id)) = P
      generalize hN : (idsOf (hasN z.Name) A).filter (fun i => decide (i ≠ id)) = N
      have step1 : ((index_less ((mget z s.posts).getD ([] : List Int)) id).bind fun y130 => (pur ({ s with posts := (mput z y130 s.posts) } : index_Index) fun y141 => (bif ((((mget z y141.posts).getD ([] : List Int)).length : Int) == (0 : Int)) then (pur ({ y141 with posts := (mrem z y141.posts) } : index_Index) fun y171 => some y171) else some y141))) =
          some { s with posts := if P = [] then mrem z (mput z P s.posts) else mput z P s.posts } := by
        rw [s5, le, Option.bind_some, hP, pur_eq]
        dsimp only
        rw [mget_mput, if_pos rfl, Option.getD_some]
        by_cases hc : P = []
        · rw [hc]; rfl
        · rw [if_neg hc, show ((P.length : Int) == 0) = false by simpa using hc]; rfl
      have step2 : ∀ t : index_Index, t.names = s.names → ((index_less ((mget z.Name t.names).getD ([] : List Int)) id).bind fun y214 => (pur ({ t with names := (mput z.Name y214 t.names) } : index_Index) fun y225 => (bif ((((mget z.Name y225.names).getD ([] : List Int)).length : Int) == (0 : Int)) then (pur ({ y225 with names := (mrem z.Name y225.names) } : index_Index) fun y255 => some y255) else some y225))) =
          some { t with names := if N = [] then mrem z.Name (mput z.Name N t.names) else mput z.Name N t.names } := by
        intro t ht
        rw [ht, s6, le, Option.bind_some, hN, pur_eq]
        dsimp only
        rw [mget_mput, if_pos rfl, Option.getD_some]
        by_cases hc : N = []
        · rw [hc]; rfl
        · rw [if_neg hc, show ((N.length : Int) == 0) = false by simpa using hc]; rfl
      refine ⟨{ s with posts := if P = [] then mrem z (mput z P s.posts) else mput z P s.posts, names := if N = [] then mrem z.Name (mput z.Name N s.names) else mput z.Name N s.names }, ?_, s1, s2, s3, ?_, fun y => ?_, fun n => ?_⟩
      · unfold index_Index_Drop.b2
        dsimp only
        rw [decide_eq_true (by omega), cond_true, at_nat hz, Option.bind_some, pur_eq, step1, Option.bind_some, step2 { s with posts := if P = [] then mrem z (mput z P s.posts) else mput z P s.posts } rfl, Option.bind_some, pur_eq, wrap64 (by omega) (by omega)]
        rfl
      · dsimp only
        by_cases hc : P = []
        · rw [if_pos hc]; exact mrem_keys (mput_keys s4)
        · rw [if_neg hc]; exact mput_keys s4
      · dsimp only
        rw [List.take_add_one, hz, Option.toList_some, has_snoc]
        by_cases hy : y = z
        · subst hy
          rw [show (has y (List.take i l) || decide (y = y)) = true by simp, if_pos (rfl : true = true), hP]
          by_cases hc : P = []
          · rw [if_pos hc, mget_mrem, if_pos rfl, hc]; rfl
          · rw [if_neg hc, mget_mput, if_pos rfl, ne_some hc]
        · have : mget y (if P = [] then mrem z (mput z P s.posts) else mput z P s.posts) = mget y s.posts := by
            by_cases hc : P = []
            · rw [if_pos hc, mget_mrem, if_neg hy, mget_mput, if_neg hy]
            · rw [if_neg hc, mget_mput, if_neg hy]
          rw [this, s5, decide_eq_false hy, Bool.or_false]
      · dsimp only
        rw [List.take_add_one, hz, Option.toList_some, hasN_snoc]
        by_cases hy : n = z.Name
        · subst hy
          rw [show (hasN z.Name (List.take i l) || decide (z.Name = z.Name)) = true by simp, if_pos (rfl : true = true), hN]
          by_cases hc : N = []
          · rw [if_pos hc, mget_mrem, if_pos rfl, hc]; rfl
          · rw [if_neg hc, mget_mput, if_pos rfl, ne_some hc]
        · have : mget n (if N = [] then mrem z.Name (mput z.Name N s.names) else mput z.Name N s.names) = mget n s.names := by
            by_cases hc : N = []
            · rw [if_pos hc, mget_mrem, if_neg hy, mget_mput, if_neg hy]
            · rw [if_neg hc, mget_mput, if_neg hy]
          rw [this, s6, decide_eq_false (fun e => hy e.symm), Bool.or_false]) (by
      rintro s ⟨s1, s2, s3, s4, s5, s6⟩
      rw [List.take_length] at s5 s6
      refine ⟨s, ?_, s1, s2, s3, s4, s5, s6⟩
      unfold index_Index_Drop.b2
      dsimp only
      rw [decide_eq_false (by omega)]; rfl) { x with series := mrem id x.series, ids := mrem (keyS l) x.ids } ⟨rfl, rfl, rfl, H.postsN, fun y => by rw [H.posts]; simp [has], fun n => by rw [H.names]; simp [hasN]⟩
    refine ⟨r, by rw [e1]; rfl, ?_, r3⟩
    have hsub : (offS id A).Sublist A := List.filter_sublist
    have hA : ∀ m, (id, m) ∈ A → m = l := fun m hm' => Option.some.inj (((get_mem H.rise).2 hm').symm.trans hg)
    have keep : ∀ p : List api_Label → Bool, p l = false → (idsOf p A).filter (fun i => decide (i ≠ id)) = idsOf p A := fun p hp => List.filter_eq_self.2 fun i hi => by
      obtain ⟨m, h1, h2⟩ := mem_idsOf.1 hi
      refine decide_eq_true fun e => ?_
      subst e
      rw [hA m h1, hp] at h2; cases h2
    constructor
    · rw [r3]; exact H.g0
    · exact List.Pairwise.sublist (hsub.map _) H.rise
    · intro e he; rw [r3]; exact H.rng e (hsub.subset he)
    · intro e he; exact H.ok e (hsub.subset he)
    · exact List.Pairwise.sublist hsub H.uniq
    · exact Nat.le_trans hsub.length_le H.few
    · rw [r1]; exact mrem_keys H.serN
    · intro i
      rw [r1, mget_mrem, H.ser]
      by_cases hi : i = id
      · subst hi
        rw [if_pos rfl]
        cases hq : mget i (offS i A) with
        | none => rfl
        | some m =>
          have := (get_mem (List.Pairwise.sublist (hsub.map _) H.rise)).1 hq
          exact absurd rfl (mem_off.1 this).2
      · rw [if_neg hi]
        cases hq : mget i A with
        | none =>
          cases hq2 : mget i (offS id A) with
          | none => rfl
          | some m =>
            have := (get_mem (List.Pairwise.sublist (hsub.map _) H.rise)).1 hq2
            have := (get_mem H.rise).2 (mem_off.1 this).1
            rw [hq] at this; cases this
        | some m =>
          have := (get_mem H.rise).1 hq
          exact ((get_mem (List.Pairwise.sublist (hsub.map _) H.rise)).2 (mem_off.2 ⟨this, hi⟩)).symm
    · intro e he
      obtain ⟨h1, h2⟩ := mem_off.1 he
      rw [r2, mget_mrem, if_neg]
      · exact H.ids e h1
      · intro hk
        have := keyS_inj (H.ok e h1) hr hk
        have h3 : (e.1, l) ∈ A := by rw [← this]; exact h1
        exact h2 (H.id_uniq h3 hm)
    · intro k i hk
      rw [r2, mget_mrem] at hk
      split at hk
      · cases hk
      · rename_i hne
        obtain ⟨m, h1, h2⟩ := H.ids2 k i hk
        refine ⟨m, mem_off.2 ⟨h1, fun e => ?_⟩, h2⟩
        dsimp only at e
        subst e
        rw [hA m h1] at h2
        exact hne h2.symm
    · exact r4
    · intro y
      rw [r5, idsOf_off]
      cases hy : has y l with
      | true => rfl
      | false => rw [keep _ hy, if_neg (by simp)]
    · intro n
      rw [r6, idsOf_off]
      cases hy : hasN n l with
      | true => rfl
      | false => rw [keep _ hy, if_neg (by simp)]
end Go.Proofs.YtikdgllagijidaaGreat
