/- The laws IndexNil, IndexAll, IndexNot, IndexFinds, IndexIds over the pure functions. -/
import Derived.Test.YtikdgllagijidaaMgIi
namespace Go.Proofs.Ytikdgllagijidaa
open Go Go.Mg
set_option linter.unusedVariables false
set_option linter.unusedSimpArgs false

/-! ### IndexNil -/
theorem id_none {l : List api_Label} (hl : l.length < 20) : index_Index_Id none l = some (0, false) := by
  unfold index_Index_Id
  rcases index_keyS hl with ⟨r, h1, h2, h3⟩ | ⟨h1, h2⟩
  · rw [h3]; rfl
  · rw [h2]; rfl
theorem nil_ok (a : marigraphlaw08_Act) : marigraphlaw08_IndexNil a = some true := by
  unfold marigraphlaw08_IndexNil
  rw [shown_eq]
  obtain ⟨r, h1, h2, h3⟩ := few_eq a.L
  obtain ⟨q, g1, g2, g3⟩ := some_eq a.A
  rw [h1, g1]
  simp only [Option.bind_some]
  rw [id_none (by omega), show index_Index_Add none r = some (0, 2, none) from rfl]
  rfl

/-! ### IndexAll -/
theorem SR.get {l : List Int} (h : SR l) {i j : Nat} {x y : Int} (hij : i < j) (hx : l[i]? = some x) (hy : l[j]? = some y) : x < y := by
  obtain ⟨hi, rfl⟩ := List.getElem?_eq_some_iff.1 hx
  obtain ⟨hj, rfl⟩ := List.getElem?_eq_some_iff.1 hy
  exact List.pairwise_iff_getElem.1 h i j hi hj hij
theorem idsOf_all {A : Ser} {p : List api_Label → Bool} (h : ∀ e ∈ A, p e.2 = true) : idsOf p A = A.map (·.1) := by
  unfold idsOf
  rw [List.filter_eq_self.2 h]
theorem find_nil {x : index_Index} {A : Ser} (H : XI x A) : index_Index_Find (some x) [] = some (A.map (·.1), 0) := by
  rw [find_eq H, if_pos (by rfl), idsOf_all fun e _ => rfl]
theorem all_ok (l : List marigraphlaw08_Act) : marigraphlaw08_IndexAll l = some true := by
  unfold marigraphlaw08_IndexAll index_New
  rw [shown_eq, acts_eq]
  simp only [Option.bind_some, Option.isNone_some, cond_false]
  obtain ⟨x, A, e1, H, hg⟩ := acts_loop (l.take 300) (by rw [List.length_take]; omega)
  rw [show (iter (fun s : Int × (Option index_Index) => marigraphlaw08_IndexAll.b2 (l.take 300) s.1 s.2) ((0 : Int), some (⟨[], [], [], [], 0⟩ : index_Index))) = some (some x) from e1]
  simp only [Option.bind_some]
  rw [find_nil H, Option.bind_some]
  have hf := H.few
  obtain ⟨r, e2, rfl⟩ := iter_inv (step := fun s : Int => marigraphlaw08_IndexAll.b5 (some x) (A.map (·.1), 0) s) (fun (_ : Unit) i => i) (A.map (·.1)) (fun _ _ => True) (fun r => r = .inl ()) (by
    rintro s i id hi -
    left
    have hlt := lt_of_get hi
    refine ⟨(), ?_, trivial⟩
    obtain ⟨⟨j, m⟩, h1, h2⟩ := List.mem_map.1 (List.mem_of_getElem? hi)
    dsimp only at h2
    subst h2
    rw [List.length_map] at hlt
    unfold marigraphlaw08_IndexAll.b5
    dsimp only
    rw [decide_eq_true (by rw [List.length_map]; omega), cond_true, at_nat hi, Option.bind_some, labels_eq H, Option.bind_some, (get_mem H.rise).2 h1]
    simp only [Option.getD_some, Option.isSome_some]
    rw [id_old H h1, Option.bind_some]
    simp only [Bool.not_true, cond_false, bne_self_eq_false]
    have hlast : (bif decide ((0 : Int) < (i : Int)) then (pur (IntKind.i64.wrap ((i : Int) - (1 : Int))) fun y222 => ((at_ (A.map (·.1)) y222).bind fun y224 => some (decide (j ≤ y224)))) else some false) = some false := by
      by_cases h0 : 0 < i
      · have hp : i - 1 < (A.map (·.1)).length := by rw [List.length_map]; omega
        have hq := List.getElem?_eq_getElem hp
        rw [decide_eq_true (by omega), cond_true, pur_eq, wrap64 (by omega) (by omega), show (i : Int) - 1 = ((i - 1 : Nat) : Int) by omega, at_nat hq, Option.bind_some]
        have := SR.get H.rise (by omega) hq hi
        rw [decide_eq_false (by omega)]
      · rw [decide_eq_false (by omega), cond_false]
    rw [hlast]
    simp only [Option.bind_some, cond_false, Sum.elim_inl, pur_eq]
    rw [wrap64 (by omega) (by omega)]; rfl) (by
    rintro s -
    refine ⟨.inl (), ?_, rfl⟩
    unfold marigraphlaw08_IndexAll.b5
    dsimp only
    rw [decide_eq_false (by omega)]; rfl) () trivial
  rw [e2]
  simp only [Option.bind_some, Sum.elim_inl, beq_self_eq_true, cond_true]
  rw [decide_eq_true (by rw [List.length_map]; omega)]

/-! ### IndexNot -/
theorem idsOf_split (p : List api_Label → Bool) (A : Ser) : (idsOf p A).length + (idsOf (fun l => !p l) A).length = A.length := by
  unfold idsOf
  rw [List.length_map, List.length_map]
  dsimp only
  induction A with
  | nil => rfl
  | cons e A ih =>
    rw [List.filter_cons, List.filter_cons]
    cases h : p e.2 with
    | true => rw [if_pos rfl, if_neg (by simp [h])]; simp only [List.length_cons] at ih ⊢; omega
    | false => rw [if_neg (by simp), if_pos (by simp [h])]; simp only [List.length_cons] at ih ⊢; omega
theorem not_ok (l : List marigraphlaw08_Act) (s v : ByteArray) : marigraphlaw08_IndexNot l s v = some true := by
  unfold marigraphlaw08_IndexNot index_New
  rw [shown_eq, acts_eq]
  simp only [Option.bind_some, Option.isNone_some, cond_false]
  obtain ⟨x, A, e1, H, hg⟩ := acts_loop (l.take 300) (by rw [List.length_take]; omega)
  rw [show (iter (fun s : Int × (Option index_Index) => marigraphlaw08_IndexNot.b2 (l.take 300) s.1 s.2) ((0 : Int), some (⟨[], [], [], [], 0⟩ : index_Index))) = some (some x) from e1]
  obtain ⟨n, hn, hn2⟩ := few_text s 60
  obtain ⟨w, hw, hw2⟩ := few_text v 60
  simp only [Option.bind_some, pur_eq]
  rw [show supto_ s (if (60 : Int) < (s.size : Int) then 60 else (s.size : Int)) = some n from hn, Option.bind_some, show supto_ v (if (60 : Int) < (v.size : Int) then 60 else (v.size : Int)) = some w from hw, Option.bind_some]
  rw [find_nil H, find_eq H, find_eq H, find_eq H]
  simp only [Option.bind_some]
  have hf := H.few
  cases hr : rightA [(⟨1, n, w⟩ : api_Ask)] with
  | false => rfl
  | true =>
    have m1 : mayS ⟨1, n, w⟩ = true := by unfold rightA at hr; simpa using hr
    have m2 : mayS ⟨2, n, w⟩ = true := by
      unfold mayS at m1 ⊢
      simp only [Bool.and_eq_true] at m1 ⊢
      exact ⟨m1.1, by simp⟩
    have r2 : rightA [(⟨2, n, w⟩ : api_Ask)] = true := by unfold rightA; simp [m2]
    have r3 : rightA [(⟨1, n, w⟩ : api_Ask), ⟨2, n, w⟩] = true := by unfold rightA; simp [m1, m2]
    rw [r2, r3, if_pos rfl, if_pos rfl, if_pos rfl]
    have hno : ∀ l, allS [⟨2, n, w⟩] l = !allS [⟨1, n, w⟩] l := fun l => by unfold allS oneS; simp
    have hb : idsOf (allS [⟨1, n, w⟩, ⟨2, n, w⟩]) A = [] := by
      unfold idsOf
      rw [List.filter_eq_nil_iff.2]
      · rfl
      · intro e _
        have : allS [⟨1, n, w⟩, ⟨2, n, w⟩] e.2 = false := by unfold allS oneS; simp
        rw [this]; simp
    have hs := idsOf_split (allS [⟨1, n, w⟩]) A
    rw [idsOf_congr (p := allS [⟨2, n, w⟩]) (q := fun l => !allS [⟨1, n, w⟩] l) fun e _ => hno e.2, hb]
    simp only [bne_self_eq_false, cond_false, beq_self_eq_true, cond_true, pur_eq, Option.bind_some]
    rw [wrap64 (by omega) (by omega)]
    rw [show (((idsOf (allS [⟨1, n, w⟩]) A).length : Int) + ((idsOf (fun l => !allS [⟨1, n, w⟩] l) A).length : Int) == ((A.map (·.1)).length : Int)) = true by rw [List.length_map]; simp; omega]
    rfl

/-! ### IndexFinds -/
theorem finds_ok (l : List marigraphlaw08_Act) (q : List api_Ask) : marigraphlaw08_IndexFinds l q = some true := by
  unfold marigraphlaw08_IndexFinds index_New
  rw [shown_eq, acts_eq]
  simp only [Option.bind_some, Option.isNone_some, cond_false]
  obtain ⟨x, A, e1, H, hg⟩ := acts_loop (l.take 300) (by rw [List.length_take]; omega)
  rw [e1]
  obtain ⟨a, h1, h2, h3⟩ := some_eq q
  rw [h1]
  simp only [Option.bind_some]
  rw [find_eq H, Option.bind_some, ref_rightA (by omega) (fun y hy => by have := h3 y hy; omega), Option.bind_some]
  cases hr : rightA a with
  | false => rfl
  | true =>
    rw [if_pos rfl, Bool.not_true, cond_false]
    have hget : ∀ i : Nat, i < 400 → (List.range 400)[i]? = some i := fun i hi => by simp [hi]
    obtain ⟨r, e2, hr2, hr3⟩ := iter_inv (step := fun s : (List Int) × Int => marigraphlaw08_IndexFinds.b6 q (some x) s.1 s.2) (fun s i => (s, i)) (List.range 400)
      (fun s i => i ≤ 400 ∧ s.length ≤ i ∧ SR s ∧ ∀ id, id ∈ s ↔ id ∈ idsOf (allS a) A ∧ id < (i : Int)) (fun r => r = idsOf (allS a) A ∧ True) (by
      rintro s i j hj ⟨hi, hs1, hs2, hs3⟩
      left
      have hlt := lt_of_get hj
      rw [List.length_range] at hlt
      have hw : IntKind.i64.wrap ((i : Int) + 1) = ((i + 1 : Nat) : Int) := by rw [wrap64 (by omega) (by omega)]; rfl
      unfold marigraphlaw08_IndexFinds.b6
      dsimp only
      rw [decide_eq_true (by omega), cond_true, labels_eq H, Option.bind_some, hw]
      have hbool : ((bif (mget (i : Int) A).isSome then ((marigraphlaw08_some q).bind fun y251 => ((marigraphref07_All y251 ((mget (i : Int) A).getD [])).bind fun y258 => some y258)) else some false)) = some (decide ((i : Int) ∈ idsOf (allS a) A)) := by
        cases hq : mget (i : Int) A with
        | none =>
          rw [decide_eq_false]
          · rfl
          · intro h
            obtain ⟨m, h4, _⟩ := mem_idsOf.1 h
            rw [(get_mem H.rise).2 h4] at hq; cases hq
        | some m =>
          have hm := (get_mem H.rise).1 hq
          have hlen := (rightS_iff.1 (H.ok _ hm)).2.2
          dsimp only at hlen
          simp only [Option.isSome_some, cond_true, h1, Option.bind_some, Option.getD_some]
          rw [ref_all (by omega) (by omega), Option.bind_some]
          congr 1
          rw [Bool.eq_iff_iff, decide_eq_true_iff, mem_idsOf]
          constructor
          · exact fun h => ⟨m, hm, h⟩
          · rintro ⟨m', h4, h5⟩
            have : m' = m := Option.some.inj (((get_mem H.rise).2 h4).symm.trans hq)
            rw [← this]; exact h5
      rw [hbool, Option.bind_some]
      by_cases hm : (i : Int) ∈ idsOf (allS a) A
      · rw [decide_eq_true hm, cond_true, app_ok (by rw [limv]; simp; omega)]
        refine ⟨s ++ [(i : Int)], rfl, by omega, by simp; omega, hs2.append (by simp) (fun y hy z hz => by simp at hz; subst hz; exact ((hs3 y).1 hy).2), fun id => ?_⟩
        rw [List.mem_append, hs3, List.mem_singleton]
        constructor
        · rintro (⟨h4, h5⟩ | rfl)
          · exact ⟨h4, by omega⟩
          · exact ⟨hm, by omega⟩
        · rintro ⟨h4, h5⟩
          by_cases he : id = (i : Int)
          · exact .inr he
          · exact .inl ⟨h4, by omega⟩
      · rw [decide_eq_false hm, cond_false]
        refine ⟨s, rfl, by omega, by omega, hs2, fun id => ?_⟩
        rw [hs3]
        constructor
        · rintro ⟨h4, h5⟩; exact ⟨h4, by omega⟩
        · rintro ⟨h4, h5⟩
          refine ⟨h4, ?_⟩
          have : id ≠ (i : Int) := fun he => hm (he ▸ h4)
          omega) (by
      rintro s ⟨hi, hs1, hs2, hs3⟩
      refine ⟨s, ?_, ?_, trivial⟩
      · unfold marigraphlaw08_IndexFinds.b6
        dsimp only
        rw [decide_eq_false (by rw [List.length_range]; omega)]; rfl
      · refine SR.ext hs2 (idsOf_sr H.rise) fun id => ?_
        rw [hs3]
        constructor
        · exact fun h => h.1
        · intro h
          obtain ⟨m, h4, _⟩ := mem_idsOf.1 h
          have := H.rng _ h4
          dsimp only at this
          exact ⟨h, by rw [List.length_range]; omega⟩) [] ⟨by omega, by simp, .nil, fun id => by
        constructor
        · intro h; cases h
        · rintro ⟨h, h4⟩
          obtain ⟨m, h5, _⟩ := mem_idsOf.1 h
          have := H.rng _ h5
          dsimp only at this
          omega⟩
    rw [e2, hr2]
    simp only [Option.bind_some, beq_self_eq_true, cond_true]
    rw [ints_eq (H.good _).lim, decide_eq_true rfl]
    rfl

theorem indexNil_ok {R : Prop} {a0 : marigraphlaw08_Act} (_ : R) : marigraphlaw08_IndexNil a0 = some true := nil_ok a0
theorem indexAll_ok {R : marigraphlaw08_Act → Prop} {a0 : List marigraphlaw08_Act} (_ : OkL R a0) : marigraphlaw08_IndexAll a0 = some true := all_ok a0
theorem indexNot_ok {R : marigraphlaw08_Act → Prop} {Q1 Q2 : Prop} {a0 : List marigraphlaw08_Act} {a1 a2 : ByteArray} (_ : OkL R a0) (_ : Q1) (_ : Q2) : marigraphlaw08_IndexNot a0 a1 a2 = some true := not_ok a0 a1 a2
theorem indexFinds_ok {R : marigraphlaw08_Act → Prop} {Q : api_Ask → Prop} {a0 : List marigraphlaw08_Act} {a1 : List api_Ask} (_ : OkL R a0) (_ : OkL Q a1) : marigraphlaw08_IndexFinds a0 a1 = some true := finds_ok a0 a1
end Go.Proofs.Ytikdgllagijidaa
