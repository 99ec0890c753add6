/- Plain laws of the head: the document's head: points, ids, sealing, dropping. -/
import Derived.Test.YtconkjamlhfneaaMgHh
namespace Go.Proofs.Ytconkjamlhfneaa
open Go Go.Mg
set_option linter.unusedVariables false
set_option linter.unusedSimpArgs false

theorem pts_take {L : List marigraphref11_Item} {i : Nat} {x : marigraphref11_Item} (hx : L[i]? = some x) (id : Int) : pts (L.take (i + 1)) id = if x.Id = id then pts (L.take i) id ++ [x.P] else pts (L.take i) id := by
  rw [List.take_add_one, hx]
  show pts (L.take i ++ [x]) id = _
  rw [pts_append, pts_cons]
  split <;> simp [pts]
theorem pts_le (L : List marigraphref11_Item) (id : Int) : (pts L id).length ≤ L.length := by unfold pts; rw [List.length_map]; exact List.length_filter_le _ _

/-- A list of points, one by one, with times that differ. -/
theorem of_eq {l r : List api_Point} (hr : RP r) (hp : r.Perm l) (hn : l.length ≤ 2048) : marigraphref10_Of l = some r := by
  have hd : l.Pairwise fun a b => a.T ≠ b.T := hp.pairwise (hr.imp fun {a b} h => by omega) (fun {a b} h => h.symm)
  unfold marigraphref10_Of
  obtain ⟨q, e1, rfl⟩ := iter_inv (step := fun s : (List api_Point) × Int => marigraphref10_Of.b2 l s.1 s.2) (fun (s : List api_Point) i => (s, i)) l (fun s i => RP s ∧ s.Perm (l.take i)) (fun q => q = r) (by
    rintro s i p hx ⟨hs, hsp⟩
    left
    have hi := lt_of_get hx
    have hsl : s.length = i := by rw [hsp.length_eq, List.length_take]; omega
    have hne : ∀ q ∈ s, q.T ≠ p.T := fun q hq => by
      have hq := hsp.mem_iff.1 hq
      obtain ⟨j, hj⟩ := List.getElem?_of_mem hq
      rw [List.getElem?_take] at hj
      split at hj
      case isFalse => cases hj
      obtain ⟨h1, h2⟩ := List.getElem?_eq_some_iff.1 hj
      obtain ⟨h3, h4⟩ := List.getElem?_eq_some_iff.1 hx
      have := List.pairwise_iff_getElem.1 hd j i h1 h3 (by assumption)
      rw [h2, h4] at this
      exact this
    -- the place
    obtain ⟨k, e2, hk, h3, h4⟩ : ∃ k : Nat, iter (fun s_1 : Int => marigraphref10_Of.b5 l s (i : Int) s_1) (s.length : Int) = some (k : Int) ∧ k ≤ s.length ∧ (∀ j q, j < k → s[j]? = some q → q.T < p.T) ∧ ∀ j q, k ≤ j → s[j]? = some q → p.T ≤ q.T := by
      obtain ⟨q, e, k, rfl, hq⟩ := iter_total (step := fun s_1 : Int => marigraphref10_Of.b5 l s (i : Int) s_1) (fun x => ∃ k : Nat, x = (k : Int) ∧ k ≤ s.length ∧ ∀ j q, k ≤ j → s[j]? = some q → p.T ≤ q.T) (fun x => x.toNat)
        (fun q => ∃ k : Nat, q = (k : Int) ∧ k ≤ s.length ∧ (∀ j q, j < k → s[j]? = some q → q.T < p.T) ∧ ∀ j q, k ≤ j → s[j]? = some q → p.T ≤ q.T) (by
          rintro x ⟨k, rfl, hk, hge⟩
          unfold marigraphref10_Of.b5
          by_cases hk0 : k = 0
          · right
            subst hk0
            exact ⟨0, by simp, 0, rfl, Nat.zero_le _, fun j q hj => absurd hj (Nat.not_lt_zero _), hge⟩
          · have hy := List.getElem?_eq_getElem (show k - 1 < s.length by omega)
            rw [show decide ((0 : Int) < (k : Int)) = true by simp; omega, cond_true, pur_eq]
            rw [wrap64 (x := (k : Int) - 1) (by omega) (by omega), show (k : Int) - 1 = ((k - 1 : Nat) : Int) by omega, at_nat hy, at_nat hx]
            simp only [Option.bind_some]
            by_cases hc : p.T < s[k - 1].T
            · left
              refine ⟨((k - 1 : Nat) : Int), by simp [hc, pur], ⟨k - 1, rfl, by omega, fun j q hj hq => ?_⟩, by simp; omega⟩
              by_cases hjk : j = k - 1
              · subst hjk; rw [hy] at hq; cases hq; omega
              · exact hge j q (by omega) hq
            · right
              refine ⟨(k : Int), by simp [hc], k, rfl, hk, fun j q hj hq => ?_, hge⟩
              have h1 := hne _ (List.mem_of_getElem? hy)
              by_cases hjk : j = k - 1
              · subst hjk; rw [hy] at hq; cases hq; omega
              · have := hs.get (show j < k - 1 by omega) hq hy
                omega) (s.length : Int) ⟨s.length, rfl, Nat.le_refl _, fun j q hj hq => absurd (lt_of_get hq) (by omega)⟩
      exact ⟨k, e, hq⟩
    refine ⟨s.take k ++ [p] ++ s.drop k, ?_, ins_row hs hk h3 h4 (fun ⟨q, hq, hT⟩ => hne q hq hT), ?_⟩
    · unfold marigraphref10_Of.b2
      dsimp only
      rw [show decide ((i : Int) < (l.length : Int)) = true by simp; omega, cond_true, e2, Option.bind_some]
      have hc : (bif decide ((0 : Int) < (k : Int)) then (pur (IntKind.i64.wrap ((k : Int) - 1)) fun y92 => (at_ s y92).bind fun y94 => (at_ l (i : Int)).bind fun y99 => some (y94.T == y99.T)) else some false) = some false := by
        by_cases hk0 : k = 0
        · subst hk0; rfl
        · have hy := List.getElem?_eq_getElem (show k - 1 < s.length by omega)
          rw [show decide ((0 : Int) < (k : Int)) = true by simp; omega, cond_true, pur_eq, wrap64 (x := (k : Int) - 1) (by omega) (by omega), show (k : Int) - 1 = ((k - 1 : Nat) : Int) by omega, at_nat hy, at_nat hx]
          have h1 := hne _ (List.mem_of_getElem? hy)
          simp [h1]
      rw [hc]
      simp only [Option.bind_some, cond_false, Sum.elim_inl]
      have hsl2 : s.length ≤ 2048 := by omega
      rw [from_nat hk, Option.bind_some, app_ok (by rw [List.length_drop]; simp; unfold lim; omega), Option.bind_some, upto_nat hk, Option.bind_some, at_nat hx, Option.bind_some, app_ok (by rw [List.length_take]; simp; unfold lim; omega), Option.bind_some,
        app_ok (by simp only [List.length_append, List.length_take, List.length_drop, List.length_cons, List.length_nil]; unfold lim; omega)]
      simp only [Option.bind_some, pur_eq, List.nil_append]
      rw [wrap64 (by omega) (by omega)]
      rfl
    · rw [List.take_add_one, hx]
      show (s.take k ++ [p] ++ s.drop k).Perm (l.take i ++ [p])
      have : (s.take k ++ p :: s.drop k).Perm (p :: (s.take k ++ s.drop k)) := List.perm_middle
      rw [List.take_append_drop] at this
      rw [List.append_assoc]
      exact this.trans ((hsp.cons p).trans (List.perm_append_singleton _ _).symm)) (by
    rintro s ⟨hs, hsp⟩
    rw [List.take_length] at hsp
    exact ⟨s, by unfold marigraphref10_Of.b2; simp, rp_perm hs hr (hsp.trans hp.symm)⟩) [] ⟨.nil, by simp⟩
  rw [e1]
  rfl

theorem rpoints_eq {h : head_Head} {w : marigraphref11_Head} (H : HI h) (R : RR h w) (id : Int) : marigraphref11_Head_Points w id = some (row h id) := by
  have hlen := R.len H
  unfold marigraphref11_Head_Points
  obtain ⟨q, e1, rfl⟩ := iter_inv (step := fun s : (List api_Point) × Int => marigraphref11_Head_Points.b2 w id s.1 s.2) (fun (s : List api_Point) i => (s, i)) w.L (fun s i => s = pts (w.L.take i) id) (fun q => q = pts w.L id) (by
    rintro s i x hx rfl
    left
    have hi := lt_of_get hx
    have hpl := pts_le (w.L.take i) id
    rw [List.length_take] at hpl
    refine ⟨pts (w.L.take (i + 1)) id, ?_, rfl⟩
    unfold marigraphref11_Head_Points.b2
    dsimp only
    rw [show decide ((i : Int) < (w.L.length : Int)) = true by simp; omega, cond_true, at_nat hx, pts_take hx]
    simp only [Option.bind_some]
    by_cases hc : x.Id = id
    · rw [show (x.Id == id) = true by simp [hc], cond_true, app_ok (by simp; unfold lim; omega), if_pos hc]
      simp only [Option.bind_some, pur_eq]
      rw [wrap64 (by omega) (by omega)]
      rfl
    · rw [show (x.Id == id) = false by simpa using hc, cond_false, if_neg hc]
      simp only [Option.bind_some, pur_eq]
      rw [wrap64 (by omega) (by omega)]
      rfl) (by
    rintro s rfl
    exact ⟨pts w.L id, by unfold marigraphref11_Head_Points.b2; simp, rfl⟩) [] rfl
  rw [e1, Option.bind_some, of_eq (H.rows id) (R.rows id) (Nat.le_trans (pts_le _ _) hlen)]
  rfl

theorem rids_eq {h : head_Head} {w : marigraphref11_Head} (H : HI h) (R : RR h w) : marigraphref11_Head_Ids w = some (idsS h) := by
  have hlen := R.len H
  unfold marigraphref11_Head_Ids
  obtain ⟨q, e1, rfl⟩ := iter_inv (step := fun s : (List Int) × Int => marigraphref11_Head_Ids.b2 w s.1 s.2) (fun (s : List Int) i => (s, i)) w.L (fun s i => SR s ∧ s.length ≤ i ∧ ∀ y, y ∈ s ↔ ∃ x ∈ w.L.take i, x.Id = y) (fun q => q = idsS h) (by
    rintro s i x hx ⟨hs, hsl, hmem⟩
    left
    have hi := lt_of_get hx
    obtain ⟨k, e2, hk, h3, h4⟩ : ∃ k : Nat, iter (fun s_1 : Int => marigraphref11_Head_Ids.b5 w s (i : Int) s_1) 0 = some (k : Int) ∧ k ≤ s.length ∧ (∀ j q, j < k → s[j]? = some q → q < x.Id) ∧ ∀ j q, k ≤ j → s[j]? = some q → x.Id ≤ q := by
      obtain ⟨q, e, k, rfl, hq⟩ := iter_total (step := fun s_1 : Int => marigraphref11_Head_Ids.b5 w s (i : Int) s_1) (fun y => ∃ k : Nat, y = (k : Int) ∧ k ≤ s.length ∧ ∀ j q, j < k → s[j]? = some q → q < x.Id) (fun y => s.length - y.toNat)
        (fun q => ∃ k : Nat, q = (k : Int) ∧ k ≤ s.length ∧ (∀ j q, j < k → s[j]? = some q → q < x.Id) ∧ ∀ j q, k ≤ j → s[j]? = some q → x.Id ≤ q) (by
          rintro y ⟨k, rfl, hk, hlt⟩
          unfold marigraphref11_Head_Ids.b5
          by_cases hk0 : k < s.length
          · have hy := List.getElem?_eq_getElem hk0
            rw [show decide ((k : Int) < (s.length : Int)) = true by simp; omega, cond_true, at_nat hy, at_nat hx]
            simp only [Option.bind_some]
            by_cases hc : s[k] < x.Id
            · left
              refine ⟨((k + 1 : Nat) : Int), ?_, ⟨k + 1, rfl, hk0, fun j q hj hq => ?_⟩, by simp; omega⟩
              · rw [show decide (s[k] < x.Id) = true by simpa using hc]
                simp only [cond_true, Option.bind_some, Sum.elim_inl, pur_eq]
                rw [wrap64 (by omega) (by omega)]
                rfl
              · by_cases hjk : j = k
                · subst hjk; rw [hy] at hq; cases hq; exact hc
                · exact hlt j q (by omega) hq
            · right
              refine ⟨(k : Int), by simp [hc], k, rfl, hk, hlt, fun j q hj hq => ?_⟩
              by_cases hjk : j = k
              · subst hjk; rw [hy] at hq; cases hq; omega
              · obtain ⟨h1, h2⟩ := List.getElem?_eq_some_iff.1 hq
                have := List.pairwise_iff_getElem.1 hs k j hk0 h1 (by omega)
                omega
          · right
            refine ⟨(k : Int), ?_, k, rfl, hk, hlt, fun j q hj hq => absurd (lt_of_get hq) (by omega)⟩
            rw [show decide ((k : Int) < (s.length : Int)) = false by simp; omega]
            rfl) 0 ⟨0, rfl, Nat.zero_le _, fun j q hj => absurd hj (Nat.not_lt_zero _)⟩
      exact ⟨k, e, hq⟩
    have htk : ∀ y, (∃ z ∈ w.L.take (i + 1), z.Id = y) ↔ (∃ z ∈ w.L.take i, z.Id = y) ∨ x.Id = y := fun y => by
      rw [List.take_add_one, hx]
      simp only [Option.toList_some, List.mem_append, List.mem_singleton]
      constructor
      · rintro ⟨z, h1 | rfl, h2⟩
        · exact .inl ⟨z, h1, h2⟩
        · exact .inr h2
      · rintro (⟨z, h1, h2⟩ | h2)
        · exact ⟨z, .inl h1, h2⟩
        · exact ⟨x, .inr rfl, h2⟩
    by_cases hin : x.Id ∈ s
    · refine ⟨s, ?_, hs, by omega, fun y => ?_⟩
      · obtain ⟨j, hj⟩ := List.getElem?_of_mem hin
        have hjk : j = k := by
          rcases Nat.lt_trichotomy j k with h | h | h
          · have := h3 j x.Id h hj; omega
          · exact h
          · have hk2 := List.getElem?_eq_getElem (show k < s.length by have := lt_of_get hj; omega)
            have := h4 k _ (Nat.le_refl _) hk2
            obtain ⟨h1, h2⟩ := List.getElem?_eq_some_iff.1 hj
            have := List.pairwise_iff_getElem.1 hs k j (by omega) h1 h
            omega
        subst hjk
        have hjl := lt_of_get hj
        unfold marigraphref11_Head_Ids.b2
        dsimp only
        rw [show decide ((i : Int) < (w.L.length : Int)) = true by simp; omega, cond_true, e2, Option.bind_some, show decide ((j : Int) < (s.length : Int)) = true by simp; omega, cond_true, at_nat hj, at_nat hx]
        simp only [Option.bind_some, beq_self_eq_true, cond_true, Sum.elim_inr, pur_eq]
        rw [wrap64 (by omega) (by omega)]
        rfl
      · rw [hmem y, htk]
        constructor
        · exact .inl
        · rintro (h1 | rfl)
          · exact h1
          · exact (hmem _).1 hin
    · have hlt4 : ∀ j q, k ≤ j → s[j]? = some q → x.Id < q := fun j q hj hq => by
        have h1 := h4 j q hj hq
        have h2 : q ≠ x.Id := fun e => hin (by rw [← e]; exact List.mem_of_getElem? hq)
        omega
      refine ⟨s.take k ++ [x.Id] ++ s.drop k, ?_, ?_, ?_, fun y => ?_⟩
      · unfold marigraphref11_Head_Ids.b2
        dsimp only
        rw [show decide ((i : Int) < (w.L.length : Int)) = true by simp; omega, cond_true, e2, Option.bind_some]
        have hc : (bif decide ((k : Int) < (s.length : Int)) then ((at_ s (k : Int)).bind fun y93 => (at_ w.L (i : Int)).bind fun y98 => some (y93 == y98.Id)) else some false) = some false := by
          by_cases hk0 : k < s.length
          · have hy := List.getElem?_eq_getElem hk0
            have := hlt4 k _ (Nat.le_refl _) hy
            rw [show decide ((k : Int) < (s.length : Int)) = true by simp; omega, cond_true, at_nat hy, at_nat hx]
            have hne : (s[k] == x.Id) = false := by simp; omega
            simp [hne]
          · rw [show decide ((k : Int) < (s.length : Int)) = false by simp; omega, cond_false]
        rw [hc]
        simp only [Option.bind_some, cond_false, Sum.elim_inl]
        rw [from_nat hk, Option.bind_some, app_ok (by rw [List.length_drop]; simp; unfold lim; omega), Option.bind_some, upto_nat hk, Option.bind_some, at_nat hx, Option.bind_some, app_ok (by rw [List.length_take]; simp; unfold lim; omega), Option.bind_some,
          app_ok (by simp only [List.length_append, List.length_take, List.length_cons, List.length_nil]; unfold lim; omega)]
        simp only [Option.bind_some, List.nil_append]
        rw [app_ok (by simp only [List.length_append, List.length_take, List.length_drop, List.length_cons, List.length_nil]; unfold lim; omega)]
        simp only [Option.bind_some, pur_eq]
        rw [wrap64 (by omega) (by omega)]
        rfl
      · unfold SR
        rw [List.append_assoc, List.pairwise_append]
        refine ⟨hs.sublist (List.take_sublist _ _), ?_, ?_⟩
        · rw [List.singleton_append, List.pairwise_cons]
          refine ⟨fun q hq => ?_, hs.sublist (List.drop_sublist _ _)⟩
          obtain ⟨j, hj⟩ := List.getElem?_of_mem hq
          rw [List.getElem?_drop] at hj
          exact hlt4 (k + j) q (by omega) hj
        · intro a ha b hb
          obtain ⟨j, hj⟩ := List.getElem?_of_mem ha
          rw [List.getElem?_take] at hj
          split at hj
          case isFalse => cases hj
          have h5 := h3 j a (by assumption) hj
          rw [List.singleton_append, List.mem_cons] at hb
          rcases hb with rfl | hb
          · exact h5
          · obtain ⟨m, hm⟩ := List.getElem?_of_mem hb
            rw [List.getElem?_drop] at hm
            have := hlt4 (k + m) b (by omega) hm
            omega
      · simp only [List.length_append, List.length_take, List.length_drop, List.length_cons, List.length_nil]; omega
      · rw [htk, ← hmem y]
        have : y ∈ s ↔ y ∈ s.take k ∨ y ∈ s.drop k := by rw [← List.mem_append, List.take_append_drop]
        rw [this]
        simp only [List.mem_append, List.mem_singleton]
        constructor
        · rintro ((h1 | h1) | h1)
          · exact .inl (.inl h1)
          · exact .inr h1.symm
          · exact .inl (.inr h1)
        · rintro ((h1 | h1) | h1)
          · exact .inl (.inl h1)
          · exact .inr h1
          · exact .inl (.inr h1.symm)) (by
    rintro s ⟨hs, _, hmem⟩
    rw [List.take_length] at hmem
    refine ⟨s, by unfold marigraphref11_Head_Ids.b2; simp, SR.ext hs (ids_rise H) fun y => ?_⟩
    rw [hmem, ids_mem H]
    constructor
    · rintro ⟨x, hx, rfl⟩ e
      have := R.item H hx
      rw [e] at this
      cases this
    · intro hne
      obtain ⟨p, hp⟩ := List.exists_mem_of_ne_nil _ hne
      obtain ⟨x, hx, h1, _⟩ := mem_pts.1 ((R.rows y).mem_iff.1 hp)
      exact ⟨x, hx, h1⟩) [] ⟨.nil, Nat.le_refl _, fun y => by simp⟩
  rw [e1]
  rfl
end Go.Proofs.Ytconkjamlhfneaa
