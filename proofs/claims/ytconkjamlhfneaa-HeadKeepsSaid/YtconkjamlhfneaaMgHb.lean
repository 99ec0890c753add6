/- Plain laws of the head: the library's stable sort leaves a row that rises as it is. -/
import Derived.Test.YtconkjamlhfneaaMgHa
namespace Go.Proofs.Ytconkjamlhfneaa
open Go Go.Mg
set_option linter.unusedVariables false
set_option linter.unusedSimpArgs false

theorem cmpS_not {l : List api_Point} (hl : RP l) {i j : Nat} {x y : api_Point} (hij : i ≤ j) (hx : l[i]? = some x) (hy : l[j]? = some y) : decide (cmpS y.T x.T < 0) = false := by
  refine decide_eq_false fun h => ?_
  have := cmpS_neg.1 h
  rcases Nat.lt_or_eq_of_le hij with h1 | rfl
  · have := hl.get h1 hx hy; omega
  · rw [hx] at hy; cases hy; omega

theorem ins_sorted {l : List api_Point} (hl : RP l) {a b : Nat} (ha : a ≤ l.length) (hb : b ≤ l.length) (hn : l.length < 1000000) : slices_insertionSortCmpFunc_api_Point__merge_Of_1 l (a : Int) (b : Int) = some l := by
  unfold slices_insertionSortCmpFunc_api_Point__merge_Of_1
  rw [pur_eq, wrap64 (by omega) (by omega)]
  have inner : ∀ j : Nat, j < l.length → iter (fun s : (List api_Point) × Int => slices_insertionSortCmpFunc_api_Point__merge_Of_1.b3 (a : Int) s.1 s.2) (l, (j : Int)) = some l := by
    intro j hj
    refine iter_end ?_
    unfold slices_insertionSortCmpFunc_api_Point__merge_Of_1.b3
    dsimp only
    by_cases hc : (a : Int) < (j : Int)
    · have h1 := List.getElem?_eq_getElem hj
      have h2 : l[j - 1]? = some l[j - 1] := List.getElem?_eq_getElem (by omega)
      rw [decide_eq_true hc, cond_true, at_nat h1, Option.bind_some, pur_eq, wrap64 (by omega) (by omega), show (j : Int) - 1 = ((j - 1 : Nat) : Int) by omega, at_nat h2, Option.bind_some, of1_eq, Option.bind_some, cmpS_not hl (by omega) h2 h1]
      rfl
    · rw [decide_eq_false hc]
      rfl
  obtain ⟨r, h1, h2⟩ := iter_total (step := fun s : (List api_Point) × Int => slices_insertionSortCmpFunc_api_Point__merge_Of_1.b1 (a : Int) (b : Int) s.1 s.2) (fun s => s.1 = l ∧ ∃ j : Nat, s.2 = (j : Int)) (fun s => b - s.2.toNat) (fun r => r = l) (by
    rintro ⟨x, y⟩ ⟨rfl, j, hj⟩
    dsimp only at hj
    subst hj
    unfold slices_insertionSortCmpFunc_api_Point__merge_Of_1.b1
    by_cases hc : (j : Int) < (b : Int)
    · left
      refine ⟨(x, ((j + 1 : Nat) : Int)), ?_, ⟨rfl, j + 1, rfl⟩, by simp; omega⟩
      rw [decide_eq_true hc, cond_true, inner j (by omega), Option.bind_some, pur_eq, wrap64 (by omega) (by omega)]
      rfl
    · right
      exact ⟨x, by rw [decide_eq_false hc]; rfl, rfl⟩) (l, (a : Int) + 1) ⟨rfl, a + 1, rfl⟩
  rw [h1, h2]

theorem sym_sorted {l : List api_Point} (hl : RP l) (hn : l.length < 1000000) : ∀ (n a m b : Nat), a < m → m < b → b ≤ l.length → b - a ≤ 2 ^ n → slices_symMergeCmpFunc_api_Point__merge_Of_1 n l (a : Int) (m : Int) (b : Int) = some l := by
  intro n
  induction n with
  | zero => intro a m b h1 h2 h3 h4; simp at h4; omega
  | succ n ih =>
    intro a m b h1 h2 h3 h4
    rw [Nat.pow_succ] at h4
    have ha := List.getElem?_eq_getElem (show a < l.length by omega)
    have hm := List.getElem?_eq_getElem (show m < l.length by omega)
    rw [slices_symMergeCmpFunc_api_Point__merge_Of_1]
    rw [pur_eq, wrap64 (by omega) (by omega)]
    by_cases hA : (m : Int) - (a : Int) = 1
    · rw [show ((m : Int) - (a : Int) == 1) = true by simp [hA], cond_true]
      obtain ⟨r, e1, e2⟩ := iter_total (step := fun s : (List api_Point) × Int × Int => slices_symMergeCmpFunc_api_Point__merge_Of_1.b2 (a : Int) s.1 s.2.1 s.2.2) (fun s => s.1 = l ∧ s.2.1 = (m : Int) ∧ ∃ j : Nat, s.2.2 = (j : Int) ∧ j ≤ b) (fun s => s.2.2.toNat) (fun r => r = (l, (m : Int))) (by
        rintro ⟨x, y, z⟩ ⟨hx, hy, j, hj, hjb⟩
        dsimp only at hx hy hj
        subst hx; subst hy; subst hj
        unfold slices_symMergeCmpFunc_api_Point__merge_Of_1.b2
        dsimp only
        by_cases hc : (m : Int) < (j : Int)
        · left
          have hp := List.getElem?_eq_getElem (show (m + j) / 2 < x.length by omega)
          refine ⟨(x, (m : Int), (((m + j) / 2 : Nat) : Int)), ?_, ⟨rfl, rfl, _, rfl, by omega⟩, by simp; omega⟩
          rw [decide_eq_true hc, cond_true, half_bind (by omega), at_nat hp, Option.bind_some, at_nat ha, Option.bind_some, of1_eq, Option.bind_some, cmpS_not hl (by omega) ha hp]
          rfl
        · right
          exact ⟨(x, (m : Int)), by rw [decide_eq_false hc]; rfl, rfl⟩) (l, (m : Int), (b : Int)) ⟨rfl, rfl, b, rfl, Nat.le_refl _⟩
      subst e2
      rw [e1, Option.bind_some]
      have e3 : iter (fun s : (List api_Point) × Int => slices_symMergeCmpFunc_api_Point__merge_Of_1.b4 (l, (m : Int)) s.1 s.2) (l, (a : Int)) = some l := iter_end (by
        unfold slices_symMergeCmpFunc_api_Point__merge_Of_1.b4
        dsimp only
        rw [pur_eq, wrap64 (by omega) (by omega), show decide ((a : Int) < (m : Int) - 1) = false by simp; omega]
        rfl)
      rw [e3]
      rfl
    · rw [show ((m : Int) - (a : Int) == 1) = false by simp; omega, cond_false, pur_eq, wrap64 (by omega) (by omega)]
      by_cases hB : (b : Int) - (m : Int) = 1
      · rw [show ((b : Int) - (m : Int) == 1) = true by simp [hB], cond_true]
        obtain ⟨r, e1, e2⟩ := iter_total (step := fun s : (List api_Point) × Int × Int => slices_symMergeCmpFunc_api_Point__merge_Of_1.b6 (m : Int) s.1 s.2.1 s.2.2) (fun s => s.1 = l ∧ s.2.2 = (m : Int) ∧ ∃ j : Nat, s.2.1 = (j : Int) ∧ j ≤ m) (fun s => m - s.2.1.toNat) (fun r => r = (l, (m : Int))) (by
          rintro ⟨x, y, z⟩ ⟨hx, hz, j, hj, hjm⟩
          dsimp only at hx hz hj
          subst hx; subst hz; subst hj
          unfold slices_symMergeCmpFunc_api_Point__merge_Of_1.b6
          dsimp only
          by_cases hc : (j : Int) < (m : Int)
          · left
            have hp := List.getElem?_eq_getElem (show (j + m) / 2 < x.length by omega)
            refine ⟨(x, (((j + m) / 2 + 1 : Nat) : Int), (m : Int)), ?_, ⟨rfl, rfl, _, rfl, by omega⟩, by simp; omega⟩
            rw [decide_eq_true hc, cond_true, half_bind (by omega), at_nat hm, Option.bind_some, at_nat hp, Option.bind_some, of1_eq, Option.bind_some, cmpS_not hl (by omega) hp hm, pur_eq, wrap64 (by omega) (by omega)]
            rfl
          · right
            have : j = m := by omega
            subst this
            exact ⟨(x, (j : Int)), by rw [decide_eq_false hc]; rfl, rfl⟩) (l, (a : Int), (m : Int)) ⟨rfl, rfl, a, rfl, by omega⟩
        subst e2
        rw [e1, Option.bind_some]
        have e3 : iter (fun s : (List api_Point) × Int => slices_symMergeCmpFunc_api_Point__merge_Of_1.b8 (l, (m : Int)) s.1 s.2) (l, (m : Int)) = some l := iter_end (by
          unfold slices_symMergeCmpFunc_api_Point__merge_Of_1.b8
          dsimp only
          rw [show decide ((m : Int) < (m : Int)) = false by simp]
          rfl)
        rw [e3]
        rfl
      · rw [show ((b : Int) - (m : Int) == 1) = false by simp; omega, cond_false, half_bind (by omega)]
        obtain ⟨mid, hmid⟩ : ∃ mid, mid = (a + b) / 2 := ⟨_, rfl⟩
        rw [← hmid]
        rw [pur_eq, show IntKind.i64.wrap ((mid : Int) + (m : Int)) = (mid : Int) + (m : Int) from wrap64 (by omega) (by omega)]
        -- where the search begins and ends
        obtain ⟨s0, r0, hs, hr0, hsr, hsb⟩ : ∃ s0 r0 : Nat, (bif (decide ((mid : Int) < (m : Int))) then (pur (IntKind.i64.wrap ((mid : Int) + (m : Int) - (b : Int))) fun y304 => some (y304, (mid : Int))) else some ((a : Int), (m : Int))) = some ((s0 : Int), (r0 : Int)) ∧ r0 = min mid m ∧ s0 ≤ r0 ∧ mid + m ≤ b + s0 := by
          by_cases hc : mid < m
          · refine ⟨mid + m - b, mid, ?_, by omega, by omega, by omega⟩
            rw [show decide ((mid : Int) < (m : Int)) = true by simp; omega, cond_true, pur_eq, wrap64 (by omega) (by omega)]
            congr 2
            omega
          · refine ⟨a, m, ?_, by omega, by omega, by omega⟩
            rw [show decide ((mid : Int) < (m : Int)) = false by simp; omega, cond_false]
        rw [hs, Option.bind_some, pur_eq, wrap64 (by omega) (by omega)]
        obtain ⟨r, e1, e2⟩ := iter_total (step := fun s : (List api_Point) × Int × Int => slices_symMergeCmpFunc_api_Point__merge_Of_1.b11 ((mid : Int) + (m : Int) - 1) s.1 s.2.1 s.2.2) (fun s => s.1 = l ∧ s.2.2 = (r0 : Int) ∧ ∃ j : Nat, s.2.1 = (j : Int) ∧ s0 ≤ j ∧ j ≤ r0) (fun s => r0 - s.2.1.toNat) (fun r => r = (l, (r0 : Int))) (by
          rintro ⟨x, y, z⟩ ⟨hx, hz, j, hj, hj0, hjm⟩
          dsimp only at hx hz hj
          subst hx; subst hz; subst hj
          unfold slices_symMergeCmpFunc_api_Point__merge_Of_1.b11
          dsimp only
          by_cases hc : (j : Int) < (r0 : Int)
          · left
            have hp := List.getElem?_eq_getElem (show (j + r0) / 2 < x.length by omega)
            have hq := List.getElem?_eq_getElem (show mid + m - 1 - (j + r0) / 2 < x.length by omega)
            refine ⟨(x, (((j + r0) / 2 + 1 : Nat) : Int), (r0 : Int)), ?_, ⟨rfl, rfl, _, rfl, by omega, by omega⟩, by simp; omega⟩
            rw [decide_eq_true hc, cond_true, half_bind (by omega), pur_eq, wrap64 (by omega) (by omega), show (mid : Int) + (m : Int) - 1 - (((j + r0) / 2 : Nat) : Int) = ((mid + m - 1 - (j + r0) / 2 : Nat) : Int) by omega,
              at_nat hq, Option.bind_some, at_nat hp, Option.bind_some, of1_eq, Option.bind_some, cmpS_not hl (by omega) hp hq, pur_eq, wrap64 (by omega) (by omega)]
            rfl
          · right
            have : j = r0 := by omega
            subst this
            exact ⟨(x, (j : Int)), by rw [decide_eq_false hc]; rfl, rfl⟩) (l, (s0 : Int), (r0 : Int)) ⟨rfl, rfl, s0, rfl, Nat.le_refl _, hsr⟩
        subst e2
        dsimp only
        rw [e1, Option.bind_some]
        dsimp only
        rw [pur_eq, wrap64 (by omega) (by omega), show (mid : Int) + (m : Int) - (r0 : Int) = ((mid + m - r0 : Nat) : Int) by omega]
        have d1 : (bif decide ((r0 : Int) < (m : Int)) then some (decide ((m : Int) < ((mid + m - r0 : Nat) : Int))) else some false) = some false := by
          by_cases hc : r0 < m
          · rw [show decide ((r0 : Int) < (m : Int)) = true by simp; omega, cond_true, show decide ((m : Int) < ((mid + m - r0 : Nat) : Int)) = false by simp; omega]
          · rw [show decide ((r0 : Int) < (m : Int)) = false by simp; omega, cond_false]
        rw [d1]
        simp only [Option.bind_some, cond_false]
        have d2 : (((bif decide ((a : Int) < (r0 : Int)) then some (decide ((r0 : Int) < (mid : Int))) else some false).bind fun o413 => (bif o413 then ((slices_symMergeCmpFunc_api_Point__merge_Of_1 n l (a : Int) (r0 : Int) (mid : Int)).bind fun y422 => some y422) else some l))) = some l := by
          by_cases hc : a < r0
          · rw [show decide ((a : Int) < (r0 : Int)) = true by simp; omega, cond_true, Option.bind_some]
            by_cases hd : r0 < mid
            · rw [show decide ((r0 : Int) < (mid : Int)) = true by simp; omega, cond_true, ih a r0 mid hc hd (by omega) (by omega)]
              rfl
            · rw [show decide ((r0 : Int) < (mid : Int)) = false by simp; omega, cond_false]
          · rw [show decide ((a : Int) < (r0 : Int)) = false by simp; omega, cond_false]
            rfl
        rw [d2]
        simp only [Option.bind_some]
        by_cases hc : mid < mid + m - r0
        · rw [show decide ((mid : Int) < ((mid + m - r0 : Nat) : Int)) = true by simp; omega, cond_true, Option.bind_some]
          by_cases hd : mid + m - r0 < b
          · rw [show decide (((mid + m - r0 : Nat) : Int) < (b : Int)) = true by simp; omega, cond_true, ih mid (mid + m - r0) b hc hd (by omega) (by omega)]
            rfl
          · rw [show decide (((mid + m - r0 : Nat) : Int) < (b : Int)) = false by simp; omega, cond_false]
        · rw [show decide ((mid : Int) < ((mid + m - r0 : Nat) : Int)) = false by simp; omega, cond_false]
          rfl
end Go.Proofs.Ytconkjamlhfneaa
