/- Plain laws of the head: far, search, a sort that finds all in order; Plain laws of the head: the library's stable sort leaves a row that rises as it is; Plain laws of the head: rows of points, put together; what a map of rows holds; Plain laws of the head: what each of its methods does; Plain laws of the head: Add and Seal; Plain laws: sums over ids. -/
import Derived.Test.YtganbpmicmbamaaGreatW4
import Derived.Test.YtganbpmicmbamaaGreatMgX2
namespace Go.Proofs.YtganbpmicmbamaaGreat.hd
open Go Go.Mg
set_option linter.unusedVariables false
set_option linter.unusedSimpArgs false
theorem iter_total {σ τ : Type} {step : σ → Option (σ ⊕ τ)} (I : σ → Prop) (μ : σ → Nat) (R : τ → Prop)
 (hs : ∀ s, I s → (∃ s', step s = some (.inl s') ∧ I s' ∧ μ s' < μ s) ∨ ∃ r, step s = some (.inr r) ∧ R r) : ∀ s, I s → ∃ r, iter step s = some r ∧ R r := by
 suffices H : ∀ n s, μ s = n → I s → ∃ r, iter step s = some r ∧ R r from fun s h => H _ s rfl h
 intro n
 induction n using Nat.strongRecOn with
 | _ n ih =>
  intro s hn hI; rcases hs s hI with ⟨s', h1, h2, h3⟩ | ⟨r, h1, h2⟩
  ·rw [iter_next h1]; exact ih (μ s') (by omega) s' rfl h2
  ·exact ⟨r, iter_end h1, h2⟩
abbrev RP (l : List qa) : Prop := l.Pairwise (fun a b => a.T < b.T)
theorem RP.get {l : List qa} (h : RP l) {i j : Nat} {x y : qa} (hij : i < j) (hx : l[i]? = some x) (hy : l[j]? = some y) : x.T < y.T := by
 obtain ⟨hi, rfl⟩ := List.getElem?_eq_some_iff.1 hx; obtain ⟨hj, rfl⟩ := List.getElem?_eq_some_iff.1 hy; exact List.pairwise_iff_getElem.1 h i j hi hj hij
def I64 (x : Int) : Prop := -9223372036854775808 ≤ x ∧ x ≤ 9223372036854775807
theorem u64_mod (x : Int) : IntKind.u64.wrap x = x % 18446744073709551616 := by
 simp [IntKind.wrap, IntKind.signed, IntKind.bits]
def farS (any : Bool) (last win t : Int) : Bool := any && (decide (t < last) && decide (win < last - t))
theorem far_any {any : Bool} {last win t : Int} (h1 : I64 last) (h2 : I64 t) (h3 : 0 ≤ win) (h4 : win ≤ 1099511627776) :
 ((bif any then (bif (decide (t < last)) then (pur (IntKind.u64.wrap last) fun y12 => (pur (IntKind.u64.wrap t) fun y14 => (pur (IntKind.u64.wrap (y12 - y14)) fun y16 => (pur (IntKind.u64.wrap win) fun y18 => some (decide (y18 < y16)))))) else some false) else some false).bind fun o3 => some o3) = some (farS any last win t) := by
 unfold farS
 cases any with
 | false => rfl
 | true =>
  simp only [cond_true, Bool.true_and]
  by_cases ht : t < last
  ·simp only [ht, decide_true, cond_true, xm, u64_mod, Option.bind_some, Bool.true_and, Option.some.injEq, decide_eq_decide]; unfold I64 at h1 h2; have e1 : win % 18446744073709551616 = win := Int.emod_eq_of_lt h3 (by omega)
   have e2 : (last % 18446744073709551616 - t % 18446744073709551616) % 18446744073709551616 = last - t := by
    have : (last % 18446744073709551616 - t % 18446744073709551616) % 18446744073709551616 = (last - t) % 18446744073709551616 := (Int.sub_emod last t _).symm; rw [this, Int.emod_eq_of_lt (by omega) (by omega)]
   rw [e1, e2]
  ·simp [ht]
theorem far_eq {h : qq} {t : Int} (h1 : I64 h.last) (h2 : I64 t) (h3 : 0 ≤ h.window) (h4 : h.window ≤ 1099511627776) : head_Head_far h t = some (farS h.any h.last h.window t) := by
 unfold head_Head_far; exact far_any h1 h2 h3 h4
def cmpS (a b : Int) : Int := if a < b then -1 else if b < a then 1 else 0
theorem cmp_eq (a b : Int) : cmp_Compare_int a b = some (cmpS a b) := by
 unfold cmp_Compare_int cmp_isNaN_int cmpS; simp only [bne_self_eq_false, Option.bind_some, cond_false]
 by_cases h1 : a < b
 ·simp [h1]
 ·by_cases h2 : b < a <;> simp [h1, h2]
theorem byTime_eq (p : qa) (t : Int) : head_byTime p t = some (cmpS p.T t) := by
 unfold head_byTime; rw [cmp_eq]; rfl
theorem of1_eq (p q : qa) : merge_Of_1 p q = some (cmpS p.T q.T) := by
 unfold merge_Of_1; rw [cmp_eq]; rfl
theorem cmpS_neg {a b : Int} : cmpS a b < 0 ↔ a < b := by
 unfold cmpS; split
 ·simp [*]
 ·split <;> simp <;> omega
theorem half_eq {a b : Nat} (h : a + b < 4611686018427387904) :
 (pur (IntKind.i64.wrap ((a : Int) + (b : Int))) fun x => pur (IntKind.u64.wrap x) fun y => pur (ishr .u64 y (1 : Int)) fun z => pur (IntKind.i64.wrap z) fun q => some q) = some (((a + b) / 2 : Nat) : Int) := by
 simp only [xm]; rw [show IntKind.i64.wrap ((a : Int) + (b : Int)) = ((a + b : Nat) : Int) from by rw [xy (by omega) (by omega)]; simp, show IntKind.u64.wrap ((a + b : Nat) : Int) = ((a + b : Nat) : Int) from wrapu64 (by omega) (by omega)]
 have : ishr .u64 ((a + b : Nat) : Int) 1 = (((a + b) / 2 : Nat) : Int) := by
  unfold ishr
  have : (2 : Int) ^ min (1 : Int).toNat IntKind.u64.bits = 2 := by decide
  rw [this, Int.fdiv_eq_ediv_of_nonneg _ (by decide)]
  omega
 rw [this, xy (by omega) (by omega)]
theorem half_bind {α : Type} {a b : Nat} (h : a + b < 4611686018427387904) (k : Int → Option α) :
 (pur (IntKind.i64.wrap ((a : Int) + (b : Int))) fun x => pur (IntKind.u64.wrap x) fun y => pur (ishr .u64 y (1 : Int)) fun z => pur (IntKind.i64.wrap z) k) = k (((a + b) / 2 : Nat) : Int) := by
 have := half_eq h; simp only [xm, Option.some.injEq] at this ⊢; rw [this]
theorem search_eq {l : List qa} {t : Int} (hl : RP l) (hn : l.length < 1000000) :
 ∃ k : Nat, k ≤ l.length ∧ xg l t = some ((k : Int), decide (∃ p ∈ l, p.T = t)) ∧ (∀ j p, j < k → l[j]? = some p → p.T < t) ∧ ∀ j p, k ≤ j → l[j]? = some p → t ≤ p.T := by
 have hm : (l.map (·.T)).Pairwise (· < ·) := List.pairwise_map.2 hl
 obtain ⟨k, h1, h2, h3, h4⟩ := iter_search (step := fun s : Int × Int => xg.b2 l t s.1 s.2) (l.map (·.T)) t hm
  (fun lo hi hlt hhi x hx => by
   rw [List.length_map] at hhi; rw [List.getElem?_map, Option.map_eq_some_iff] at hx; obtain ⟨p, hp, rfl⟩ := hx; have := lt_of_get hp; unfold xg.b2; dsimp only; rw [show decide ((lo : Int) < (hi : Int)) = true by simp; omega, cond_true, half_bind (by omega)]; rw [at_nat hp, Option.bind_some, byTime_eq, Option.bind_some]
   by_cases hc : p.T < t
   ·rw [if_pos hc, decide_eq_true (cmpS_neg.2 hc), cond_true, xm, xy (by omega) (by omega)]; simp
   ·rw [if_neg hc, decide_eq_false (fun h => hc (cmpS_neg.1 h)), cond_false])
  (fun lo => by
   unfold xg.b2
   simp)
 rw [List.length_map] at h1 h2; refine ⟨k, h1, ?_, fun j p hj hp => h3 j p.T hj (by rw [List.getElem?_map, hp]; rfl), fun j p hj hp => h4 j p.T hj (by rw [List.getElem?_map, hp]; rfl)⟩; unfold xg; rw [h2, Option.bind_some]
 by_cases hk : k < l.length
 ·have hp := List.getElem?_eq_getElem hk; rw [show decide ((k : Int) < (l.length : Int)) = true by simp; omega, cond_true, at_nat hp, Option.bind_some, byTime_eq, Option.bind_some, Option.bind_some]; have h4' := h4 k l[k].T (Nat.le_refl _) (by rw [List.getElem?_map, hp]; rfl)
  congr 2
  by_cases he : l[k].T = t
  ·rw [decide_eq_true ⟨l[k], List.getElem_mem hk, he⟩]; simp [cmpS, he]
  ·have hne : ¬ ∃ p ∈ l, p.T = t := by
    rintro ⟨p, hp2, hpt⟩; obtain ⟨j, hj, rfl⟩ := List.getElem_of_mem hp2; rcases Nat.lt_trichotomy j k with h | h | h
    ·have := h3 j l[j].T h (by rw [List.getElem?_map, List.getElem?_eq_getElem hj]; rfl); omega
    ·subst h; exact he hpt
    ·have := hl.get h hp (List.getElem?_eq_getElem hj)
     omega
   rw [decide_eq_false hne]; unfold cmpS
   have : t < l[k].T := by omega
   simp [this, show ¬ l[k].T < t by omega]
 ·rw [show decide ((k : Int) < (l.length : Int)) = false by simp; omega, cond_false, Option.bind_some]
  have hne : ¬ ∃ p ∈ l, p.T = t := by
   rintro ⟨p, hp2, hpt⟩; obtain ⟨j, hj, rfl⟩ := List.getElem_of_mem hp2; have := h3 j l[j].T (by omega) (by rw [List.getElem?_map, List.getElem?_eq_getElem hj]; rfl)
   omega
  rw [decide_eq_false hne]
end Go.Proofs.YtganbpmicmbamaaGreat.hd

namespace Go.Proofs.YtganbpmicmbamaaGreat.hd
open Go Go.Mg
set_option linter.unusedVariables false
set_option linter.unusedSimpArgs false
theorem cmpS_not {l : List qa} (hl : RP l) {i j : Nat} {x y : qa} (hij : i ≤ j) (hx : l[i]? = some x) (hy : l[j]? = some y) : decide (cmpS y.T x.T < 0) = false := by
 refine decide_eq_false fun h => ?_; have := cmpS_neg.1 h; rcases Nat.lt_or_eq_of_le hij with h1 | rfl
 ·have := hl.get h1 hx hy; omega
 ·rw [hx] at hy; cases hy; omega
theorem ins_sorted {l : List qa} (hl : RP l) {a b : Nat} (ha : a ≤ l.length) (hb : b ≤ l.length) (hn : l.length < 1000000) : qy l (a : Int) (b : Int) = some l := by
 unfold qy; rw [xm, xy (by omega) (by omega)]
 have inner : ∀ j : Nat, j < l.length → iter (fun s : (List qa) × Int => qy.b3 (a : Int) s.1 s.2) (l, (j : Int)) = some l := by
  intro j hj; refine iter_end ?_; unfold qy.b3; dsimp only
  by_cases hc : (a : Int) < (j : Int)
  ·have h1 := List.getElem?_eq_getElem hj; have h2 : l[j - 1]? = some l[j - 1] := List.getElem?_eq_getElem (by omega); rw [decide_eq_true hc, cond_true, at_nat h1, Option.bind_some, xm, xy (by omega) (by omega), show (j : Int) - 1 = ((j - 1 : Nat) : Int) by omega, at_nat h2, Option.bind_some, of1_eq, Option.bind_some, cmpS_not hl (by omega) h2 h1]
   rfl
  ·rw [decide_eq_false hc]
   rfl
 obtain ⟨r, h1, h2⟩ := iter_total (step := fun s : (List qa) × Int => qy.b1 (a : Int) (b : Int) s.1 s.2) (fun s => s.1 = l ∧ ∃ j : Nat, s.2 = (j : Int)) (fun s => b - s.2.toNat) (fun r => r = l) (by
  rintro ⟨x, y⟩ ⟨rfl, j, hj⟩; dsimp only at hj; subst hj; unfold qy.b1
  by_cases hc : (j : Int) < (b : Int)
  ·left
   refine ⟨(x, ((j + 1 : Nat) : Int)), ?_, ⟨rfl, j + 1, rfl⟩, by simp; omega⟩; rw [decide_eq_true hc, cond_true, inner j (by omega), Option.bind_some, xm, xy (by omega) (by omega)]
   rfl
  ·right
   exact ⟨x, by rw [decide_eq_false hc]; rfl, rfl⟩) (l, (a : Int) + 1) ⟨rfl, a + 1, rfl⟩
 rw [h1, h2]
theorem sym_sorted {l : List qa} (hl : RP l) (hn : l.length < 1000000) : ∀ (n a m b : Nat), a < m → m < b → b ≤ l.length → b - a ≤ 2 ^ n → qg n l (a : Int) (m : Int) (b : Int) = some l := by
 intro n
 induction n with
 | zero => intro a m b h1 h2 h3 h4; simp at h4; omega
 | succ n ih =>
  intro a m b h1 h2 h3 h4; rw [Nat.pow_succ] at h4; have ha := List.getElem?_eq_getElem (show a < l.length by omega); have hm := List.getElem?_eq_getElem (show m < l.length by omega); rw [qg]; rw [xm, xy (by omega) (by omega)]
  by_cases hA : (m : Int) - (a : Int) = 1
  ·rw [show ((m : Int) - (a : Int) == 1) = true by simp [hA], cond_true]
   obtain ⟨r, e1, e2⟩ := iter_total (step := fun s : (List qa) × Int × Int => qg.b2 (a : Int) s.1 s.2.1 s.2.2) (fun s => s.1 = l ∧ s.2.1 = (m : Int) ∧ ∃ j : Nat, s.2.2 = (j : Int) ∧ j ≤ b) (fun s => s.2.2.toNat) (fun r => r = (l, (m : Int))) (by
    rintro ⟨x, y, z⟩ ⟨hx, hy, j, hj, hjb⟩; dsimp only at hx hy hj; subst hx; subst hy; subst hj; unfold qg.b2; dsimp only
    by_cases hc : (m : Int) < (j : Int)
    ·left
     have hp := List.getElem?_eq_getElem (show (m + j) / 2 < x.length by omega); refine ⟨(x, (m : Int), (((m + j) / 2 : Nat) : Int)), ?_, ⟨rfl, rfl, _, rfl, by omega⟩, by simp; omega⟩; rw [decide_eq_true hc, cond_true, half_bind (by omega), at_nat hp, Option.bind_some, at_nat ha, Option.bind_some, of1_eq, Option.bind_some, cmpS_not hl (by omega) ha hp]
     rfl
    ·right
     exact ⟨(x, (m : Int)), by rw [decide_eq_false hc]; rfl, rfl⟩) (l, (m : Int), (b : Int)) ⟨rfl, rfl, b, rfl, Nat.le_refl _⟩
   subst e2; rw [e1, Option.bind_some]
   have e3 : iter (fun s : (List qa) × Int => qg.b4 (l, (m : Int)) s.1 s.2) (l, (a : Int)) = some l := iter_end (by
    unfold qg.b4; dsimp only; rw [xm, xy (by omega) (by omega), show decide ((a : Int) < (m : Int) - 1) = false by simp; omega]
    rfl)
   rw [e3]
   rfl
  ·rw [show ((m : Int) - (a : Int) == 1) = false by simp; omega, cond_false, xm, xy (by omega) (by omega)]
   by_cases hB : (b : Int) - (m : Int) = 1
   ·rw [show ((b : Int) - (m : Int) == 1) = true by simp [hB], cond_true]
    obtain ⟨r, e1, e2⟩ := iter_total (step := fun s : (List qa) × Int × Int => qg.b6 (m : Int) s.1 s.2.1 s.2.2) (fun s => s.1 = l ∧ s.2.2 = (m : Int) ∧ ∃ j : Nat, s.2.1 = (j : Int) ∧ j ≤ m) (fun s => m - s.2.1.toNat) (fun r => r = (l, (m : Int))) (by
     rintro ⟨x, y, z⟩ ⟨hx, hz, j, hj, hjm⟩; dsimp only at hx hz hj; subst hx; subst hz; subst hj; unfold qg.b6; dsimp only
     by_cases hc : (j : Int) < (m : Int)
     ·left
      have hp := List.getElem?_eq_getElem (show (j + m) / 2 < x.length by omega); refine ⟨(x, (((j + m) / 2 + 1 : Nat) : Int), (m : Int)), ?_, ⟨rfl, rfl, _, rfl, by omega⟩, by simp; omega⟩; rw [decide_eq_true hc, cond_true, half_bind (by omega), at_nat hm, Option.bind_some, at_nat hp, Option.bind_some, of1_eq, Option.bind_some, cmpS_not hl (by omega) hp hm, xm, xy (by omega) (by omega)]
      rfl
     ·right
      have : j = m := by omega
      subst this
      exact ⟨(x, (j : Int)), by rw [decide_eq_false hc]; rfl, rfl⟩) (l, (a : Int), (m : Int)) ⟨rfl, rfl, a, rfl, by omega⟩
    subst e2; rw [e1, Option.bind_some]
    have e3 : iter (fun s : (List qa) × Int => qg.b8 (l, (m : Int)) s.1 s.2) (l, (m : Int)) = some l := iter_end (by
     unfold qg.b8; dsimp only; rw [show decide ((m : Int) < (m : Int)) = false by simp]
     rfl)
    rw [e3]
    rfl
   ·rw [show ((b : Int) - (m : Int) == 1) = false by simp; omega, cond_false, half_bind (by omega)]; obtain ⟨mid, hmid⟩ : ∃ mid, mid = (a + b) / 2 := ⟨_, rfl⟩; rw [← hmid]; rw [xm, show IntKind.i64.wrap ((mid : Int) + (m : Int)) = (mid : Int) + (m : Int) from xy (by omega) (by omega)]
    -- where the search begins and ends
    obtain ⟨s0, r0, hs, hr0, hsr, hsb⟩ : ∃ s0 r0 : Nat, (bif (decide ((mid : Int) < (m : Int))) then (pur (IntKind.i64.wrap ((mid : Int) + (m : Int) - (b : Int))) fun y304 => some (y304, (mid : Int))) else some ((a : Int), (m : Int))) = some ((s0 : Int), (r0 : Int)) ∧ r0 = min mid m ∧ s0 ≤ r0 ∧ mid + m ≤ b + s0 := by
     by_cases hc : mid < m
     ·refine ⟨mid + m - b, mid, ?_, by omega, by omega, by omega⟩; rw [show decide ((mid : Int) < (m : Int)) = true by simp; omega, cond_true, xm, xy (by omega) (by omega)]
      congr 2
      omega
     ·refine ⟨a, m, ?_, by omega, by omega, by omega⟩; rw [show decide ((mid : Int) < (m : Int)) = false by simp; omega, cond_false]
    rw [hs, Option.bind_some, xm, xy (by omega) (by omega)]
    obtain ⟨r, e1, e2⟩ := iter_total (step := fun s : (List qa) × Int × Int => qg.b11 ((mid : Int) + (m : Int) - 1) s.1 s.2.1 s.2.2) (fun s => s.1 = l ∧ s.2.2 = (r0 : Int) ∧ ∃ j : Nat, s.2.1 = (j : Int) ∧ s0 ≤ j ∧ j ≤ r0) (fun s => r0 - s.2.1.toNat) (fun r => r = (l, (r0 : Int))) (by
     rintro ⟨x, y, z⟩ ⟨hx, hz, j, hj, hj0, hjm⟩; dsimp only at hx hz hj; subst hx; subst hz; subst hj; unfold qg.b11; dsimp only
     by_cases hc : (j : Int) < (r0 : Int)
     ·left
      have hp := List.getElem?_eq_getElem (show (j + r0) / 2 < x.length by omega); have hq := List.getElem?_eq_getElem (show mid + m - 1 - (j + r0) / 2 < x.length by omega); refine ⟨(x, (((j + r0) / 2 + 1 : Nat) : Int), (r0 : Int)), ?_, ⟨rfl, rfl, _, rfl, by omega, by omega⟩, by simp; omega⟩
      rw [decide_eq_true hc, cond_true, half_bind (by omega), xm, xy (by omega) (by omega), show (mid : Int) + (m : Int) - 1 - (((j + r0) / 2 : Nat) : Int) = ((mid + m - 1 - (j + r0) / 2 : Nat) : Int) by omega,
       at_nat hq, Option.bind_some, at_nat hp, Option.bind_some, of1_eq, Option.bind_some, cmpS_not hl (by omega) hp hq, xm, xy (by omega) (by omega)]
      rfl
     ·right
      have : j = r0 := by omega
      subst this
      exact ⟨(x, (j : Int)), by rw [decide_eq_false hc]; rfl, rfl⟩) (l, (s0 : Int), (r0 : Int)) ⟨rfl, rfl, s0, rfl, Nat.le_refl _, hsr⟩
    subst e2; dsimp only; rw [e1, Option.bind_some]; dsimp only; rw [xm, xy (by omega) (by omega), show (mid : Int) + (m : Int) - (r0 : Int) = ((mid + m - r0 : Nat) : Int) by omega]
    have d1 : (bif decide ((r0 : Int) < (m : Int)) then some (decide ((m : Int) < ((mid + m - r0 : Nat) : Int))) else some false) = some false := by
     by_cases hc : r0 < m
     ·rw [show decide ((r0 : Int) < (m : Int)) = true by simp; omega, cond_true, show decide ((m : Int) < ((mid + m - r0 : Nat) : Int)) = false by simp; omega]
     ·rw [show decide ((r0 : Int) < (m : Int)) = false by simp; omega, cond_false]
    rw [d1]; simp only [Option.bind_some, cond_false]
    have d2 : (((bif decide ((a : Int) < (r0 : Int)) then some (decide ((r0 : Int) < (mid : Int))) else some false).bind fun o413 => (bif o413 then ((qg n l (a : Int) (r0 : Int) (mid : Int)).bind fun y422 => some y422) else some l))) = some l := by
     by_cases hc : a < r0
     ·rw [show decide ((a : Int) < (r0 : Int)) = true by simp; omega, cond_true, Option.bind_some]
      by_cases hd : r0 < mid
      ·rw [show decide ((r0 : Int) < (mid : Int)) = true by simp; omega, cond_true, ih a r0 mid hc hd (by omega) (by omega)]
       rfl
      ·rw [show decide ((r0 : Int) < (mid : Int)) = false by simp; omega, cond_false]
     ·rw [show decide ((a : Int) < (r0 : Int)) = false by simp; omega, cond_false]
      rfl
    rw [d2]; simp only [Option.bind_some]
    by_cases hc : mid < mid + m - r0
    ·rw [show decide ((mid : Int) < ((mid + m - r0 : Nat) : Int)) = true by simp; omega, cond_true, Option.bind_some]
     by_cases hd : mid + m - r0 < b
     ·rw [show decide (((mid + m - r0 : Nat) : Int) < (b : Int)) = true by simp; omega, cond_true, ih mid (mid + m - r0) b hc hd (by omega) (by omega)]
      rfl
     ·rw [show decide (((mid + m - r0 : Nat) : Int) < (b : Int)) = false by simp; omega, cond_false]
    ·rw [show decide ((mid : Int) < ((mid + m - r0 : Nat) : Int)) = false by simp; omega, cond_false]
     rfl
end Go.Proofs.YtganbpmicmbamaaGreat.hd

namespace Go.Proofs.YtganbpmicmbamaaGreat.hd
open Go Go.Mg
set_option linter.unusedVariables false
set_option linter.unusedSimpArgs false
theorem sort_sorted {l : List qa} (hl : RP l) (hn : l.length < 1000000) : yh l = some l := by
 have big : ∀ x : Nat, x ≤ 1000000 → x ≤ 2 ^ 64 := fun x h => by omega
 have e0 : qu l (l.length : Int) = some l := by
  unfold qu
  obtain ⟨r, e1, a', hr, ha'⟩ := iter_total (step := fun s : (List qa) × Int × Int => qu.b2 (l.length : Int) s.1 s.2.1 s.2.2) (fun s => s.1 = l ∧ ∃ a : Nat, s.2.1 = (a : Int) ∧ s.2.2 = ((a + 20 : Nat) : Int) ∧ a ≤ l.length) (fun s => l.length - s.2.1.toNat) (fun r => ∃ a' : Nat, r = (l, (a' : Int)) ∧ a' ≤ l.length) (by
   rintro ⟨x, y, z⟩ ⟨hx, a, hy, hz, ha⟩; dsimp only at hx hy hz; subst hx; subst hy; subst hz; unfold qu.b2; dsimp only
   by_cases hc : a + 20 ≤ x.length
   ·left
    refine ⟨(x, ((a + 20 : Nat) : Int), ((a + 20 + 20 : Nat) : Int)), ?_, ⟨rfl, _, rfl, rfl, hc⟩, by simp; omega⟩; rw [show decide (((a + 20 : Nat) : Int) ≤ (x.length : Int)) = true by simp; omega, cond_true, ins_sorted hl ha hc hn, Option.bind_some, xm, xy (by omega) (by omega)]
    congr 4
   ·right
    exact ⟨(x, (a : Int)), by rw [show decide (((a + 20 : Nat) : Int) ≤ (x.length : Int)) = false by simp; omega]; rfl, a, rfl, ha⟩) (l, 0, 20) ⟨rfl, 0, rfl, rfl, Nat.zero_le _⟩
  subst hr; rw [e1, Option.bind_some]; dsimp only; rw [ins_sorted hl ha' (Nat.le_refl _) hn, Option.bind_some]
  obtain ⟨r, e2, hr⟩ := iter_total (step := fun s : (List qa) × Int => qu.b3 (l.length : Int) s.1 s.2) (fun s => s.1 = l ∧ ∃ bs : Nat, s.2 = (bs : Int) ∧ 1 ≤ bs ∧ bs ≤ 2000000) (fun s => l.length - s.2.toNat) (fun r => r = l) (by
   rintro ⟨x, y⟩ ⟨hx, bs, hy, h1, h2⟩; dsimp only at hx hy; subst hx; subst hy; unfold qu.b3; dsimp only
   by_cases hc : bs < x.length
   ·left
    refine ⟨(x, ((bs * 2 : Nat) : Int)), ?_, ⟨rfl, _, rfl, by omega, by omega⟩, by simp; omega⟩; rw [show decide ((bs : Int) < (x.length : Int)) = true by simp; omega, cond_true, xm, xy (by omega) (by omega)]
    obtain ⟨r, e3, a', hr, ha'⟩ := iter_total (step := fun s : (List qa) × Int × Int => qu.b5 (x.length : Int) (bs : Int) s.1 s.2.1 s.2.2) (fun s => s.1 = x ∧ ∃ a : Nat, s.2.1 = (a : Int) ∧ s.2.2 = ((a + 2 * bs : Nat) : Int) ∧ a ≤ x.length) (fun s => x.length - s.2.1.toNat) (fun r => ∃ a' : Nat, r = (x, (a' : Int)) ∧ a' ≤ x.length) (by
     rintro ⟨x', y, z⟩ ⟨hx, a, hy, hz, ha⟩; dsimp only at hx hy hz; subst hx; subst hy; subst hz; unfold qu.b5; dsimp only
     by_cases hc2 : a + 2 * bs ≤ x'.length
     ·left
      refine ⟨(x', ((a + 2 * bs : Nat) : Int), ((a + 2 * bs + 2 * bs : Nat) : Int)), ?_, ⟨rfl, _, rfl, rfl, hc2⟩, by simp; omega⟩
      rw [show decide (((a + 2 * bs : Nat) : Int) ≤ (x'.length : Int)) = true by simp; omega, cond_true, xm, xy (by omega) (by omega), show (a : Int) + (bs : Int) = ((a + bs : Nat) : Int) by omega,
       sym_sorted hl hn 64 a (a + bs) (a + 2 * bs) (by omega) (by omega) hc2 (big _ (by omega)), Option.bind_some, xm, show IntKind.i64.wrap (2 * (bs : Int)) = 2 * (bs : Int) from xy (by omega) (by omega), xm, xy (by omega) (by omega)]
      congr 4
     ·right
      exact ⟨(x', (a : Int)), by rw [show decide (((a + 2 * bs : Nat) : Int) ≤ (x'.length : Int)) = false by simp; omega]; rfl, a, rfl, ha⟩) (x, 0, (2 : Int) * (bs : Int)) ⟨rfl, 0, rfl, by simp, Nat.zero_le _⟩
    subst hr; rw [e3, Option.bind_some]; dsimp only; rw [xm, xy (by omega) (by omega), show (a' : Int) + (bs : Int) = ((a' + bs : Nat) : Int) by omega]
    by_cases hd : a' + bs < x.length
    ·rw [show decide (((a' + bs : Nat) : Int) < (x.length : Int)) = true by simp; omega, cond_true, sym_sorted hl hn 64 a' (a' + bs) x.length (by omega) hd (Nat.le_refl _) (big _ (by omega))]; simp only [Option.bind_some]; rw [xm, xy (by omega) (by omega)]
     congr 3
    ·rw [show decide (((a' + bs : Nat) : Int) < (x.length : Int)) = false by simp; omega, cond_false]; simp only [Option.bind_some]; rw [xm, xy (by omega) (by omega)]
     congr 3
   ·right
    exact ⟨x, by rw [show decide ((bs : Int) < (x.length : Int)) = false by simp; omega]; rfl, rfl⟩) (l, 20) ⟨rfl, 20, rfl, by omega, by omega⟩
  rw [e2, hr]
 unfold yh; rw [e0]
 rfl
theorem clone_ok {α : Type} {by_ : Nat} {xs : List α} (h : xs.length * by_ ≤ lim) : clone_ by_ xs = some xs := by unfold clone_; rw [if_pos h]
theorem of_sorted {l : List qa} (hl : RP l) (hn : l.length < 1000000) : merge_Of l = some l := by
 unfold merge_Of xi
 have hlim : ∀ n : Nat, n ≤ 1000000 → n * 16 ≤ lim := fun n h => by unfold lim; omega
 rw [clone_ok (hlim _ (by omega)), Option.bind_some, sort_sorted hl hn, Option.bind_some]
 obtain ⟨r, e1, rfl⟩ := iter_inv (step := fun s : (List qa) × Int => merge_Of.b2 l s.1 s.2) (fun s i => (s, i)) l (fun s i => s = l.take i) (fun r => r = l) (by
  intro s i x hx hs; subst hs
  left
  refine ⟨l.take (i + 1), ?_, rfl⟩; have hi := lt_of_get hx; unfold merge_Of.b2; dsimp only; rw [show decide ((i : Int) < (l.length : Int)) = true by simp; omega, cond_true, at_nat hx, Option.bind_some, xm, xm, xy (by omega) (by omega)]
  have htake : l.take i ++ [x] = l.take (i + 1) := by
   rw [List.take_add_one, hx]; rfl
  have hcond : (bif ((i : Int) + 1 == (l.length : Int)) then some true else (pur ((i : Int) + 1) fun y81 => (at_ l y81).bind fun y83 => some (y83.T != x.T))) = some true := by
   by_cases hc : i + 1 = l.length
   ·rw [show ((i : Int) + 1 == (l.length : Int)) = true by simp; omega, cond_true]
   ·have hy := List.getElem?_eq_getElem (show i + 1 < l.length by omega); rw [show ((i : Int) + 1 == (l.length : Int)) = false by simp; omega, cond_false, xm, show (i : Int) + 1 = ((i + 1 : Nat) : Int) by omega, at_nat hy, Option.bind_some]; have := hl.get (Nat.lt_succ_self i) hx hy
    have hne : l[i + 1].T ≠ x.T := by omega
    simp [hne]
  rw [hcond]; simp only [Option.bind_some, cond_true]; rw [app_ok (hlim _ (by rw [List.length_take]; simp; omega)), htake]; simp only [Option.bind_some, xm]
  rfl) (by
  intro s hs; subst hs; refine ⟨l, ?_, rfl⟩; unfold merge_Of.b2
  simp) [] (by simp)
 rw [e1]
 rfl
section
variable {κ β : Type} [DecidableEq κ] {m : List (κ × β)} {k k' : κ} {y : β}
theorem mget_cons (x : κ × β) : ye k (x :: m) = if k = x.1 then some x.2 else ye k m := by
 unfold ye; rw [List.find?_cons]
 by_cases h : k = x.1 <;> simp [h]
theorem mget_mput : ye k (mput k' y m) = if k = k' then some y else ye k m := by
 induction m with
 | nil => simp [mput, mget_cons]
 | cons x m ih =>
  unfold mput
  by_cases h : k' = x.1
  ·rw [if_pos h, mget_cons, mget_cons]
   by_cases h2 : k = x.1 <;> simp [h2, h]
  ·rw [if_neg h, mget_cons, mget_cons, ih]
   by_cases h2 : k = x.1
   ·have : ¬ k = k' := fun e => h (by rw [← e, h2]); simp [h2, this]; intro e; exact absurd e.symm h
   ·simp [h2]
theorem mget_mrem : ye k (mrem k' m) = if k = k' then none else ye k m := by
 induction m with
 | nil => simp [mrem, ye]
 | cons x m ih =>
  unfold mrem at ih ⊢; rw [List.filter_cons]
  by_cases h : k' = x.1
  ·simp only [h, decide_true, Bool.not_true, Bool.false_eq_true, if_false]; rw [h] at ih; rw [ih, mget_cons]
   by_cases h2 : k = x.1 <;> simp [h2]
  ·simp only [h, decide_false, Bool.not_false, if_true]; rw [mget_cons, mget_cons, ih]
   by_cases h2 : k = x.1
   ·have : ¬ x.1 = k' := fun e => h e.symm; simp [h2, this]
   ·simp [h2]
theorem mem_keys : k ∈ m.map (·.1) ↔ (ye k m).isSome := by
 induction m with
 | nil => simp [ye]
 | cons x m ih =>
  rw [mget_cons, List.map_cons, List.mem_cons, ih]
  by_cases h : k = x.1 <;> simp [h]
theorem mput_keys (h : (m.map (·.1)).Nodup) : ((mput k y m).map (·.1)).Nodup := by
 induction m with
 | nil => simp [mput]
 | cons x m ih =>
  simp only [List.map_cons, List.nodup_cons] at h; unfold mput
  by_cases e : k = x.1
  ·rw [if_pos e]; simpa using h
  ·rw [if_neg e, List.map_cons, List.nodup_cons]; refine ⟨fun hm => ?_, ih h.2⟩; rw [mem_keys, mget_mput] at hm
   split at hm
   ·rename_i e2; exact e e2.symm
   ·exact h.1 (mem_keys.2 hm)
theorem mrem_keys (h : (m.map (·.1)).Nodup) : ((mrem k m).map (·.1)).Nodup := h.sublist ((List.filter_sublist).map _)
end
def row (h : qq) (id : Int) : List qa := (ye id h.series).getD []
end Go.Proofs.YtganbpmicmbamaaGreat.hd

namespace Go.Proofs.YtganbpmicmbamaaGreat.hd
open Go Go.Mg
set_option linter.unusedVariables false
set_option linter.unusedSimpArgs false
def tot (m : List (Int × List qa)) : Nat := (m.map (·.2.length)).sum
theorem tot_cons (x : Int × List qa) (m : List (Int × List qa)) : tot (x :: m) = x.2.length + tot m := by simp [tot]
theorem tot_get {m : List (Int × List qa)} (k : Int) : ((ye k m).getD []).length ≤ tot m := by
 induction m with
 | nil => simp [ye]
 | cons x m ih =>
  rw [mget_cons, tot_cons]
  by_cases h : k = x.1
  ·simp [h]
  ·simp only [h, if_false]; omega
theorem tot_mput {m : List (Int × List qa)} (k : Int) (y : List qa) : tot (mput k y m) + ((ye k m).getD []).length = tot m + y.length := by
 induction m with
 | nil => simp [mput, tot, ye]
 | cons x m ih =>
  unfold mput; rw [mget_cons]
  by_cases h : k = x.1
  ·simp only [h, if_true, tot_cons, Option.getD_some]; omega
  ·simp only [h, if_false, tot_cons]; omega
theorem tot_mrem {m : List (Int × List qa)} (k : Int) (hn : (m.map (·.1)).Nodup) : tot (mrem k m) + ((ye k m).getD []).length = tot m := by
 induction m with
 | nil => simp [mrem, tot, ye]
 | cons x m ih =>
  simp only [List.map_cons, List.nodup_cons] at hn; have ih := ih hn.2; unfold mrem at ih ⊢; rw [mget_cons, List.filter_cons]
  by_cases h : k = x.1
  ·simp only [h, decide_true, Bool.not_true, Bool.false_eq_true, if_false, if_true, tot_cons, Option.getD_some]
   have h2 : ye x.1 m = none := by
    cases hq : ye x.1 m with
    | none => rfl
    | some y => exact absurd (mem_keys.2 (by rw [hq]; rfl)) hn.1
   rw [h, h2] at ih; simp at ih
   omega
  ·simp only [h, decide_false, Bool.not_false, if_true, if_false, tot_cons]; omega
structure HI (h : qq) : Prop where
 win : 0 ≤ h.window
 win2 : h.window ≤ 1099511627776
 last : I64 h.last
 keys : (h.series.map (·.1)).Nodup
 ids : ∀ id, row h id ≠ [] → 0 ≤ id ∧ id < 4096
 rows : ∀ id, RP (row h id)
 ne : ∀ id, ye id h.series = some (row h id) → row h id ≠ []
 pts : ∀ id p, p ∈ row h id → I64 p.T
 many : h.many = (tot h.series : Int)
 le : tot h.series ≤ 2048
theorem HI.len {h : qq} (H : HI h) (id : Int) : (row h id).length ≤ 2048 := Nat.le_trans (tot_get id) H.le
theorem HI.far {h : qq} (H : HI h) {t : Int} (ht : I64 t) : head_Head_far h t = some (farS h.any h.last h.window t) := far_eq H.last ht H.win H.win2
theorem HI.none {h : qq} (H : HI h) {id : Int} : ye id h.series = none ↔ row h id = [] := by
 constructor
 ·intro h1; unfold row; rw [h1]; rfl
 ·intro h1; cases hq : ye id h.series with
  | none => rfl
  | some y =>
   have : row h id = y := by unfold row; rw [hq]; rfl
   exact absurd h1 (H.ne id (by rw [hq, this]))
def Same3 (h h' : qq) : Prop := h'.window = h.window ∧ h'.last = h.last ∧ h'.any = h.any
theorem put_eq {h : qq} (H : HI h) {id : Int} {l : List qa} (hid : l ≠ [] → 0 ≤ id ∧ id < 4096) (hl : RP l) (hp : ∀ p ∈ l, I64 p.T) (hle : tot h.series + l.length ≤ 2048 + (row h id).length) :
 ∃ h', head_Head_put h id l = some h' ∧ HI h' ∧ Same3 h h' ∧ ∀ i, row h' i = if i = id then l else row h i := by
 have hlen := H.len id; have htot := H.le; have hl2 : (row h id).length ≤ tot h.series := tot_get id; unfold head_Head_put; rw [show (ye id h.series).getD [] = row h id from rfl]; simp only [xm]; rw [xy (x := (l.length : Int) - ((row h id).length : Int)) (by omega) (by omega), xy (x := h.many + _) (by rw [H.many]; omega) (by rw [H.many]; omega)]
 by_cases h0 : l = []
 ·subst h0; refine ⟨{ h with series := mrem id h.series, many := h.many + ((([] : List qa).length : Int) - ((row h id).length : Int)) }, by rw [show ((([] : List qa).length : Int) == 0) = true by simp, cond_true], ?_, ⟨rfl, rfl, rfl⟩, ?_⟩
  all_goals have hrow : ∀ i, (ye i (mrem id h.series)).getD [] = if i = id then [] else row h i := fun i => by rw [mget_mrem]; split <;> rfl
  ·have ht := tot_mrem id H.keys; rw [show (ye id h.series).getD [] = row h id from rfl] at ht; refine ⟨H.win, H.win2, H.last, mrem_keys H.keys, ?_, ?_, ?_, ?_, ?_, ?_⟩
   ·intro i; unfold row; dsimp only; rw [hrow]; split
    ·intro h; exact absurd rfl h
    ·exact H.ids i
   ·intro i; unfold row; dsimp only; rw [hrow]; split
    ·exact .nil
    ·exact H.rows i
   ·intro i; unfold row; dsimp only; rw [hrow, mget_mrem]; split
    ·intro h; cases h
    ·exact H.ne i
   ·intro i p; unfold row; dsimp only; rw [hrow]; split
    ·intro h; cases h
    ·exact H.pts i p
   ·dsimp only; rw [H.many]; simp; omega
   ·dsimp only; omega
  ·intro i; unfold row; exact hrow i
 ·have hpos : 0 < l.length := List.length_pos_iff.2 h0; refine ⟨{ h with series := mput id l h.series, many := h.many + ((l.length : Int) - ((row h id).length : Int)) }, by rw [show ((l.length : Int) == 0) = false by simp; exact h0, cond_false], ?_, ⟨rfl, rfl, rfl⟩, ?_⟩
  all_goals have hrow : ∀ i, (ye i (mput id l h.series)).getD [] = if i = id then l else row h i := fun i => by rw [mget_mput]; split <;> rfl
  ·have ht := tot_mput (m := h.series) id l; rw [show (ye id h.series).getD [] = row h id from rfl] at ht; refine ⟨H.win, H.win2, H.last, mput_keys H.keys, ?_, ?_, ?_, ?_, ?_, ?_⟩
   ·intro i; unfold row; dsimp only; rw [hrow]; split
    ·rename_i e; subst e; exact hid
    ·exact H.ids i
   ·intro i; unfold row; dsimp only; rw [hrow]; split
    ·exact hl
    ·exact H.rows i
   ·intro i; unfold row; dsimp only; rw [hrow, mget_mput]; split
    ·intro _; exact h0
    ·exact H.ne i
   ·intro i p; unfold row; dsimp only; rw [hrow]; split
    ·exact hp p
    ·exact H.pts i p
   ·dsimp only; rw [H.many]; omega
   ·dsimp only; omega
  ·intro i; unfold row; exact hrow i
theorem drop_eq {h : qq} (H : HI h) (id : Int) : ∃ h', head_Head_Drop (some h) id = some (((row h id).length : Int), some h') ∧ HI h' ∧ Same3 h h' ∧ ∀ i, row h' i = if i = id then [] else row h i := by
 obtain ⟨h', h1, h2, h3, h4⟩ := put_eq H (id := id) (l := []) (fun h => absurd rfl h) .nil (fun p hp => by cases hp) (by have := H.le; simp; omega); refine ⟨h', ?_, h2, h3, h4⟩; unfold head_Head_Drop; simp only [Option.isNone_some, cond_false, Option.bind_some, h1]
 rfl
theorem points_eq {h : qq} (H : HI h) (id : Int) : head_Head_Points (some h) id = some (row h id) := by
 unfold head_Head_Points xi; have := H.len id; simp only [Option.isNone_some, cond_false, Option.bind_some]; rw [show (ye id h.series).getD [] = row h id from rfl, clone_ok (by unfold lim; omega)]
 rfl
theorem len_eq {h : qq} : head_Head_Len (some h) = some h.many := rfl
theorem last_eq {h : qq} : head_Head_Last (some h) = some (h.last, h.any) := rfl
def idsS (h : qq) : List Int := (h.series.map (·.1)).mergeSort fun x y => decide (x ≤ y)
theorem tot_keys {m : List (Int × List qa)} (h : ∀ x ∈ m, x.2 ≠ []) : m.length ≤ tot m := by
 induction m with
 | nil => simp
 | cons x m ih =>
  have := ih fun y hy => h y (List.mem_cons_of_mem _ hy); have h1 : 0 < x.2.length := List.length_pos_iff.2 (h x List.mem_cons_self); rw [tot_cons, List.length_cons]; omega
theorem mget_mem {m : List (Int × List qa)} (hn : (m.map (·.1)).Nodup) {x : Int × List qa} (hx : x ∈ m) : ye x.1 m = some x.2 := by
 induction m with
 | nil => cases hx
 | cons y m ih =>
  simp only [List.map_cons, List.nodup_cons] at hn; rw [mget_cons]; rcases List.mem_cons.1 hx with rfl | hx
  ·simp
  ·have : ¬ x.1 = y.1 := fun e => hn.1 (by rw [← e]; exact List.mem_map.2 ⟨x, hx, rfl⟩); rw [if_neg this]; exact ih hn.2 hx
theorem HI.nk {h : qq} (H : HI h) : h.series.length ≤ 2048 := Nat.le_trans (tot_keys fun x hx => by
 have h1 := mget_mem H.keys hx
 have h2 : row h x.1 = x.2 := by unfold row; rw [h1]; rfl
 rw [← h2]; exact H.ne x.1 (by rw [h1, h2])) H.le
theorem ids_eq {h : qq} (H : HI h) : head_Head_Ids (some h) = some (idsS h) := by
 have := H.nk; unfold head_Head_Ids keys_; dsimp only; rw [if_pos (by rw [List.length_map]; unfold lim; omega)]
 rfl
theorem ids_mem {h : qq} (H : HI h) {id : Int} : id ∈ idsS h ↔ row h id ≠ [] := by
 unfold idsS; rw [List.mem_mergeSort, mem_keys]
 constructor
 ·intro h1 h2; rw [H.none.2 h2] at h1; cases h1
 ·intro h1; cases hq : ye id h.series with
  | none => exact absurd (H.none.1 hq) h1
  | some y => rfl
theorem ids_rise {h : qq} (H : HI h) : SR (idsS h) := by
 unfold idsS
 have t : ∀ a b c : Int, decide (a ≤ b) = true → decide (b ≤ c) = true → decide (a ≤ c) = true := fun a b c h1 h2 => by simp at *; omega
 have tt : ∀ a b : Int, (decide (a ≤ b) || decide (b ≤ a)) = true := fun a b => by simp; omega
 have h1 := List.pairwise_mergeSort t tt (h.series.map (·.1)); have h2 : ((h.series.map (·.1)).mergeSort fun x y => decide (x ≤ y)).Nodup := (List.mergeSort_perm _ _).nodup_iff.2 H.keys; have := h1.and h2
 exact this.imp fun {a b} ⟨h3, h4⟩ => by
  have h3 := of_decide_eq_true h3
  omega
theorem ids_len {h : qq} (H : HI h) : (idsS h).length ≤ 2048 := by unfold idsS; rw [List.length_mergeSort, List.length_map]; exact H.nk
end Go.Proofs.YtganbpmicmbamaaGreat.hd

namespace Go.Proofs.YtganbpmicmbamaaGreat.hd
open Go Go.Mg
set_option linter.unusedVariables false
set_option linter.unusedSimpArgs false
def addE (h : qq) (id : Int) (p : qa) : Int :=
 if id < 0 ∨ 4096 ≤ id then 1 else if farS h.any h.last h.window p.T = true then 110 else if ∃ q ∈ row h id, q.T = p.T then 111 else if 2048 ≤ h.many then 4 else 0
theorem ins_row {l : List qa} {p : qa} {k : Nat} (hl : RP l) (hk : k ≤ l.length) (h3 : ∀ j q, j < k → l[j]? = some q → q.T < p.T) (h4 : ∀ j q, k ≤ j → l[j]? = some q → p.T ≤ q.T) (hne : ¬ ∃ q ∈ l, q.T = p.T) : RP (l.take k ++ [p] ++ l.drop k) := by
 unfold RP at hl ⊢; rw [List.append_assoc, List.pairwise_append]; refine ⟨hl.sublist (List.take_sublist _ _), ?_, ?_⟩
 ·rw [List.singleton_append, List.pairwise_cons]; refine ⟨fun q hq => ?_, hl.sublist (List.drop_sublist _ _)⟩; obtain ⟨j, hj⟩ := List.getElem?_of_mem hq; rw [List.getElem?_drop] at hj; have h5 := h4 (k + j) q (by omega) hj; have h6 : q.T ≠ p.T := fun e => hne ⟨q, List.mem_of_mem_drop hq, e⟩
  omega
 ·intro a ha b hb; obtain ⟨j, hj⟩ := List.getElem?_of_mem ha; rw [List.getElem?_take] at hj
  split at hj
  case isFalse => cases hj
  rename_i hjk
  have h5 := h3 j a hjk hj; rw [List.singleton_append, List.mem_cons] at hb; rcases hb with rfl | hb
  ·exact h5
  ·obtain ⟨i, hi⟩ := List.getElem?_of_mem hb; rw [List.getElem?_drop] at hi; have := h4 (k + i) b (by omega) hi
   omega
theorem add_eq {h : qq} (H : HI h) (id : Int) {p : qa} (hp : I64 p.T) : ∃ h', head_Head_Add (some h) id p = some (addE h id p, some h') ∧ HI h' ∧
 (addE h id p ≠ 0 → h' = h) ∧ (addE h id p = 0 → h'.window = h.window ∧ h'.many = h.many + 1 ∧ h'.any = true ∧ (h'.last = if h.any = true ∧ ¬ h.last < p.T then h.last else p.T) ∧ (row h' id).Perm (p :: row h id) ∧ ∀ i, i ≠ id → row h' i = row h i) := by
 unfold head_Head_Add addE; simp only [Option.isNone_some, cond_false]
 by_cases h1 : id < 0 ∨ 4096 ≤ id
 ·refine ⟨h, ?_, H, fun _ => rfl, fun e => ?_⟩
  ·rw [if_pos h1]
   have : (bif decide (id < 0) then some true else some (decide (4096 ≤ id))) = some true := by
    rcases h1 with h1 | h1
    ·simp [h1]
    ·have : ¬ id < 0 := by omega
     simp [this, h1]
   rw [this]
   rfl
  ·rw [if_pos h1] at e; cases e
 rw [if_neg h1]
 have hc1 : (bif decide (id < 0) then some true else some (decide (4096 ≤ id))) = some false := by
  have ha : ¬ id < 0 := by omega
  have hb : ¬ 4096 ≤ id := by omega
  simp [ha, hb]
 rw [hc1]; simp only [Option.bind_some, cond_false, H.far hp]
 by_cases h2 : farS h.any h.last h.window p.T = true
 ·refine ⟨h, by rw [h2, if_pos rfl]; rfl, H, fun _ => rfl, fun e => ?_⟩; rw [if_pos h2] at e; cases e
 rw [if_neg h2]
 have h2' : farS h.any h.last h.window p.T = false := by simpa using h2
 rw [h2']; simp only [cond_false, Option.bind_some, Sum.elim_inl]; have hlen := H.len id; obtain ⟨k, hk, hs, h3, h4⟩ := search_eq (t := p.T) (H.rows id) (by omega); rw [show (ye id h.series).getD [] = row h id from rfl, hs]; simp only [Option.bind_some]
 by_cases h5 : ∃ q ∈ row h id, q.T = p.T
 ·refine ⟨h, by rw [decide_eq_true h5, if_pos h5]; rfl, H, fun _ => rfl, fun e => ?_⟩; rw [if_pos h5] at e; cases e
 rw [decide_eq_false h5, if_neg h5, cond_false]
 by_cases h6 : 2048 ≤ h.many
 ·refine ⟨h, by rw [decide_eq_true h6, if_pos h6]; rfl, H, fun _ => rfl, fun e => ?_⟩; rw [if_pos h6] at e; cases e
 rw [decide_eq_false h6, if_neg h6, cond_false]; have hmany := H.many
 have hins : slices_Insert_api_Point_api_Point (row h id) (k : Int) [p] = some ((row h id).take k ++ [p] ++ (row h id).drop k) := by
  unfold slices_Insert_api_Point_api_Point insert_; dsimp only; rw [if_pos ⟨by omega, by omega, by unfold lim; omega⟩]; simp
 rw [hins, Option.bind_some]
 have hperm : ((row h id).take k ++ [p] ++ (row h id).drop k).Perm (p :: row h id) := by
  have : ((row h id).take k ++ p :: (row h id).drop k).Perm (p :: ((row h id).take k ++ (row h id).drop k)) := List.perm_middle; rw [List.take_append_drop] at this; simpa using this
 obtain ⟨r', hr'⟩ : ∃ r', r' = (row h id).take k ++ [p] ++ (row h id).drop k := ⟨_, rfl⟩; have hRP := ins_row (H.rows id) hk h3 h4 h5; rw [← hr'] at hperm hRP ⊢
 have hrl : r'.length = (row h id).length + 1 := by rw [hperm.length_eq]; rfl
 have htm := tot_mput (m := h.series) id r'; rw [show (ye id h.series).getD [] = row h id from rfl] at htm; simp only [xm]; rw [xy (x := h.many + 1) (by omega) (by omega)]; obtain ⟨h', hh'⟩ : ∃ h' : qq, h' = { window := h.window, series := mput id r' h.series, many := h.many + 1, last := if h.any = true ∧ ¬ h.last < p.T then h.last else p.T, any := true } := ⟨_, rfl⟩
 have hrow : ∀ i, row h' i = if i = id then r' else row h i := fun i => by rw [hh']; unfold row; dsimp only; rw [mget_mput]; split <;> rfl
 refine ⟨h', ?_, ?_, fun e => absurd rfl e, fun _ => ⟨by rw [hh'], by rw [hh'], by rw [hh'], by rw [hh'], by rw [hrow, if_pos rfl]; exact hperm, fun i hi => by rw [hrow, if_neg hi]⟩⟩
 ·rw [hh']; cases ha : h.any with
  | false => simp
  | true =>
   by_cases hlt : h.last < p.T
   ·simp [hlt]
   ·simp [hlt, ha]
 ·refine ⟨by rw [hh']; exact H.win, by rw [hh']; exact H.win2, ?_, by rw [hh']; exact mput_keys H.keys, ?_, ?_, ?_, ?_, ?_, ?_⟩
  ·rw [hh']; dsimp only; split
   ·exact H.last
   ·exact hp
  ·intro i; rw [hrow]; split
   ·intro _; omega
   ·exact H.ids i
  ·intro i; rw [hrow]; split
   ·exact hRP
   ·exact H.rows i
  ·intro i; rw [hrow, hh']; dsimp only; rw [mget_mput]; split
   ·intro _ e; rw [e] at hrl; cases hrl
   ·exact H.ne i
  ·intro i q; rw [hrow]; split
   ·intro hq; rcases List.mem_cons.1 (hperm.mem_iff.1 hq) with rfl | hq
    ·exact hp
    ·exact H.pts id q hq
   ·exact H.pts i q
  ·rw [hh']; dsimp only; omega
  ·rw [hh']; dsimp only; omega
def farP (h : qq) : qa → Bool := fun q => farS h.any h.last h.window q.T
theorem far_mono {h : qq} {a b : qa} (hab : a.T < b.T) (hb : farP h b = true) : farP h a = true := by
 unfold farP farS at *; simp only [Bool.and_eq_true, decide_eq_true_eq] at *; exact ⟨hb.1, by omega, by omega⟩
theorem split_far {h : qq} : ∀ {l : List qa}, RP l → l = l.filter (farP h) ++ l.filter (fun q => !farP h q)
 | [], _ => rfl
 | x :: l, hl => by
  unfold RP at hl; rw [List.pairwise_cons] at hl
  by_cases hx : farP h x = true
  ·rw [List.filter_cons_of_pos hx, List.filter_cons_of_neg (by simp [hx]), List.cons_append, ← split_far hl.2]
  ·have : ∀ y ∈ l, farP h y ≠ true := fun y hy hf => hx (far_mono (hl.1 y hy) hf); have e1 : l.filter (farP h) = [] := List.filter_eq_nil_iff.2 this
   have e2 : l.filter (fun q => !farP h q) = l := List.filter_eq_self.2 fun y hy => by simp [this y hy]
   rw [List.filter_cons_of_neg hx, List.filter_cons_of_pos (by simp [hx]), e1, e2]
   rfl
theorem index_far {α : Type} {p : α → Option Bool} {F G : List α} (hF : ∀ x ∈ F, p x = some false) (hG : ∀ x ∈ G, p x = some true) (i : Int) : yr p (F ++ G) i = some (if G = [] then -1 else i + F.length) := by
 induction F generalizing i with
 | nil =>
  cases G with
  | nil => rfl
  | cons x G => simp [yr, hG x]
 | cons x F ih =>
  rw [List.cons_append, yr, hF x (by simp), Option.bind_some, cond_false, ih (fun y hy => hF y (by simp [hy]))]
  congr 1
  split
  ·rfl
  ·simp; omega
def chunkS (h : qq) (id : Int) : Option qd := if (row h id).filter (farP h) = [] then none else some ⟨id, (row h id).filter (farP h)⟩
theorem fm_len {α β : Type} (f : α → Option β) : ∀ l : List α, (l.filterMap f).length ≤ l.length := fun l => List.length_filterMap_le f l
theorem seal_eq {h : qq} (H : HI h) : ∃ h', head_Head_Seal (some h) = some ((idsS h).filterMap (chunkS h), some h') ∧ HI h' ∧ Same3 h h' ∧ ∀ i, row h' i = (row h i).filter (fun q => !farP h q) := by
 unfold head_Head_Seal; rw [ids_eq H, Option.bind_some]; have hil := ids_len H
 obtain ⟨r, e1, h', rfl, h1, h2, h3⟩ := iter_inv (step := fun s : (List qd) × Int × (Option qq) => head_Head_Seal.b2 (idsS h) s.1 s.2.1 s.2.2) (fun (s : (List qd) × qq) i => (s.1, i, some s.2)) (idsS h)
  (fun s i => s.1 = ((idsS h).take i).filterMap (chunkS h) ∧ HI s.2 ∧ Same3 h s.2 ∧ ∀ j, row s.2 j = if j ∈ (idsS h).take i then (row h j).filter (fun q => !farP h q) else row h j)
  (fun r => ∃ h', r = ((idsS h).filterMap (chunkS h), some h') ∧ HI h' ∧ Same3 h h' ∧ ∀ i, row h' i = if i ∈ idsS h then (row h i).filter (fun q => !farP h q) else row h i) (by
   rintro ⟨out, hc⟩ i id hid ⟨hout, Hc, hs3, hrow⟩; dsimp only at hout Hc hs3 hrow ⊢
   left
   have hi := lt_of_get hid
   have hnot : id ∉ (idsS h).take i := fun hm => by
    obtain ⟨j, hj⟩ := List.getElem?_of_mem hm; rw [List.getElem?_take] at hj
    split at hj
    case isFalse => cases hj
    rename_i hji
    obtain ⟨hj1, hj2⟩ := List.getElem?_eq_some_iff.1 hj; obtain ⟨hi1, hi2⟩ := List.getElem?_eq_some_iff.1 hid; have := List.pairwise_iff_getElem.1 (ids_rise H) j i hj1 hi1 hji
    omega
   have hr0 : row hc id = row h id := by rw [hrow, if_neg hnot]
   have htk : (idsS h).take (i + 1) = (idsS h).take i ++ [id] := by rw [List.take_add_one, hid]; rfl
   have hfar : farP hc = farP h := by unfold farP; rw [hs3.1, hs3.2.1, hs3.2.2]
   obtain ⟨F, hF⟩ : ∃ F, F = (row h id).filter (farP h) := ⟨_, rfl⟩; obtain ⟨G, hG⟩ : ∃ G, G = (row h id).filter (fun q => !farP h q) := ⟨_, rfl⟩
   have hFG : row h id = F ++ G := by rw [hF, hG]; exact split_far (H.rows id)
   have hRF : RP F := by rw [hF]; exact (H.rows id).sublist List.filter_sublist
   have hRG : RP G := by rw [hG]; exact (H.rows id).sublist List.filter_sublist
   have hlen := H.len id
   have hFl : F.length + G.length ≤ 2048 := by rw [hFG, List.length_append] at hlen; exact hlen
   have hclo : ∀ x ∈ row h id, head_Head_Seal_1 x hc = some (!farP h x) := fun x hx => by
    unfold head_Head_Seal_1; rw [Hc.far (H.pts id x hx), Option.bind_some, ← hfar]
    rfl
   have hidx : yr (fun x => head_Head_Seal_1 x hc) (row hc id) 0 = some (if G = [] then -1 else (0 : Int) + F.length) := by
    rw [hr0, hFG]; refine index_far (fun x hx => ?_) (fun x hx => ?_) 0
    ·have h1 : x ∈ row h id := by rw [hFG]; simp [hx]
     rw [hF] at hx; rw [hclo x h1, (List.mem_filter.1 hx).2]
     rfl
    ·have h1 : x ∈ row h id := by rw [hFG]; simp [hx]
     rw [hG] at hx; have := (List.mem_filter.1 hx).2; rw [hclo x h1]
     congr 1
   unfold head_Head_Seal.b2; rw [show decide ((i : Int) < ((idsS h).length : Int)) = true by simp; omega, cond_true, at_nat hid, Option.bind_some, Option.bind_some, show (ye id hc.series).getD [] = row hc id from rfl, hidx, Option.bind_some]
   have ho : (bif decide ((if G = [] then -1 else (0 : Int) + F.length) < 0) then some ((row hc id).length : Int) else some (if G = [] then -1 else (0 : Int) + F.length)) = some (F.length : Int) := by
    rw [hr0, hFG]
    by_cases hg : G = []
    ·rw [if_pos hg, hg]; simp
    ·rw [if_neg hg, show decide ((0 : Int) + F.length < 0) = false from decide_eq_false (by omega), cond_false, Int.zero_add]
   rw [ho, Option.bind_some]
   by_cases hF0 : F = []
   ·refine ⟨(out, hc), ?_, ?_, Hc, hs3, fun j => ?_⟩
    ·rw [hF0]; simp only [List.length_nil, Int.ofNat_zero, beq_self_eq_true, cond_true, Option.bind_some, xm]; rw [xy (by omega) (by omega)]
     rfl
    ·dsimp only; rw [htk, List.filterMap_append, hout]
     have : chunkS h id = none := by unfold chunkS; rw [← hF, if_pos hF0]
     simp [this]
    ·dsimp only; rw [hrow, htk]
     by_cases hj : j ∈ (idsS h).take i
     ·simp [hj]
     ·by_cases hjd : j = id
      ·subst hjd; rw [if_neg hj, if_pos (by simp), ← hG, hFG, hF0]; rfl
      ·simp [hj, hjd]
   ·have hne : ((F.length : Int) == 0) = false := by simp; exact hF0
    rw [hne, cond_false]
    have hup : upto_ (row hc id) (F.length : Int) = some F := by rw [hr0, hFG, upto_nat (by simp)]; simp
    have hfr : from_ (row hc id) (F.length : Int) = some G := by rw [hr0, hFG, from_nat (by simp)]; simp
    obtain ⟨h', p1, p2, p3, p4⟩ := put_eq Hc (id := id) (l := G) (fun _ => H.ids id (by rw [hFG]; simp [hF0])) hRG (fun q hq => H.pts id q (by rw [hFG]; simp [hq])) (by
     have := Hc.le
     rw [hr0, hFG, List.length_append]; omega)
    have happ : app_ 32 out [(⟨id, F⟩ : qd)] = some (out ++ [⟨id, F⟩]) := by
     refine app_ok ?_; have := fm_len (chunkS h) ((idsS h).take i); rw [← hout, List.length_take] at this; simp only [List.length_cons, List.length_nil]; unfold lim; omega
    have hcl : xi G = some G := clone_ok (by unfold lim; omega); rw [hup, Option.bind_some, of_sorted hRF (by omega), Option.bind_some, happ, Option.bind_some, hfr, Option.bind_some, hcl, Option.bind_some, p1, Option.bind_some, Option.bind_some, xm, xy (by omega) (by omega)]; refine ⟨(out ++ [⟨id, F⟩], h'), rfl, ?_, p2, ⟨p3.1.trans hs3.1, p3.2.1.trans hs3.2.1, p3.2.2.trans hs3.2.2⟩, fun j => ?_⟩
    ·dsimp only; rw [htk, List.filterMap_append, hout]
     have : chunkS h id = some ⟨id, F⟩ := by unfold chunkS; rw [← hF, if_neg hF0]
     simp [this]
    ·dsimp only; rw [p4, hrow, htk]
     by_cases hjd : j = id
     ·subst hjd; rw [if_pos rfl, if_pos (by simp), hG]
     ·simp [hjd]) (by
   rintro ⟨out, hc⟩ ⟨hout, Hc, hs3, hrow⟩; dsimp only at hout Hc hs3 hrow; rw [List.take_length] at hout hrow; refine ⟨(out, some hc), ?_, hc, by rw [hout], Hc, hs3, hrow⟩; unfold head_Head_Seal.b2
   simp) ([], h) ⟨by simp, H, ⟨rfl, rfl, rfl⟩, fun j => by simp⟩
 rw [e1]; refine ⟨h', rfl, h1, h2, fun i => ?_⟩; rw [h3]
 by_cases hi : i ∈ idsS h
 ·rw [if_pos hi]
 ·rw [if_neg hi]
  have : row h i = [] := by
   by_cases he : row h i = []
   ·exact he
   ·exact absurd ((ids_mem H).2 he) hi
  rw [this]; rfl
end Go.Proofs.YtganbpmicmbamaaGreat.hd

namespace Go.Proofs.YtganbpmicmbamaaGreat.hd
open Go Go.Mg
set_option linter.unusedVariables false
set_option linter.unusedSimpArgs false
def sumR (n : Nat) (f : Nat → Nat) : Nat := ((List.range n).map f).sum
theorem sumR_succ (n : Nat) (f : Nat → Nat) : sumR (n + 1) f = sumR n f + f n := by simp [sumR, List.range_succ]
theorem sumR_add (n : Nat) (f g : Nat → Nat) : sumR n (fun i => f i + g i) = sumR n f + sumR n g := by
 induction n with
 | zero => rfl
 | succ n ih => rw [sumR_succ, sumR_succ, sumR_succ, ih]; omega
theorem sumR_congr {n : Nat} {f g : Nat → Nat} (h : ∀ i, i < n → f i = g i) : sumR n f = sumR n g := by
 induction n with
 | zero => rfl
 | succ n ih => rw [sumR_succ, sumR_succ, ih fun i hi => h i (by omega), h n (by omega)]
theorem sumR_zero (n : Nat) : sumR n (fun _ => 0) = 0 := by
 induction n with
 | zero => rfl
 | succ n ih => rw [sumR_succ, ih]
theorem sumR_one (n c : Nat) (a : Int) : sumR n (fun i => if (i : Int) = a then c else 0) = if 0 ≤ a ∧ a < n then c else 0 := by
 induction n with
 | zero => rw [if_neg (by omega)]; rfl
 | succ n ih =>
  rw [sumR_succ, ih]
  by_cases h : (n : Int) = a
  ·rw [if_pos h, if_neg (by omega), if_pos (by omega)]; omega
  ·rw [if_neg h]
   by_cases h2 : 0 ≤ a ∧ a < n
   ·rw [if_pos h2, if_pos (by omega)]; omega
   ·rw [if_neg h2, if_neg (by omega)]
theorem tot_sum {m : List (Int × List qa)} {N : Nat} (hn : (m.map (·.1)).Nodup) (hr : ∀ k ∈ m.map (·.1), 0 ≤ k ∧ k < (N : Int)) : tot m = sumR N fun i => ((ye (i : Int) m).getD []).length := by
 induction m with
 | nil =>
  rw [sumR_congr (g := fun _ => 0) fun i _ => by simp [ye], sumR_zero]
  rfl
 | cons x m ih =>
  simp only [List.map_cons, List.nodup_cons] at hn; have hx := hr x.1 (by simp); rw [tot_cons, ih hn.2 fun k hk => hr k (by rw [List.map_cons]; exact List.mem_cons_of_mem _ hk)]; have h1 := sumR_one N x.2.length x.1; rw [if_pos (by omega)] at h1; rw [← h1, ← sumR_add]; refine sumR_congr fun i _ => ?_; rw [mget_cons]
  by_cases h : (i : Int) = x.1
  ·have h2 : ye x.1 m = none := by
    cases hq : ye x.1 m with
    | none => rfl
    | some y => exact absurd (mem_keys.2 (by rw [hq]; rfl)) hn.1
   rw [if_pos h, if_pos h, h, h2]; simp
  ·rw [if_neg h, if_neg h]; omega
end Go.Proofs.YtganbpmicmbamaaGreat.hd
