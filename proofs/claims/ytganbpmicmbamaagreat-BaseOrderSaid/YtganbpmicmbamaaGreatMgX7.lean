/- Plain laws of the base: a heap of runs; Plain laws of the base: lists of points put together; Plain laws of the base: blocks; Plain laws of the base: what it holds; pack, keep; Plain laws of the base: a point that is written; Plain laws of the base: whatever is done; Plain laws of the base: Retain, Erase, whatever is done; Plain laws of the base: a new base; the document's examples; two bases that are alike; The laws BasePack, BaseStill, BaseIds, BaseWindow, BaseGone over the pure functions; The law BaseOrder over the pure functions. -/
import Derived.Test.YtganbpmicmbamaaGreatW4
import Derived.Test.YtganbpmicmbamaaGreatMgX6
import Derived.Test.YtganbpmicmbamaaGreatMgX5
import Derived.Test.YtganbpmicmbamaaGreatMgX3
namespace Go.Proofs.YtganbpmicmbamaaGreat.bs
open Go Go.Mg
set_option linter.unusedVariables false
set_option linter.unusedSimpArgs false
def hd1 (r : qv) : qa := r.rest.headD ⟨0, 0⟩
def le (r s : qv) : Prop := (hd1 r).T < (hd1 s).T ∨ (hd1 r).T = (hd1 s).T ∧ s.which ≤ r.which
instance (r s : qv) : Decidable (le r s) := by unfold le; infer_instance
theorem le_refl (r : qv) : le r r := .inr ⟨rfl, Int.le_refl _⟩
theorem le_trans {r s t : qv} (h : le r s) (k : le s t) : le r t := by unfold le at *; omega
theorem le_total {r s : qv} (h : ¬ le r s) : le s r := by unfold le at *; omega
def Dr : qv := ⟨0, []⟩
def G (l : List qv) (i : Nat) : qv := (l[i]?).getD Dr
theorem at_G {l : List qv} {i : Nat} (h : i < l.length) : at_ l (i : Int) = some (G l i) := by
 have : l[i]? = some (G l i) := by unfold G; rw [List.getElem?_eq_getElem h]; rfl
 exact at_nat this
theorem G_mem {l : List qv} {i : Nat} (h : i < l.length) : G l i ∈ l := by unfold G; rw [List.getElem?_eq_getElem h]; exact List.getElem_mem h
theorem G_get {l : List qv} {i : Nat} (h : i < l.length) : G l i = l[i] := by unfold G; rw [List.getElem?_eq_getElem h]; rfl
def NE (l : List qv) : Prop := ∀ r ∈ l, r.rest ≠ []
theorem at_hd {r : qv} (h : r.rest ≠ []) : at_ r.rest 0 = some (hd1 r) := by
 unfold hd1; cases hr : r.rest with
 | nil => exact absurd hr h
 | cons p t => exact at_cons0 p t
theorem less_eq {l : List qv} (hn : NE l) {i j : Nat} (hi : i < l.length) (hj : j < l.length) : merge_runs_Less l (i : Int) (j : Int) = some (decide (¬ le (G l j) (G l i))) := by
 unfold merge_runs_Less; rw [at_G hi, Option.bind_some, at_hd (hn _ (G_mem hi)), Option.bind_some, at_G hj, Option.bind_some, at_hd (hn _ (G_mem hj)), Option.bind_some]
 by_cases h : (hd1 (G l i)).T = (hd1 (G l j)).T
 ·rw [show ((hd1 (G l i)).T != (hd1 (G l j)).T) = false by simp [h], cond_false, Option.bind_some, Option.bind_some]
  congr 1
  exact decide_eq_decide.2 (by unfold le; omega)
 ·rw [show ((hd1 (G l i)).T != (hd1 (G l j)).T) = true by simp [h], cond_true]
  congr 1
  exact decide_eq_decide.2 (by unfold le; omega)
def swp (l : List qv) (i j : Nat) : List qv := (l.set i (G l j)).set j (G l i)
theorem swp_len (l : List qv) (i j : Nat) : (swp l i j).length = l.length := by simp [swp]
theorem swap_eq {l : List qv} {i j : Nat} (hi : i < l.length) (hj : j < l.length) : merge_runs_Swap l (i : Int) (j : Int) = some (swp l i j) := by
 unfold merge_runs_Swap; rw [at_G hj, Option.bind_some, at_G hi, Option.bind_some, Option.bind_some, xm, Int.toNat_natCast, at_G (l := l.set i (G l j)) (by rw [List.length_set]; exact hj), Option.bind_some, xm, Int.toNat_natCast]
 rfl
theorem G_swp {l : List qv} {i j : Nat} (hi : i < l.length) (hj : j < l.length) (k : Nat) : G (swp l i j) k = if k = j then G l i else if k = i then G l j else G l k := by
 have e1 : ∀ (m : List qv) (a : Nat) (x : qv), a < m.length → G (m.set a x) k = if k = a then x else G m k := by
  intro m a x ha; unfold G
  by_cases h : k = a
  ·subst h; rw [List.getElem?_set_self ha, if_pos rfl]; rfl
  ·rw [List.getElem?_set_ne (fun e => h e.symm), if_neg h]
 unfold swp; rw [e1 _ _ _ (by rw [List.length_set]; exact hj), e1 _ _ _ hi]
theorem swp_perm {l : List qv} {i j : Nat} (hi : i < l.length) (hj : j < l.length) : (swp l i j).Perm l := by
 unfold swp; rw [G_get hi, G_get hj]; exact List.set_set_perm hi hj
theorem NE.perm {l m : List qv} (h : NE l) (p : m.Perm l) : NE m := fun r hr => h r (p.mem_iff.1 hr)
def Hp (l : List qv) (n : Nat) : Prop := ∀ i, 0 < i → i < n → le (G l ((i - 1) / 2)) (G l i)
theorem Hp.min {l : List qv} {n : Nat} (h : Hp l n) : ∀ i, i < n → le (G l 0) (G l i) := by
 intro i
 induction i using Nat.strongRecOn with
 | _ i ih =>
  intro hi; rcases Nat.eq_zero_or_pos i with rfl | h0
  ·exact le_refl _
  ·exact le_trans (ih ((i - 1) / 2) (by omega) (by omega)) (h i h0 hi)
theorem up_ok {l : List qv} {j : Nat} (hn : NE l) (hl : l.length ≤ 1000000) (hj : j < l.length)
 (h1 : ∀ i, 0 < i → i < l.length → i ≠ j → le (G l ((i - 1) / 2)) (G l i)) (h2 : ∀ i, 0 < i → i < l.length → (i - 1) / 2 = j → 0 < j → le (G l ((j - 1) / 2)) (G l i)) :
 ∃ r, yj ⟨l⟩ (j : Int) = some ⟨r⟩ ∧ r.Perm l ∧ Hp r r.length := by
 obtain ⟨r, e1, m, rfl, p1, p2⟩ := iter_total (step := fun s : Int × xh => yj.b1 s.1 s.2)
  (fun s => ∃ (j : Nat) (m : List qv), s = ((j : Int), ⟨m⟩) ∧ m.Perm l ∧ j < m.length ∧ (∀ i, 0 < i → i < m.length → i ≠ j → le (G m ((i - 1) / 2)) (G m i)) ∧ ∀ i, 0 < i → i < m.length → (i - 1) / 2 = j → 0 < j → le (G m ((j - 1) / 2)) (G m i))
  (fun s => s.1.toNat) (fun r => ∃ m, r = ⟨m⟩ ∧ m.Perm l ∧ Hp m m.length) (by
  rintro _ ⟨j, m, rfl, p, hj, h1, h2⟩; have hlen := p.length_eq; have hn' := hn.perm p; unfold yj.b1; dsimp only
  have e1 : IntKind.i64.wrap (Int.tdiv (IntKind.i64.wrap ((j : Int) - 1)) 2) = (((j - 1) / 2 : Nat) : Int) := by
   rw [xy (x := (j : Int) - 1) (by omega) (by omega)]; rcases Nat.eq_zero_or_pos j with rfl | h0
   ·decide
   ·rw [show (j : Int) - 1 = ((j - 1 : Nat) : Int) by omega, show Int.tdiv ((j - 1 : Nat) : Int) 2 = (((j - 1) / 2 : Nat) : Int) from (Int.ofNat_tdiv (j - 1) 2).symm, xy (by omega) (by omega)]
  rw [xm, xm, e1]
  by_cases h0 : j = 0
  ·right
   subst h0; refine ⟨⟨m⟩, ?_, m, rfl, p, fun i hi hlt => h1 i hi hlt (by omega)⟩; simp
  ·rw [show ((((j - 1) / 2 : Nat) : Int) == (j : Int)) = false by simp; omega, cond_false, less_eq hn' hj (by omega), Option.bind_some, Option.bind_some]
   by_cases hle : le (G m ((j - 1) / 2)) (G m j)
   ·right
    refine ⟨⟨m⟩, by simp [hle], m, rfl, p, fun i hi hlt => ?_⟩
    by_cases hij : i = j
    ·subst hij; exact hle
    ·exact h1 i hi hlt hij
   ·left
    have hle2 := le_total hle
    have hpj : (j - 1) / 2 < m.length := by omega
    have g := G_swp (l := m) (i := (j - 1) / 2) (j := j) hpj hj; refine ⟨((((j - 1) / 2 : Nat) : Int), ⟨swp m ((j - 1) / 2) j⟩), ?_, ⟨(j - 1) / 2, _, rfl, (swp_perm hpj hj).trans p, by rw [swp_len]; exact hpj, fun i hi hlt hne => ?_, fun i hi hlt hpi hp0 => ?_⟩, ?_⟩
    ·simp only [hle, not_false_eq_true, decide_true, Bool.not_true, cond_false, Option.bind_some, Sum.elim_inl]; rw [swap_eq hpj hj, Option.bind_some, xm]
    ·rw [swp_len] at hlt; rw [g, g]
     by_cases c1 : i = j
     ·subst c1; rw [if_pos rfl, if_neg (by omega), if_pos rfl]; exact hle2
     ·by_cases c2 : (i - 1) / 2 = j
      ·rw [if_pos c2, if_neg c1, if_neg hne]; exact h2 i hi hlt c2 (by omega)
      ·by_cases c3 : (i - 1) / 2 = (j - 1) / 2
       ·rw [if_neg c2, if_pos c3, if_neg c1, if_neg hne]; exact le_trans hle2 (by rw [← c3]; exact h1 i hi hlt c1)
       ·rw [if_neg c2, if_neg c3, if_neg c1, if_neg hne]; exact h1 i hi hlt c1
    ·rw [swp_len] at hlt; rw [g, g, if_neg (by omega), if_neg (by omega)]; have q := h1 ((j - 1) / 2) hp0 (by omega) (by omega)
     by_cases c1 : i = j
     ·rw [if_pos c1]; exact q
     ·rw [if_neg c1, if_neg (by omega)]; exact le_trans q (by have := h1 i hi hlt c1; rw [hpi] at this; exact this)
    ·show ((((j - 1) / 2 : Nat) : Int)).toNat < ((j : Int)).toNat
     omega) ((j : Int), ⟨l⟩) ⟨j, l, rfl, List.Perm.refl _, hj, h1, h2⟩
 exact ⟨m, e1, p1, p2⟩
theorem down_ok {l : List qv} {n : Nat} (hn : NE l) (hl : l.length ≤ 1000000) (hnl : n ≤ l.length) (h1 : ∀ k, 0 < k → k < n → (k - 1) / 2 ≠ 0 → le (G l ((k - 1) / 2)) (G l k)) (h0 : 0 < l.length) :
 ∃ b r, yb ⟨l⟩ 0 (n : Int) = some (b, ⟨r⟩) ∧ r.Perm l ∧ Hp r n ∧ ∀ k, n ≤ k → G r k = G l k := by
 obtain ⟨r, e1, x, m, rfl, p1, p2, p3⟩ := iter_total (step := fun s : Int × xh => yb.b2 (n : Int) s.1 s.2)
  (fun s => ∃ (i : Nat) (m : List qv), s = ((i : Int), ⟨m⟩) ∧ m.Perm l ∧ i < m.length ∧ (∀ k, 0 < k → k < n → (k - 1) / 2 ≠ i → le (G m ((k - 1) / 2)) (G m k)) ∧ (∀ k, 0 < k → k < n → (k - 1) / 2 = i → 0 < i → le (G m ((i - 1) / 2)) (G m k)) ∧ (∀ k, n ≤ k → G m k = G l k))
  (fun s => n - s.1.toNat) (fun r => ∃ (x : Int) (m : List qv), r = (x, ⟨m⟩) ∧ m.Perm l ∧ Hp m n ∧ ∀ k, n ≤ k → G m k = G l k) (by
  rintro _ ⟨i, m, rfl, p, hi, h1, h2, h3⟩; have hlen := p.length_eq; have hn' := hn.perm p; unfold yb.b2; dsimp only
  have e1 : IntKind.i64.wrap (IntKind.i64.wrap (2 * (i : Int)) + 1) = ((2 * i + 1 : Nat) : Int) := by
   rw [xy (x := 2 * (i : Int)) (by omega) (by omega), xy (by omega) (by omega)]; omega
  rw [xm, xm, e1]
  by_cases hj : n ≤ 2 * i + 1
  ·right
   refine ⟨((i : Int), ⟨m⟩), ?_, _, m, rfl, p, fun k hk hkn => h1 k hk hkn (by omega), h3⟩; rw [decide_eq_true (by omega), cond_true]
   rfl
  ·rw [decide_eq_false (by omega), cond_false, decide_eq_false (by omega), Option.bind_some, cond_false, Option.bind_some, Sum.elim_inl, xm, xy (by omega) (by omega)]
   have hc : ∃ j, (2 * i + 1 = j ∨ 2 * i + 2 = j) ∧ j < n ∧ (∀ k, 0 < k → k < n → (k - 1) / 2 = i → le (G m j) (G m k)) ∧
    ((bif decide (((2 * i + 1 : Nat) : Int) + 1 < (n : Int)) then (merge_runs_Less m (((2 * i + 1 : Nat) : Int) + 1) ((2 * i + 1 : Nat) : Int)).bind fun y => some y else some false).bind fun o => bif o then some (((2 * i + 1 : Nat) : Int) + 1) else some ((2 * i + 1 : Nat) : Int)) = some (j : Int) := by
    by_cases c1 : 2 * i + 2 < n
    ·rw [decide_eq_true (by omega), cond_true, show (((2 * i + 1 : Nat) : Int) + 1) = ((2 * i + 2 : Nat) : Int) by omega, less_eq hn' (by omega) (by omega), Option.bind_some, Option.bind_some]
     by_cases c2 : le (G m (2 * i + 1)) (G m (2 * i + 2))
     ·refine ⟨2 * i + 1, .inl rfl, by omega, fun k hk hkn hp => ?_, by simp [c2]⟩; rcases (by omega : k = 2 * i + 1 ∨ k = 2 * i + 2) with rfl | rfl
      ·exact le_refl _
      ·exact c2
     ·refine ⟨2 * i + 2, .inr rfl, by omega, fun k hk hkn hp => ?_, by simp [c2]⟩; rcases (by omega : k = 2 * i + 1 ∨ k = 2 * i + 2) with rfl | rfl
      ·exact le_total c2
      ·exact le_refl _
    ·rw [decide_eq_false (by omega), cond_false, Option.bind_some, cond_false]; refine ⟨2 * i + 1, .inl rfl, by omega, fun k hk hkn hp => ?_, rfl⟩; rw [show k = 2 * i + 1 by omega]; exact le_refl _
   obtain ⟨j, hj1, hj2, hj3, hj4⟩ := hc; rw [hj4, Option.bind_some, less_eq hn' (by omega) hi, Option.bind_some]
   by_cases hle : le (G m i) (G m j)
   ·right
    refine ⟨((i : Int), ⟨m⟩), by simp [hle], _, m, rfl, p, fun k hk hkn => ?_, h3⟩
    by_cases c : (k - 1) / 2 = i
    ·rw [c]; exact le_trans hle (hj3 k hk hkn c)
    ·exact h1 k hk hkn c
   ·left
    have hle2 := le_total hle
    have hjm : j < m.length := by omega
    have g := G_swp (l := m) (i := i) (j := j) hi hjm; refine ⟨((j : Int), ⟨swp m i j⟩), ?_, ⟨j, _, rfl, (swp_perm hi hjm).trans p, by rw [swp_len]; exact hjm, fun k hk hkn hne => ?_, fun k hk hkn hp hp0 => ?_, fun k hk => ?_⟩, ?_⟩
    ·simp only [hle, not_false_eq_true, decide_true, Bool.not_true, cond_false]; rw [swap_eq hi hjm, Option.bind_some, xm]
    ·rw [g, g]
     by_cases c1 : k = j
     ·subst c1; rw [if_pos rfl, if_neg (by omega), if_pos (by omega)]; exact hle2
     ·by_cases c2 : (k - 1) / 2 = i
      ·rw [if_neg (by omega), if_pos c2, if_neg c1, if_neg (by omega)]; exact hj3 k hk hkn c2
      ·by_cases c3 : k = i
       ·subst c3; rw [if_neg (by omega), if_neg c2, if_neg c1, if_pos rfl]; exact h2 j (by omega) hj2 (by omega) hk
       ·rw [if_neg (by omega), if_neg c2, if_neg c1, if_neg c3]; exact h1 k hk hkn c2
    ·rw [g, g, if_neg (by omega), if_pos (by omega), if_neg (by omega), if_neg (by omega)]; have := h1 k hk hkn (by omega); rw [hp] at this; exact this
    ·rw [g, if_neg (by omega), if_neg (by omega)]; exact h3 k hk
    ·show n - ((j : Int)).toNat < n - ((i : Int)).toNat
     omega) ((0 : Int), ⟨l⟩) ⟨0, l, rfl, List.Perm.refl _, h0, h1, fun k _ _ _ h => by omega, fun _ _ => rfl⟩
 refine ⟨decide (0 < x), m, ?_, p1, p2, p3⟩; unfold yb; rw [e1]
 rfl
end Go.Proofs.YtganbpmicmbamaaGreat.bs

namespace Go.Proofs.YtganbpmicmbamaaGreat.bs
open Go Go.Mg
set_option linter.unusedVariables false
set_option linter.unusedSimpArgs false
theorem G_left {l m : List qv} {i : Nat} (h : i < l.length) : G (l ++ m) i = G l i := by unfold G; rw [List.getElem?_append_left h]
theorem G_take {l : List qv} {n i : Nat} (h : i < n) : G (l.take n) i = G l i := by unfold G; rw [List.getElem?_take, if_pos h]
theorem push_ok {l : List qv} {r : qv} (hn : NE l) (hr : r.rest ≠ []) (hl : l.length < 10000) (hh : Hp l l.length) :
 ∃ m, yo ⟨l⟩ r = some ⟨m⟩ ∧ m.Perm (r :: l) ∧ Hp m m.length := by
 have e1 : merge_runs_Push__merge_run ⟨l⟩ r = some ⟨l ++ [r]⟩ := by
  unfold merge_runs_Push__merge_run; rw [app_ok (by simp only [List.length_singleton]; unfold lim; omega)]
  rfl
 have hlen : (l ++ [r]).length = l.length + 1 := by simp
 obtain ⟨m, e2, p1, p2⟩ := up_ok (l := l ++ [r]) (j := l.length) (fun x hx => by
  rcases List.mem_append.1 hx with h | h
  ·exact hn x h
  ·rw [List.mem_singleton.1 h]; exact hr) (by omega) (by omega) (fun i h0 hi hne => by
  rw [hlen] at hi; rw [G_left (by omega), G_left (by omega)]
  exact hh i h0 (by omega)) (fun i h0 hi hp h1 => by omega)
 refine ⟨m, ?_, p1.trans (List.perm_append_singleton _ _), p2⟩; unfold yo; rw [e1, Option.bind_some]; unfold merge_runs_Len; rw [Option.bind_some, xm, hlen, xy (by omega) (by omega), show ((l.length + 1 : Nat) : Int) - 1 = (l.length : Int) by omega, e2]
 rfl
theorem pop_ok {l : List qv} (hn : NE l) (h0 : 0 < l.length) (hl : l.length < 10000) (hh : Hp l l.length) :
 ∃ r m, container_heap_Pop__merge_runs ⟨l⟩ = some (r, ⟨m⟩) ∧ l.Perm (r :: m) ∧ (∀ s ∈ m, le r s) ∧ Hp m m.length := by
 have hn1 : l.length - 1 < l.length := by omega
 have g := G_swp (l := l) (i := 0) (j := l.length - 1) h0 hn1
 obtain ⟨b, m, e1, p1, p2, p3⟩ := down_ok (l := swp l 0 (l.length - 1)) (n := l.length - 1) (hn.perm (swp_perm h0 hn1)) (by rw [swp_len]; omega) (by rw [swp_len]; omega) (fun k hk hkn hne => by
  rw [g, g, if_neg (by omega), if_neg (by omega), if_neg (by omega), if_neg (by omega)]
  exact hh k hk (by omega)) (by rw [swp_len]; exact h0)
 have hml : m.length = l.length := by rw [p1.length_eq, swp_len]
 have hlast : G m (l.length - 1) = G l 0 := by rw [p3 _ (by omega), g, if_pos rfl]
 have hsplit : m = m.take (l.length - 1) ++ [G l 0] := by
  have h1 := List.take_append_drop (l.length - 1) m
  have h2 : m.drop (l.length - 1) = [G l 0] := by
   rw [List.drop_eq_getElem_cons (by omega), ← hlast, G_get (by omega), List.drop_eq_nil_of_le (by omega)]
  rw [h2] at h1; exact h1.symm
 have htl : (m.take (l.length - 1)).length = l.length - 1 := by rw [List.length_take]; omega
 have hperm : l.Perm (G l 0 :: m.take (l.length - 1)) := by
  have h1 := (p1.trans (swp_perm h0 hn1)).symm; rw [hsplit] at h1; rw [show m.take (l.length - 1) ++ [G l 0] = m.take (l.length - 1) ++ [G l 0] from rfl] at h1; have h2 := h1.trans (List.perm_append_singleton _ _)
  have h3 : List.take (l.length - 1) (m.take (l.length - 1) ++ [G l 0]) = m.take (l.length - 1) := by rw [← hsplit]
  exact h2
 refine ⟨G l 0, m.take (l.length - 1), ?_, hperm, fun s hs => ?_, fun i hi hlt => ?_⟩
 ·unfold container_heap_Pop__merge_runs merge_runs_Len
  have ew : IntKind.i64.wrap ((l.length : Int) - 1) = ((l.length - 1 : Nat) : Int) := by rw [xy (by omega) (by omega)]; omega
  rw [Option.bind_some, xm, ew]; have hs := swap_eq (l := l) (i := 0) (j := l.length - 1) h0 hn1; rw [Int.ofNat_zero] at hs; rw [hs, Option.bind_some, xm, e1, Option.bind_some]; unfold merge_runs_Pop; simp only []; rw [xm, hml, ew, at_G (by omega), Option.bind_some, xm, upto_nat (by omega), Option.bind_some, xm, hlast]
  rfl
 ·have hs2 : s ∈ l := hperm.mem_iff.2 (List.mem_cons_of_mem _ hs); obtain ⟨i, hi, rfl⟩ := List.getElem_of_mem hs2; rw [← G_get hi]; exact hh.min i hi
 ·rw [htl] at hlt; rw [G_take (by omega), G_take (by omega)]; exact p2 i hi (by omega)
def al (l : List qv) : List qa := l.flatMap (·.rest)
theorem al_perm {l m : List qv} (h : l.Perm m) : (al l).Perm (al m) := h.flatMap_right _
theorem al_cons (r : qv) (l : List qv) : al (r :: l) = r.rest ++ al l := by simp [al]
def Dis (l : List qa) : Prop := l.Pairwise fun a b => a.T ≠ b.T
theorem Dis.perm {l m : List qa} (h : Dis l) (p : l.Perm m) : Dis m := (p.pairwise_iff (fun h e => h e.symm)).1 h
theorem rp_hd {r : qv} (h : hd.RP r.rest) {q : qa} (hq : q ∈ r.rest) : (hd1 r).T ≤ q.T := by
 unfold hd1; cases hr : r.rest with
 | nil => rw [hr] at hq; cases hq
 | cons x l =>
  rw [hr] at hq h; rcases List.mem_cons.1 hq with rfl | hq
  ·exact Int.le_refl _
  ·exact Int.le_of_lt (List.rel_of_pairwise_cons h hq)
theorem rp_dis {l : List qa} (h : hd.RP l) : Dis l := h.imp fun h e => by omega
theorem all_eq {ls : List (List qa)} (hrs : ∀ l ∈ ls, hd.RP l) (hdd : Dis ls.flatten) (hn : ls.length < 1000) (hpp : ls.flatten.length < 100000) :
 ∃ r, merge_All ls = some r ∧ hd.RP r ∧ r.Perm ls.flatten := by
 unfold merge_All
 obtain ⟨o, e1, h, rfl, a1, a2, a3, a4, a5⟩ := iter_inv (step := fun s : Int × xh => merge_All.b2 ls s.1 s.2) (fun (s : List qv) i => (i, ⟨s⟩)) ls
  (fun h i => NE h ∧ Hp h h.length ∧ (∀ r ∈ h, hd.RP r.rest) ∧ (al h).Perm (ls.take i).flatten ∧ h.length ≤ i)
  (fun o => ∃ h, o = ⟨h⟩ ∧ NE h ∧ Hp h h.length ∧ (∀ r ∈ h, hd.RP r.rest) ∧ (al h).Perm ls.flatten ∧ h.length ≤ ls.length) (by
   rintro h i x hx ⟨a1, a2, a3, a4, a5⟩
   left
   have hi := lt_of_get hx
   have htk : ls.take (i + 1) = ls.take i ++ [x] := by rw [List.take_add_one, hx]; rfl
   have hxm : x ∈ ls := List.mem_of_getElem? hx
   have hxl : x.length ≤ ls.flatten.length := by
    exact (List.sublist_flatten_of_mem hxm).length_le
   unfold merge_All.b2; rw [decide_eq_true (by omega : (i : Int) < ls.length), cond_true, at_nat hx, Option.bind_some]
   by_cases h0 : x = []
   ·refine ⟨h, ?_, a1, a2, a3, ?_, by omega⟩
    ·rw [h0]; simp only [List.length_nil, Int.ofNat_zero, Int.lt_irrefl, decide_false, cond_false, Option.bind_some, xm]; rw [xy (by omega) (by omega)]
     rfl
    ·rw [htk, h0]; simpa using a4
   ·have hpos : 0 < x.length := List.length_pos_iff.2 h0; obtain ⟨m, e1, p1, p2⟩ := push_ok (r := ⟨(i : Int), x⟩) a1 h0 (by omega) a2; refine ⟨m, ?_, fun r hr => ?_, p2, fun r hr => ?_, ?_, ?_⟩
    ·rw [decide_eq_true (by omega : (0 : Int) < x.length), cond_true, hd.of_sorted (hrs x hxm) (by omega), Option.bind_some, e1]; simp only [Option.bind_some, xm]; rw [xy (by omega) (by omega)]
     rfl
    ·rcases List.mem_cons.1 (p1.mem_iff.1 hr) with rfl | h
     ·exact h0
     ·exact a1 r h
    ·rcases List.mem_cons.1 (p1.mem_iff.1 hr) with rfl | h
     ·exact hrs x hxm
     ·exact a3 r h
    ·rw [htk]; refine (al_perm p1).trans ?_; rw [al_cons, List.flatten_append]; simp only [List.flatten_cons, List.flatten_nil, List.append_nil]; exact List.perm_append_comm.trans (a4.append_right x)
    ·rw [p1.length_eq, List.length_cons]; omega) (by
   rintro h ⟨a1, a2, a3, a4, a5⟩; refine ⟨⟨h⟩, ?_, h, rfl, a1, a2, a3, by rw [List.take_length] at a4; exact a4, a5⟩; unfold merge_All.b2
   simp) [] ⟨fun r hr => absurd hr List.not_mem_nil, fun i _ hi => by simp at hi, fun r hr => absurd hr List.not_mem_nil, by simp [al], Nat.le_refl _⟩
 rw [show ((0 : Int), (xh.mk [])) = ((0 : Int), (⟨[]⟩ : xh)) from rfl, e1, Option.bind_some]; clear e1
 obtain ⟨r, e2, m, x, rfl, b1, b2⟩ := iter_total (step := fun s : (List qa) × xh => merge_All.b5 s.1 s.2)
  (fun s => ∃ out h, s = (out, ⟨h⟩) ∧ NE h ∧ Hp h h.length ∧ (∀ r ∈ h, hd.RP r.rest) ∧ hd.RP out ∧ (∀ p ∈ out, ∀ q ∈ al h, p.T < q.T) ∧ (out ++ al h).Perm ls.flatten ∧ h.length ≤ ls.length)
  (fun s => (al s.2.l).length) (fun r => ∃ out h, r = (out, h) ∧ hd.RP out ∧ out.Perm ls.flatten) (by
   rintro _ ⟨out, h, rfl, a1, a2, a3, a4, a5, a6, a7⟩; have hpl := a6.length_eq; rw [List.length_append] at hpl; unfold merge_All.b5 merge_runs_Len; dsimp only; rw [Option.bind_some]
   by_cases h0 : h = []
   ·right
    subst h0; refine ⟨(out, ⟨[]⟩), by simp, out, ⟨[]⟩, rfl, a4, ?_⟩; simpa [al] using a6
   left
   have hpos : 0 < h.length := List.length_pos_iff.2 h0; obtain ⟨r, m, e1, p1, p2, p3⟩ := pop_ok a1 hpos (by omega) a2; have hrm : r ∈ h := p1.mem_iff.2 (List.mem_cons_self ..); have hrne := a1 r hrm; have hrp := a3 r hrm; obtain ⟨x, t, hxt⟩ : ∃ x t, r.rest = x :: t := List.exists_cons_of_ne_nil hrne
   have hx1 : hd1 r = x := by unfold hd1; rw [hxt]; rfl
   have hnm : NE m := fun s hs => a1 s (p1.mem_iff.2 (List.mem_cons_of_mem _ hs)); have hrpm : ∀ s ∈ m, hd.RP s.rest := fun s hs => a3 s (p1.mem_iff.2 (List.mem_cons_of_mem _ hs))
   have hal : (al h).Perm (x :: (t ++ al m)) := by
    refine (al_perm p1).trans ?_; rw [al_cons, hxt]; exact .refl _
   have hdis : Dis (out ++ x :: (t ++ al m)) := hdd.perm (a6.symm.trans (hal.append_left out)); have hd2 : Dis (x :: (t ++ al m)) := (List.pairwise_append.1 hdis).2.1; rw [hxt] at hrp
   have hlt : ∀ q ∈ t ++ al m, x.T < q.T := by
    intro q hq; have hne : x.T ≠ q.T := List.rel_of_pairwise_cons hd2 hq; rcases List.mem_append.1 hq with hq | hq
    ·exact List.rel_of_pairwise_cons hrp hq
    ·obtain ⟨s, hs, hqs⟩ := List.mem_flatMap.1 hq; have h1 := p2 s hs; have h2 := rp_hd (hrpm s hs) hqs; unfold le at h1; rw [hx1] at h1
     omega
   have hout : ∀ p ∈ out, p.T < x.T := fun p hp => a5 p hp x (hal.mem_iff.2 (List.mem_cons_self ..))
   have hnew : hd.RP (out ++ [x]) := by
    unfold hd.RP at *; rw [List.pairwise_append]; exact ⟨a4, by simp, fun p hp q hq => by rw [List.mem_singleton.1 hq]; exact hout p hp⟩
   have hxr : at_ r.rest 0 = some x := by rw [hxt]; exact at_cons0 x t
   have hc : (bif ((out.length : Int) == (0 : Int)) then some true else (pur (IntKind.i64.wrap ((out.length : Int) - (1 : Int))) fun y166 => ((at_ out y166).bind fun y168 => ((at_ r.rest (0 : Int)).bind fun y178 => some (y168.T != y178.T))))) = some true := by
    by_cases ho : out = []
    ·rw [ho]; rfl
    ·have hol : 0 < out.length := List.length_pos_iff.2 ho; rw [show ((out.length : Int) == 0) = false by simp; exact ho, cond_false, xm, xy (by omega) (by omega), show (out.length : Int) - 1 = ((out.length - 1 : Nat) : Int) by omega]; have hg : out[out.length - 1]? = some (out[out.length - 1]'(by omega)) := List.getElem?_eq_getElem (by omega); rw [at_nat hg, Option.bind_some, hxr, Option.bind_some]; have := hout _ (List.getElem_mem (by omega : out.length - 1 < out.length))
     congr 1
     simp
     omega
   have hap : app_ 16 out [x] = some (out ++ [x]) := app_ok (by simp only [List.length_singleton]; unfold lim; omega)
   have hfr : from_ r.rest 1 = some t := by
    have := from_nat (xs := r.rest) (i := 1) (by rw [hxt]; simp); rw [show (1 : Int) = ((1 : Nat) : Int) from rfl, this, hxt]; rfl
   have hlal : (al h).length = t.length + (al m).length + 1 := by rw [hal.length_eq]; simp
   have hml : h.length = m.length + 1 := by rw [p1.length_eq]; rfl
   rw [decide_eq_true (by omega : (0 : Int) < h.length), cond_true, e1, Option.bind_some]; dsimp only; rw [xm, hc]; simp only [Option.bind_some, cond_true, hxr, hap, hfr, xm]
   by_cases ht : t = []
   ·refine ⟨(out ++ [x], ⟨m⟩), ?_, ⟨out ++ [x], m, rfl, hnm, p3, hrpm, hnew, fun p hp q hq => ?_, ?_, by omega⟩, ?_⟩
    ·rw [ht]; simp
    ·rcases List.mem_append.1 hp with hp | hp
     ·exact a5 p hp q (hal.mem_iff.2 (by simp [hq]))
     ·rw [List.mem_singleton.1 hp]; exact hlt q (by simp [hq])
    ·refine List.Perm.trans ?_ a6; rw [List.append_assoc]; refine List.Perm.append_left out (hal.trans ?_).symm; rw [ht]; exact .refl _
    ·show (al m).length < (al h).length
     omega
   ·have htl : 0 < t.length := List.length_pos_iff.2 ht; obtain ⟨m2, e3, q1, q2⟩ := push_ok (r := ⟨r.which, t⟩) hnm ht (by omega) p3
    have hal2 : (al m2).Perm (t ++ al m) := by
     refine (al_perm q1).trans ?_; rw [al_cons]
    refine ⟨(out ++ [x], ⟨m2⟩), ?_, ⟨out ++ [x], m2, rfl, fun s hs => ?_, q2, fun s hs => ?_, hnew, fun p hp q hq => ?_, ?_, ?_⟩, ?_⟩
    ·rw [decide_eq_true (by omega : (0 : Int) < t.length), cond_true, e3]
     rfl
    ·rcases List.mem_cons.1 (q1.mem_iff.1 hs) with rfl | hs
     ·exact ht
     ·exact hnm s hs
    ·rcases List.mem_cons.1 (q1.mem_iff.1 hs) with rfl | hs
     ·exact (List.pairwise_cons.1 hrp).2
     ·exact hrpm s hs
    ·have hq2 := hal2.mem_iff.1 hq; rcases List.mem_append.1 hp with hp | hp
     ·exact a5 p hp q (hal.mem_iff.2 (List.mem_cons_of_mem _ hq2))
     ·rw [List.mem_singleton.1 hp]; exact hlt q hq2
    ·refine List.Perm.trans ?_ a6; rw [List.append_assoc]; exact List.Perm.append_left out ((List.Perm.cons x hal2).trans hal.symm)
    ·rw [q1.length_eq, List.length_cons]; omega
    ·show (al m2).length < (al h).length
     rw [hal2.length_eq, List.length_append]; omega) ([], ⟨h⟩) ⟨[], h, rfl, a1, a2, a3, List.Pairwise.nil, fun p hp => absurd hp List.not_mem_nil, by simpa using a4, a5⟩
 rw [e2]; exact ⟨m, rfl, b1, b2⟩
end Go.Proofs.YtganbpmicmbamaaGreat.bs

namespace Go.Proofs.YtganbpmicmbamaaGreat.bs
open Go Go.Mg
set_option linter.unusedVariables false
set_option linter.unusedSimpArgs false
abbrev RP := hd.RP
def asm (x : List qd) : List (Int × List qa) := x.map fun c => (c.Id, c.Points)
def cpt (id : Int) (x : List qd) : List qa := (ye id (asm x)).getD []
def cnt (x : List qd) : Nat := hd.tot (asm x)
def bp (l : List (List qd)) (id : Int) : List qa := l.flatMap (cpt id)
theorem cpt_cons (id : Int) (c : qd) (x : List qd) : cpt id (c :: x) = if id = c.Id then c.Points else cpt id x := by
 unfold cpt asm; rw [List.map_cons, mget_cons]
 split <;> rfl
theorem cpt_find (id : Int) : ∀ x : List qd, cpt id x = ((x.find? fun c => c.Id == id).map (·.Points)).getD []
 | [] => rfl
 | c :: x => by
  rw [cpt_cons, List.find?_cons]
  by_cases h : id = c.Id
  ·rw [if_pos h, show (c.Id == id) = true by simp [h]]; rfl
  ·rw [if_neg h, show (c.Id == id) = false by simp; exact fun e => h e.symm]; exact cpt_find id x
theorem cnt_cons (c : qd) (x : List qd) : cnt (c :: x) = c.Points.length + cnt x := hd.tot_cons _ _
theorem cpt_len (id : Int) (x : List qd) : (cpt id x).length ≤ cnt x := hd.tot_get id
theorem len_cnt : ∀ {x : List qd} {c : qd}, c ∈ x → c.Points.length ≤ cnt x
 | y :: x, c, h => by
  rw [cnt_cons]; rcases List.mem_cons.1 h with rfl | h
  ·omega
  ·have := len_cnt h; omega
theorem bp_cons (x : List qd) (l : List (List qd)) (id : Int) : bp (x :: l) id = cpt id x ++ bp l id := by simp [bp]
theorem bp_append (l m : List (List qd)) (id : Int) : bp (l ++ m) id = bp l id ++ bp m id := by simp [bp]
def inT (f t : Int) (p : qa) : Bool := decide (f ≤ p.T) && decide (p.T ≤ t)
theorem range_eq {x : List qd} (id f t : Int) (h : cnt x < 1000000) : block_Range x id f t = some ((cpt id x).filter (inT f t)) := by
 unfold block_Range; rw [index_find (f := fun x => block_Range_1 x id) (p := fun c : qd => c.Id == id) x 0 (fun c _ => rfl) (Int.le_refl _), Option.bind_some, cpt_find, get_findIdx]; cases hq : List.findIdx? (fun c : qd => c.Id == id) x with
 | none => rfl
 | some i =>
  obtain ⟨hi, _, _⟩ := List.findIdx?_eq_some_iff_getElem.1 hq; have hx := List.getElem?_eq_getElem hi; have hl := len_cnt (List.getElem_mem hi)
  have hd : delF_ (fun p => block_Range_2 p f t) x[i].Points = some (x[i].Points.filter (inT f t)) := by
   rw [del_filter (q := fun p => !inT f t p) fun p _ => ?_]
   ·congr 2; funext p; simp
   ·unfold block_Range_2 inT
    by_cases h1 : p.T < f
    ·rw [decide_eq_true h1, decide_eq_false (by omega : ¬ f ≤ p.T)]; rfl
    ·rw [decide_eq_false h1, decide_eq_true (by omega : f ≤ p.T)]; simp only [cond_false, Option.bind_some, Bool.true_and]
     congr 1
     rw [← decide_not]; exact decide_eq_decide.2 (by omega)
  simp only [Option.bind_some]; rw [decide_eq_false (by omega : ¬ (0 : Int) + (i : Int) < 0), cond_false, Int.zero_add, at_nat hx, Option.bind_some, show xi x[i].Points = some x[i].Points from clone_ok (by unfold lim; omega), Option.bind_some, hd, hx]
  rfl
theorem same_search : @xn = @xg := rfl
theorem take_filter {α : Type} {p : α → Bool} {l : List α} {k : Nat} (h1 : ∀ j x, j < k → l[j]? = some x → p x = true) (h2 : ∀ j x, k ≤ j → l[j]? = some x → p x = false) : l.take k = l.filter p ∧ l.drop k = l.filter fun x => !p x := by
 have a1 : ∀ x ∈ l.take k, p x = true := fun x hx => by
  obtain ⟨j, hj⟩ := List.getElem?_of_mem hx; rw [List.getElem?_take] at hj
  split at hj
  ·exact h1 j x ‹_› hj
  ·cases hj
 have a2 : ∀ x ∈ l.drop k, p x = false := fun x hx => by
  obtain ⟨j, hj⟩ := List.getElem?_of_mem hx; rw [List.getElem?_drop] at hj; exact h2 _ x (by omega) hj
 constructor
 ·conv => rhs; rw [← List.take_append_drop k l, List.filter_append]
  rw [List.filter_eq_self.2 a1, List.filter_eq_nil_iff.2 fun x hx => by rw [a2 x hx]; simp, List.append_nil]
 ·conv => rhs; rw [← List.take_append_drop k l, List.filter_append]
  rw [List.filter_eq_nil_iff.2 fun x hx => by rw [a1 x hx]; simp, List.filter_eq_self.2 fun x hx => by rw [a2 x hx]; rfl, List.nil_append]
theorem split_eq {l : List qa} (h : RP l) (hn : l.length < 1000000) (t : Int) : merge_Split l t = some (l.filter fun p => decide (p.T < t), l.filter fun p => decide (t ≤ p.T)) := by
 unfold merge_Split; obtain ⟨k, h1, h2, h3, h4⟩ := hd.search_eq (t := t) h hn; obtain ⟨e1, e2⟩ := take_filter (p := fun p : qa => decide (p.T < t)) (l := l) (k := k) (fun j x hj hx => decide_eq_true (h3 j x hj hx)) (fun j x hj hx => decide_eq_false (by have := h4 j x hj hx; omega))
 have e3 : (l.filter fun x => !decide (x.T < t)) = l.filter fun p => decide (t ≤ p.T) := by congr 1; funext x; rw [← decide_not]; exact decide_eq_decide.2 (by omega)
 rw [hd.of_sorted h hn, Option.bind_some, same_search, h2, Option.bind_some, upto_nat h1, Option.bind_some, from_nat h1, Option.bind_some,
  show xi (l.take k) = _ from clone_ok (by rw [List.length_take]; unfold lim; omega), Option.bind_some,
  show xi (l.drop k) = _ from clone_ok (by rw [List.length_drop]; unfold lim; omega), Option.bind_some, e1, e2, e3]
theorem cut_eq (id : Int) {l : List qa} (h0 : l ≠ []) (h : l.length ≤ 1024) : block_Cut id l 1024 = some [⟨id, l⟩] := by
 unfold block_Cut; have hp : 0 < l.length := List.length_pos_iff.2 h0; rw [if_neg (by omega), xm]
 have e1 : iter (fun s : (List qa) × (List qd) => block_Cut.b2 id 1024 s.1 s.2) (l, ([] : List qd)) = some [⟨id, l⟩] := by
  rw [iter_next (s' := (([] : List qa), [(⟨id, l⟩ : qd)])), iter_end]
  ·rfl
  ·unfold block_Cut.b2; dsimp only; rw [decide_eq_true (by omega : (0 : Int) < l.length), cond_true, xm]
   have : (if (l.length : Int) < 1024 then (l.length : Int) else 1024) = (l.length : Int) := by split <;> omega
   rw [this, upto_nat (Nat.le_refl _), List.take_length, Option.bind_some, show xi l = _ from clone_ok (by unfold lim; omega), Option.bind_some, app_ok (by simp only [List.length_nil, List.length_singleton]; unfold lim; omega), Option.bind_some, from_nat (Nat.le_refl _), List.drop_length, Option.bind_some]
   rfl
 rw [e1]; rfl
theorem count_eq {x : List qd} (h : cnt x < 1000000) (hl : x.length < 1000000) : base_count x = some (cnt x : Int) := by
 unfold base_count
 obtain ⟨r, e1, rfl⟩ := iter_inv (step := fun s : Int × Int => base_count.b2 x s.1 s.2) (fun (s : Nat) i => ((s : Int), i)) x (fun s i => s + cnt (x.drop i) = cnt x) (fun r => r = (cnt x : Int)) (by
  intro s i c hc hs
  left
  have hi := lt_of_get hc
  have hdc : x.drop i = c :: x.drop (i + 1) := by
   rw [List.drop_eq_getElem_cons hi]
   congr 1
   rw [List.getElem?_eq_getElem hi] at hc; exact Option.some.inj hc
  rw [hdc, cnt_cons] at hs; refine ⟨s + c.Points.length, ?_, by omega⟩; unfold base_count.b2; dsimp only; rw [decide_eq_true (by omega : (i : Int) < x.length), cond_true, at_nat hc, Option.bind_some]; simp only [xm]; rw [xy (by omega) (by omega), xy (by omega) (by omega)]
  rfl) (by
  intro s hs; rw [List.drop_length] at hs; refine ⟨_, ?_, rfl⟩; unfold base_count.b2; dsimp only
  rw [decide_eq_false (by omega), cond_false, show s = cnt x by simpa [cnt, hd.tot, asm] using hs]) 0 (by simp)
 rw [show ((0 : Int), (0 : Int)) = (((0 : Nat) : Int), (0 : Int)) from rfl, e1]
 rfl
def has0 (x : List qd) : Bool := decide (0 < cnt x)
theorem has0_t {x : List qd} (h : 0 < cnt x) : has0 x = true := decide_eq_true h
def cnts (l : List (List qd)) : Nat := (l.map cnt).sum
theorem cnts_cons (x : List qd) (l : List (List qd)) : cnts (x :: l) = cnt x + cnts l := by simp [cnts]
theorem cnts_append (l m : List (List qd)) : cnts (l ++ m) = cnts l + cnts m := by simp [cnts]
theorem cnts_has (l : List (List qd)) : cnts (l.filter has0) = cnts l := by
 induction l with
 | nil => rfl
 | cons x l ih =>
  rw [cnts_cons, List.filter_cons]
  by_cases h : 0 < cnt x
  ·rw [if_pos (has0_t h), cnts_cons, ih]
  ·rw [if_neg (by simp [has0]; omega), ih]; omega
theorem bp_has (l : List (List qd)) (id : Int) : bp (l.filter has0) id = bp l id := by
 induction l with
 | nil => rfl
 | cons x l ih =>
  rw [bp_cons, List.filter_cons]
  by_cases h : 0 < cnt x
  ·rw [if_pos (has0_t h), bp_cons, ih]
  ·rw [if_neg (by simp [has0]; omega), ih, List.eq_nil_of_length_eq_zero (l := cpt id x) (by have := cpt_len id x; omega), List.nil_append]
theorem len_has (l : List (List qd)) : (l.filter has0).length ≤ cnts l := by
 induction l with
 | nil => simp
 | cons x l ih =>
  rw [cnts_cons, List.filter_cons]
  by_cases h : 0 < cnt x
  ·rw [if_pos (has0_t h), List.length_cons]; omega
  ·rw [if_neg (by simp [has0]; omega)]; omega
theorem cnt_le {l : List (List qd)} {x : List qd} (h : x ∈ l) : cnt x ≤ cnts l := by
 induction l with
 | nil => cases h
 | cons y l ih =>
  rw [cnts_cons]; rcases List.mem_cons.1 h with rfl | h
  ·omega
  ·have := ih h; omega
theorem put_eq (b : base_Base) {l : List (List qd)} (h : cnts l < 1000000) (hl : l.length < 1000000) (hx : ∀ x ∈ l, x.length < 1000000) :
 base_Base_put b l = some { b with blocks := l.filter has0, packed := (cnts l : Int) } := by
 unfold base_Base_put; simp only [xm]
 obtain ⟨r, e1, rfl⟩ := iter_inv (step := fun s : Int × base_Base => base_Base_put.b1 l s.1 s.2) (fun (s : base_Base) i => (i, s)) l
  (fun s i => s = { b with blocks := (l.take i).filter has0, packed := (cnts (l.take i) : Int) }) (fun r => r = { b with blocks := l.filter has0, packed := (cnts l : Int) }) (by
  rintro _ i x hc rfl
  left
  have hi := lt_of_get hc; have hm := List.mem_of_getElem? hc
  have htk : l.take (i + 1) = l.take i ++ [x] := by rw [List.take_add_one, hc]; rfl
  have hle : cnts (l.take (i + 1)) ≤ cnts l := by
   have := cnts_append (l.take (i + 1)) (l.drop (i + 1)); rw [List.take_append_drop] at this
   omega
  rw [htk, cnts_append, cnts_cons] at hle; refine ⟨_, ?_, rfl⟩; unfold base_Base_put.b1; dsimp only; rw [decide_eq_true (by omega : (i : Int) < l.length), cond_true, at_nat hc, Option.bind_some, count_eq (by have := cnt_le hm; omega) (hx x hm), Option.bind_some, htk, List.filter_append, cnts_append, cnts_cons, List.filter_cons]
  by_cases h0 : 0 < cnt x
  ·have hlen := List.length_filter_le has0 (l.take i); rw [List.length_take] at hlen; rw [decide_eq_true (by omega : (0 : Int) < cnt x), cond_true, if_pos (has0_t h0)]; simp only [xm]; rw [xy (by omega) (by omega), app_ok (by simp only [List.length_singleton]; unfold lim; omega)]; simp only [Option.bind_some]; rw [xy (by omega) (by omega)]; simp [cnts]
  ·rw [decide_eq_false (by omega), cond_false, if_neg (by simp [has0]; omega)]; simp only [Option.bind_some, xm, List.filter_nil, List.append_nil]; rw [xy (by omega) (by omega), show cnt x = 0 by omega]
   simp [cnts]) (by
  rintro _ rfl; refine ⟨_, ?_, rfl⟩; unfold base_Base_put.b1; dsimp only
  rw [decide_eq_false (by omega), cond_false, List.take_length]) { b with blocks := [], packed := 0 } (by simp [cnts])
 exact e1
def kx (k : Int → qa → Bool) (x : List qd) : List qd := x.filterMap fun c => if c.Points.filter (k c.Id) = [] then none else some ⟨c.Id, c.Points.filter (k c.Id)⟩
theorem kx_cons (k : Int → qa → Bool) (c : qd) (x : List qd) : kx k (c :: x) = if c.Points.filter (k c.Id) = [] then kx k x else ⟨c.Id, c.Points.filter (k c.Id)⟩ :: kx k x := by
 unfold kx; rw [List.filterMap_cons]
 split <;> simp_all
theorem kx_ids (k : Int → qa → Bool) : ∀ x : List qd, ((kx k x).map (·.Id)).Sublist (x.map (·.Id))
 | [] => .slnil
 | c :: x => by
  rw [kx_cons, List.map_cons]
  split
  ·exact (kx_ids k x).cons _
  ·exact (kx_ids k x).cons_cons _
theorem cpt_none {id : Int} {x : List qd} (h : id ∉ x.map (·.Id)) : cpt id x = [] := by
 induction x with
 | nil => rfl
 | cons c x ih =>
  rw [List.map_cons, List.mem_cons, not_or] at h; rw [cpt_cons, if_neg h.1, ih h.2]
theorem cpt_kx (k : Int → qa → Bool) (id : Int) : ∀ {x : List qd}, (x.map (·.Id)).Nodup → cpt id (kx k x) = (cpt id x).filter (k id)
 | [], _ => rfl
 | c :: x, h => by
  rw [List.map_cons, List.nodup_cons] at h; rw [kx_cons, cpt_cons]
  by_cases h1 : id = c.Id
  ·subst h1; rw [if_pos rfl]
   by_cases h2 : c.Points.filter (k c.Id) = []
   ·rw [if_pos h2, h2, cpt_none fun hm => h.1 ((kx_ids k x).subset hm)]
   ·rw [if_neg h2, cpt_cons, if_pos rfl]
  ·rw [if_neg h1]
   by_cases h2 : c.Points.filter (k c.Id) = []
   ·rw [if_pos h2, cpt_kx k id h.2]
   ·rw [if_neg h2, cpt_cons, if_neg h1, cpt_kx k id h.2]
theorem cnt_kx (k : Int → qa → Bool) : ∀ x : List qd, cnt (kx k x) ≤ cnt x
 | [] => Nat.le_refl _
 | c :: x => by
  have h1 := cnt_kx k x; have h2 := List.length_filter_le (k c.Id) c.Points; rw [kx_cons, cnt_cons]
  split
  ·omega
  ·rw [cnt_cons]; dsimp only; omega
theorem kx_len (k : Int → qa → Bool) (x : List qd) : (kx k x).length ≤ x.length := List.length_filterMap_le _ _
noncomputable def kb5 (f : qd → qa → Option Bool) (y43 : List qd) (x65 : List qd) (x66 : Int) : Option (((List qd) × Int) ⊕ ((List qd))) :=
 (bif (decide (x66 < (y43.length : Int))) then (((at_ y43 x66).bind fun y80 => (pur y80 fun y95 => ((xi y95.Points).bind fun y108 => ((delF_ (fun x => f y95 x) y108).bind fun y126 => (bif (decide ((0 : Int) < (y126.length : Int))) then ((app_ 32 x65 ([(qd.mk y95.Id y126)] : List qd)).bind fun y147 => some y147) else some x65))))).bind fun o74 => (pur (IntKind.i64.wrap (x66 + (1 : Int))) fun y165 => some (.inl (o74, y165)))) else some (.inr x65))
theorem kb5_eq {f : qd → qa → Option Bool} {k : Int → qa → Bool} {x : List qd} (hf : ∀ c ∈ x, ∀ p, f c p = some (!k c.Id p)) (h : cnt x < 1000000) (hl : x.length < 1000000) :
 iter (fun s : (List qd) × Int => kb5 f x s.1 s.2) (([] : List qd), (0 : Int)) = some (kx k x) := by
 obtain ⟨r, e1, rfl⟩ := iter_inv (step := fun s : (List qd) × Int => kb5 f x s.1 s.2) (fun (s : List qd) i => (s, i)) x (fun s i => s = kx k (x.take i)) (fun r => r = kx k x) (by
  rintro _ i c hc rfl
  left
  have hi := lt_of_get hc; have hm := List.mem_of_getElem? hc; have hcl := len_cnt hm; refine ⟨_, ?_, rfl⟩
  have htk : x.take (i + 1) = x.take i ++ [c] := by rw [List.take_add_one, hc]; rfl
  have hkl := kx_len k (x.take i); rw [List.length_take] at hkl; unfold kb5; dsimp only
  have hdel : delF_ (fun p => f c p) c.Points = some (c.Points.filter (k c.Id)) := by
   rw [del_filter (q := fun p => !k c.Id p) fun p _ => hf c hm p]
   congr 2; funext p; simp
  have hkx : kx k (x.take i ++ [c]) = kx k (x.take i) ++ kx k [c] := by unfold kx; rw [List.filterMap_append]
  rw [decide_eq_true (by omega : (i : Int) < x.length), cond_true, at_nat hc, Option.bind_some, xm, show xi c.Points = _ from clone_ok (by unfold lim; omega), Option.bind_some, hdel, Option.bind_some, htk, hkx, kx_cons]
  by_cases h0 : c.Points.filter (k c.Id) = []
  ·rw [if_pos h0, h0]; simp only [List.length_nil, Int.ofNat_zero, Int.lt_irrefl, decide_false, cond_false, Option.bind_some, xm]; rw [xy (by omega) (by omega), show kx k [] = [] from rfl, List.append_nil]
   rfl
  ·have := List.length_pos_iff.2 h0; rw [if_neg h0, decide_eq_true (by omega), cond_true, app_ok (by simp only [List.length_singleton]; unfold lim; omega)]; simp only [Option.bind_some, xm]; rw [xy (by omega) (by omega)]
   rfl) (by
  rintro _ rfl; refine ⟨_, ?_, rfl⟩; unfold kb5; dsimp only
  rw [decide_eq_false (by omega), cond_false, List.take_length]) [] rfl
 exact e1
noncomputable def kb2 (f : qd → qa → Option Bool) (a0 : base_Base) (x28 : List (List qd)) (x29 : Int) : Option (((List (List qd)) × Int) ⊕ ((List (List qd)))) :=
 (bif (decide (x29 < (a0.blocks.length : Int))) then (((at_ a0.blocks x29).bind fun y43 => ((iter (fun s : (List qd) × Int => kb5 f y43 s.1 s.2) (([] : List qd), (0 : Int))).bind fun o50 => ((app_ 24 x28 ([o50] : List (List qd))).bind fun y183 => some y183))).bind fun o37 => (pur (IntKind.i64.wrap (x29 + (1 : Int))) fun y198 => some (.inl (o37, y198)))) else some (.inr x28))
theorem kb2_eq {f : qd → qa → Option Bool} {k : Int → qa → Bool} {b : base_Base} (hf : ∀ x ∈ b.blocks, ∀ c ∈ x, ∀ p, f c p = some (!k c.Id p)) (h : cnts b.blocks < 1000000) (hl : b.blocks.length < 1000000) (hx : ∀ x ∈ b.blocks, x.length < 1000000) :
 iter (fun s : (List (List qd)) × Int => kb2 f b s.1 s.2) (([] : List (List qd)), (0 : Int)) = some (b.blocks.map (kx k)) := by
 obtain ⟨r, e1, rfl⟩ := iter_inv (step := fun s : (List (List qd)) × Int => kb2 f b s.1 s.2) (fun (s : List (List qd)) i => (s, i)) b.blocks (fun s i => s = (b.blocks.take i).map (kx k)) (fun r => r = b.blocks.map (kx k)) (by
  rintro _ i c hc rfl
  left
  have hi := lt_of_get hc; have hm := List.mem_of_getElem? hc; refine ⟨_, ?_, rfl⟩
  have htk : b.blocks.take (i + 1) = b.blocks.take i ++ [c] := by rw [List.take_add_one, hc]; rfl
  unfold kb2; dsimp only; rw [decide_eq_true (by omega : (i : Int) < b.blocks.length), cond_true, at_nat hc, Option.bind_some, kb5_eq (hf c hm) (by have := cnt_le hm; omega) (hx c hm), Option.bind_some, app_ok (by simp only [List.length_singleton, List.length_map, List.length_take]; unfold lim; omega)]; simp only [Option.bind_some, xm]; rw [xy (by omega) (by omega), htk, List.map_append]
  rfl) (by
  rintro _ rfl; refine ⟨_, ?_, rfl⟩; unfold kb2; dsimp only
  rw [decide_eq_false (by omega), cond_false, List.take_length]) [] rfl
 exact e1
theorem contains_int {l : List Int} (hl : l.length < 1000000) (x : Int) : slices_Contains_int_int l x = some (decide (x ∈ l)) := by
 have e1 : ∃ r, yw l x = some r ∧ (0 ≤ r ↔ x ∈ l) := by
  unfold yw
  obtain ⟨r, e1, h1⟩ := iter_inv (step := fun s : Int => yw.b2 l x s) (fun (s : Unit) i => i) l (fun _ i => x ∉ l.take i) (fun r => (r = .inl () ∧ x ∉ l) ∨ ∃ i : Nat, r = .inr (i : Int) ∧ x ∈ l) (by
   rintro ⟨⟩ i y hy hn; have hi := lt_of_get hy; unfold yw.b2; rw [decide_eq_true (by omega : (i : Int) < l.length), cond_true, at_nat hy, Option.bind_some]
   by_cases h : x = y
   ·right
    exact ⟨_, by rw [show (x == y) = true by simp [h]]; rfl, .inr ⟨i, rfl, h ▸ List.mem_of_getElem? hy⟩⟩
   ·left
    refine ⟨(), by rw [show (x == y) = false by simpa using h, cond_false, xm, xy (by omega) (by omega)]; rfl, ?_⟩; rw [List.take_add_one, hy, List.mem_append, not_or]
    exact ⟨hn, by simpa using h⟩) (by
   rintro ⟨⟩ hn; rw [List.take_length] at hn; refine ⟨.inl (), ?_, .inl ⟨rfl, hn⟩⟩; unfold yw.b2
   rw [decide_eq_false (by omega)]; rfl) () (by simp)
  rw [e1]; rcases h1 with ⟨rfl, h⟩ | ⟨i, rfl, h⟩
  ·exact ⟨-1, rfl, by simp [h]⟩
  ·exact ⟨i, rfl, by simp [h]⟩
 obtain ⟨r, e1, h⟩ := e1; unfold slices_Contains_int_int; rw [e1, Option.bind_some]
 congr 1
 exact decide_eq_decide.2 h
def kpt (k : Int → qa → Bool) (b : base_Base) : base_Base := { b with blocks := (b.blocks.map (kx k)).filter has0, packed := (cnts (b.blocks.map (kx k)) : Int) }
theorem cnts_kx (k : Int → qa → Bool) : ∀ l : List (List qd), cnts (l.map (kx k)) ≤ cnts l
 | [] => Nat.le_refl _
 | x :: l => by
  have := cnts_kx k l; have := cnt_kx k x; rw [List.map_cons, cnts_cons, cnts_cons]; omega
section
variable {b : base_Base} (h : cnts b.blocks < 1000000) (hl : b.blocks.length < 1000000) (hx : ∀ x ∈ b.blocks, x.length < 1000000)
include h hl hx
theorem kput (k : Int → qa → Bool) : base_Base_put b (b.blocks.map (kx k)) = some (kpt k b) :=
 put_eq b (by have := cnts_kx k b.blocks; omega) (by rw [List.length_map]; exact hl) fun x hx2 => by
  obtain ⟨y, hy, rfl⟩ := List.mem_map.1 hx2; have := kx_len k y; have := hx y hy
  omega
theorem keep1_eq (d : xo) : base_Base_keep__base_Base_Do_1 b d = some (kpt (fun _ p => decide (d.Point.T ≤ p.T)) b) := by
 have e1 := kb2_eq (f := fun c p => base_Base_keep_1__base_Base_Do_1 p d c) (k := fun _ p => decide (d.Point.T ≤ p.T)) (b := b) (fun x _ c _ p => rfl) h hl hx; unfold base_Base_keep__base_Base_Do_1; rw [show iter (fun s : (List (List qd)) × Int => base_Base_keep__base_Base_Do_1.b2 b d s.1 s.2) (([] : List (List qd)), (0 : Int)) = _ from e1, Option.bind_some, kput h hl hx]
 rfl
theorem keep2_eq {g : List Int} (hg : g.length < 1000000) : base_Base_keep__base_Base_Do_2 b g = some (kpt (fun i _ => decide (i ∉ g)) b) := by
 have e0 : ∀ i : Int, slices_Contains_int_int g i = some (decide (i ∈ g)) := contains_int hg
 have e1 := kb2_eq (f := fun c p => base_Base_keep_1__base_Base_Do_2 p g c) (k := fun i _ => decide (i ∉ g)) (b := b) (fun x _ c _ p => by
  unfold base_Base_keep_1__base_Base_Do_2 base_Base_Do_2; rw [e0]
  simp) h hl hx
 unfold base_Base_keep__base_Base_Do_2; rw [show iter (fun s : (List (List qd)) × Int => base_Base_keep__base_Base_Do_2.b2 b g s.1 s.2) (([] : List (List qd)), (0 : Int)) = _ from e1, Option.bind_some, kput h hl hx]
 rfl
end
end Go.Proofs.YtganbpmicmbamaaGreat.bs

namespace Go.Proofs.YtganbpmicmbamaaGreat.bs
open Go Go.Mg
set_option linter.unusedVariables false
set_option linter.unusedSimpArgs false
structure BB (b : base_Base) : Prop where
 blk : ∀ y ∈ b.blocks, (y.map (·.Id)).Nodup ∧ ∀ c ∈ y, (0 ≤ c.Id ∧ c.Id < 4096) ∧ c.Points ≠ [] ∧ RP c.Points
 pk : b.packed = (cnts b.blocks : Int)
 bl : b.blocks.length ≤ cnts b.blocks
theorem rp_perm {l m : List qa} (hl : RP l) (hm : RP m) (h : l.Perm m) : l = m :=
 List.Perm.eq_of_pairwise (le := fun a b : qa => a.T < b.T) (fun a b _ _ h1 h2 => by omega) hl hm h
theorem len_le_cnt : ∀ {y : List qd}, (∀ c ∈ y, c.Points ≠ []) → y.length ≤ cnt y
 | [], _ => Nat.zero_le _
 | c :: y, h => by
  have h1 := List.length_pos_iff.2 (h c (by simp)); have h2 := len_le_cnt fun d hd => h d (List.mem_cons_of_mem _ hd); rw [cnt_cons, List.length_cons]; omega
theorem BB.len {b : base_Base} (B : BB b) {y : List qd} (h : y ∈ b.blocks) : y.length ≤ cnts b.blocks := by
 have h1 := len_le_cnt fun c hc => ((B.blk y h).2 c hc).2.1; have h2 := cnt_le h
 omega
theorem asm_ids (x : List qd) : (asm x).map (·.1) = x.map (·.Id) := by unfold asm; rw [List.map_map]; rfl
theorem cnt_sum {x : List qd} (h : (x.map (·.Id)).Nodup) (hr : ∀ c ∈ x, 0 ≤ c.Id ∧ c.Id < 4096) : cnt x = hd.sumR 4096 fun i => (cpt (i : Int) x).length :=
 hd.tot_sum (by rw [asm_ids]; exact h) fun k hk => by
  rw [asm_ids] at hk; obtain ⟨c, hc, rfl⟩ := List.mem_map.1 hk; exact hr c hc
theorem cnts_sum : ∀ {l : List (List qd)}, (∀ y ∈ l, (y.map (·.Id)).Nodup ∧ ∀ c ∈ y, (0 ≤ c.Id ∧ c.Id < 4096) ∧ c.Points ≠ [] ∧ RP c.Points) → cnts l = hd.sumR 4096 fun i => (bp l (i : Int)).length
 | [], _ => (hd.sumR_zero _).symm
 | x :: l, h => by
  have h1 := h x (by simp); rw [cnts_cons, cnt_sum h1.1 fun c hc => (h1.2 c hc).1, cnts_sum fun y hy => h y (List.mem_cons_of_mem _ hy), ← hd.sumR_add]
  exact hd.sumR_congr fun i _ => by rw [bp_cons, List.length_append]
theorem bp_len : ∀ (l : List (List qd)) (id : Int), (bp l id).length ≤ cnts l
 | [], _ => Nat.le_refl _
 | y :: l, id => by
  have := bp_len l id; have := cpt_len id y; rw [bp_cons, cnts_cons, List.length_append]; omega
theorem row_sum {h : qq} (H : hd.HI h) : hd.tot h.series = hd.sumR 4096 fun i => (hd.row h (i : Int)).length :=
 hd.tot_sum H.keys fun k hk => by
  refine H.ids k fun e => ?_; rw [hd.mem_keys] at hk; rw [H.none.2 e] at hk; cases hk
theorem sumR_le {n : Nat} {f g : Nat → Nat} (h : ∀ i, i < n → f i ≤ g i) : hd.sumR n f ≤ hd.sumR n g := by
 induction n with
 | zero => exact Nat.le_refl _
 | succ n ih =>
  rw [hd.sumR_succ, hd.sumR_succ]; have := ih fun i hi => h i (by omega); have := h n (by omega)
  omega
structure St where
 w : Int
 A : Ser
 g : Int
 P : Int → List qa
 last : Int
 any : Bool
def lenS (s : St) : Nat := hd.sumR 4096 fun i => (s.P (i : Int)).length
structure Ab (b : base_Base) (x : qh) (h : qq) (s : St) (n : Nat) : Prop where
 ix : b.index = some x
 hx : b.head = some h
 X : XI x s.A
 H : hd.HI h
 B : BB b
 bw : b.window = s.w
 hw : h.window = s.w
 g : x.given = s.g
 last : h.last = s.last
 any : h.any = s.any
 n1 : lenS s ≤ n
 n2 : s.A.length ≤ n
 n3 : s.g ≤ (n : Int)
 rp : ∀ id, RP (s.P id)
 P : ∀ id, (s.P id).Perm (bp b.blocks id ++ hd.row h id)
 I : ∀ id p, p ∈ s.P id → hd.I64 p.T ∧ p.T ≤ s.last ∧ s.any = true
 ids : ∀ id, s.P id ≠ [] → 0 ≤ id ∧ id < s.g
section
variable {b : base_Base} {x : qh} {h : qq} {s : St} {n : Nat}
theorem cnt_eq (B : BB b) (H : hd.HI h) (P : ∀ id, (s.P id).Perm (bp b.blocks id ++ hd.row h id)) : cnts b.blocks + hd.tot h.series = lenS s := by
 have h1 := cnts_sum B.blk; have h2 := row_sum H; unfold lenS; obtain ⟨N, hN⟩ : ∃ N : Nat, N = 4096 := ⟨_, rfl⟩; rw [← hN] at h1 h2 ⊢; rw [h1, h2, ← hd.sumR_add]
 exact hd.sumR_congr fun i _ => by rw [(P _).length_eq, List.length_append]
theorem Ab.cntE (R : Ab b x h s n) : cnts b.blocks + hd.tot h.series = lenS s := cnt_eq R.B R.H R.P
theorem Ab.lenE (R : Ab b x h s n) (hn : n < 1000) : base_Base_Len (some b) = some (lenS s : Int) := by
 have h1 := R.cntE; have h2 := R.n1; unfold base_Base_Len; simp only [Option.isNone_some, cond_false, Option.bind_some]; rw [R.hx, hd.len_eq, Option.bind_some, xm, R.B.pk, R.H.many, xy (by omega) (by omega)]; exact congrArg some (by omega)
theorem Ab.few (R : Ab b x h s n) (hn : n < 1000) : cnts b.blocks < 1000000 ∧ b.blocks.length < 1000000 ∧ ∀ y ∈ b.blocks, y.length < 1000000 := by
 have h1 := R.cntE; have h2 := R.n1; have h3 := R.B.bl; exact ⟨by omega, by omega, fun y hy => by have := R.B.len hy; omega⟩
theorem bp_kx (k : Int → qa → Bool) (id : Int) : ∀ {l : List (List qd)}, (∀ y ∈ l, (y.map (·.Id)).Nodup) → bp (l.map (kx k)) id = (bp l id).filter (k id)
 | [], _ => rfl
 | y :: l, h => by
  rw [List.map_cons, bp_cons, bp_cons, cpt_kx k id (h y (by simp)), bp_kx k id fun z hz => h z (List.mem_cons_of_mem _ hz), List.filter_append]
theorem kpt_bp (B : BB b) (k : Int → qa → Bool) (id : Int) : bp (kpt k b).blocks id = (bp b.blocks id).filter (k id) := by
 unfold kpt; dsimp only; rw [bp_has, bp_kx k id fun y hy => (B.blk y hy).1]
theorem BB.kpt (B : BB b) (k : Int → qa → Bool) : BB (kpt k b) := by
 unfold bs.kpt; refine ⟨fun y hy => ?_, by dsimp only; rw [cnts_has], by dsimp only; rw [cnts_has]; exact len_has _⟩; obtain ⟨z, hz, rfl⟩ := List.mem_map.1 (List.mem_filter.1 hy).1; obtain ⟨h1, h2⟩ := B.blk z hz; refine ⟨h1.sublist (kx_ids k z), fun c hc => ?_⟩; unfold kx at hc; obtain ⟨d, hd, hc⟩ := List.mem_filterMap.1 hc
 split at hc
 ·cases hc
 ·obtain rfl := Option.some.inj hc; exact ⟨(h2 d hd).1, ‹_›, (h2 d hd).2.2.sublist List.filter_sublist⟩
def sealed (h : qq) : List qd := (hd.idsS h).filterMap (hd.chunkS h)
theorem fm_ids {F : Int → List qa} : ∀ l : List Int, ((l.filterMap fun i => if F i = [] then none else some (⟨i, F i⟩ : qd)).map (·.Id)).Sublist l
 | [] => .slnil
 | i :: l => by
  rw [List.filterMap_cons]
  split
  ·exact (fm_ids l).cons _
  ·rename_i c hc
   split at hc
   ·cases hc
   ·obtain rfl := Option.some.inj hc; exact (fm_ids l).cons_cons _
theorem fm_cpt {F : Int → List qa} (id : Int) : ∀ {l : List Int}, l.Nodup → cpt id (l.filterMap fun i => if F i = [] then none else some ⟨i, F i⟩) = if id ∈ l then F id else []
 | [], _ => rfl
 | i :: l, h => by
  rw [List.nodup_cons] at h; rw [List.filterMap_cons]
  by_cases h1 : F i = []
  ·rw [if_pos h1]; dsimp only; rw [fm_cpt id h.2]
   by_cases h2 : id = i
   ·subst h2; rw [if_neg h.1, if_pos (by simp), h1]
   ·simp [h2]
  ·rw [if_neg h1]; dsimp only; rw [cpt_cons]
   by_cases h2 : id = i
   ·subst h2; rw [if_pos rfl, if_pos (by simp)]
   ·rw [if_neg h2, fm_cpt id h.2]; simp [h2]
theorem sealed_eq (h : qq) : sealed h = (hd.idsS h).filterMap fun i => if (hd.row h i).filter (hd.farP h) = [] then none else some ⟨i, (hd.row h i).filter (hd.farP h)⟩ := rfl
theorem sealed_cpt (H : hd.HI h) (id : Int) : cpt id (sealed h) = (hd.row h id).filter (hd.farP h) := by
 rw [sealed_eq, fm_cpt (F := fun i => (hd.row h i).filter (hd.farP h)) id ((hd.ids_rise H).imp fun h e => by omega)]
 split
 ·rfl
 ·rename_i h1
  rw [show hd.row h id = [] from Classical.byContradiction fun e => h1 ((hd.ids_mem H).2 e)]; rfl
theorem sealed_ok (H : hd.HI h) : ((sealed h).map (·.Id)).Nodup ∧ ∀ c ∈ sealed h, (0 ≤ c.Id ∧ c.Id < 4096) ∧ c.Points ≠ [] ∧ RP c.Points := by
 refine ⟨((hd.ids_rise H).imp fun h e => by omega : (hd.idsS h).Nodup).sublist (fm_ids _), fun c hc => ?_⟩; rw [sealed_eq] at hc; obtain ⟨i, hi, hc⟩ := List.mem_filterMap.1 hc
 split at hc
 ·cases hc
 ·obtain rfl := Option.some.inj hc; exact ⟨H.ids i ((hd.ids_mem H).1 hi), ‹_›, (H.rows i).sublist List.filter_sublist⟩
theorem filter_two {α : Type} (p : α → Bool) : ∀ l : List α, (l.filter p ++ l.filter fun x => !p x).Perm l
 | [] => .refl _
 | x :: l => by
  rw [List.filter_cons, List.filter_cons]
  by_cases h : p x = true
  ·rw [if_pos h, if_neg (by simp [h])]; exact (filter_two p l).cons x
  ·rw [if_neg h, if_pos (by simp [h])]; exact List.perm_middle.trans ((filter_two p l).cons x)
theorem pack_loop {b : base_Base} {h h' : qq} (cs : List qd) (hc : ∀ c ∈ cs, c.Points ≠ [] ∧ c.Points.length ≤ 1024) (hl : cs.length < 1000000) :
 iter (fun s : Int × (List (List qd)) => base_Base_pack.b2 (cs, some h') b s.1 s.2) ((0 : Int), ([[], []] : List (List qd))) = some (b, [cs, []]) := by
 obtain ⟨r, e1, rfl⟩ := iter_inv (step := fun s : Int × (List (List qd)) => base_Base_pack.b2 (cs, some h') b s.1 s.2) (fun (s : List (List qd)) i => (i, s)) cs (fun s i => s = [cs.take i, []]) (fun r => r = (b, [cs, []])) (by
  rintro _ i c hci rfl
  left
  have hi := lt_of_get hci; obtain ⟨c1, c2⟩ := hc c (List.mem_of_getElem? hci)
  have htk : cs.take (i + 1) = cs.take i ++ [c] := by rw [List.take_add_one, hci]; rfl
  refine ⟨_, ?_, rfl⟩; unfold base_Base_pack.b2; dsimp only; rw [decide_eq_true (by omega : (i : Int) < cs.length), cond_true, at_nat hci, Option.bind_some, xm, cut_eq c.Id c1 c2, Option.bind_some]
  have e2 : iter (fun s : Int × (List (List qd)) => base_Base_pack.b4 [⟨c.Id, c.Points⟩] s.1 s.2) ((0 : Int), [cs.take i, []]) = some [cs.take (i + 1), []] := by
   rw [iter_next (s' := ((1 : Int), [cs.take (i + 1), []])), iter_end]
   ·rfl
   ·unfold base_Base_pack.b4; dsimp only; rw [show decide ((0 : Int) < (([⟨c.Id, c.Points⟩] : List qd).length : Int)) = true from rfl, cond_true, at_cons0, Option.bind_some, xm, at_cons0, Option.bind_some, app_ok (by simp only [List.length_singleton, List.length_take]; unfold lim; omega), Option.bind_some, Option.bind_some, htk]
    rfl
  rw [e2]; simp only [Option.bind_some, xm]; rw [xy (by omega) (by omega)]
  rfl) (by
  rintro _ rfl; refine ⟨_, ?_, rfl⟩; unfold base_Base_pack.b2; dsimp only
  rw [decide_eq_false (by omega), cond_false, List.take_length]) [[], []] (by simp)
 exact e1
theorem Ab.pack (R : Ab b x h s n) (hn : n < 1000) : ∃ b' h', base_Base_pack b = some b' ∧ Ab b' x h' s n ∧ (∀ id p, p ∈ hd.row h' id → hd.farS h'.any h'.last h'.window p.T = false) := by
 obtain ⟨h', e1, H', s3, hr⟩ := hd.seal_eq R.H; obtain ⟨f1, f2, f3⟩ := R.few hn; have hcnt := R.cntE; have hn1 := R.n1; have hbl := R.B.bl; have hso := sealed_ok R.H
 have hsl : cnt (sealed h) ≤ hd.tot h.series := by
  rw [cnt_sum hso.1 fun c hc => (hso.2 c hc).1, row_sum R.H]
  exact sumR_le fun i _ => by rw [sealed_cpt R.H]; exact List.length_filter_le _ _
 have hslen := len_le_cnt fun c hc => (hso.2 c hc).2.1
 have hcn : cnts (b.blocks ++ [sealed h, []]) = cnts b.blocks + cnt (sealed h) := by
  rw [cnts_append, cnts_cons, cnts_cons]; simp [cnts, cnt, asm, hd.tot]
 have e2 := pack_loop (b := { b with head := some h' }) (h := h) (h' := h') (sealed h) (fun c hc => ⟨(hso.2 c hc).2.1, by have := len_cnt hc; omega⟩) (by omega)
 have e3 := put_eq { b with head := some h' } (l := b.blocks ++ [sealed h, []]) (by rw [hcn]; omega) (by simp; omega) (fun y hy => by
  rcases List.mem_append.1 hy with hy | hy
  ·exact f3 y hy
  ·simp only [List.mem_cons, List.not_mem_nil, or_false] at hy; rcases hy with rfl | rfl
   ·omega
   ·simp)
 refine ⟨{ b with head := some h', blocks := (b.blocks ++ [sealed h, []]).filter has0, packed := (cnts (b.blocks ++ [sealed h, []]) : Int) }, h', ?_, ?_, fun id p hp => ?_⟩
 ·unfold base_Base_pack; rw [R.hx, e1, Option.bind_some, xm, show (hd.idsS h).filterMap (hd.chunkS h) = sealed h from rfl, e2, Option.bind_some]; dsimp only; rw [show slices_Clone_api_Chunk_api_Chunk b.blocks = _ from clone_ok (by unfold lim; omega), Option.bind_some, app_ok (by simp only [List.length_cons, List.length_nil]; unfold lim; omega), Option.bind_some, e3]
  rfl
 ·have hP : ∀ id, (s.P id).Perm (bp ((b.blocks ++ [sealed h, []]).filter has0) id ++ hd.row h' id) := fun id => by
   rw [bp_has, bp_append, bp_cons, bp_cons, sealed_cpt R.H, hr, show cpt id [] = [] from rfl, show bp [] id = [] from rfl, List.nil_append, List.append_nil, List.append_assoc]; exact (R.P id).trans ((filter_two (hd.farP h) (hd.row h id)).symm.append_left _)
  refine ⟨R.ix, rfl, R.X, H', ⟨fun y hy => ?_, ?_, ?_⟩, R.bw, s3.1.trans R.hw, R.g, s3.2.1.trans R.last, s3.2.2.trans R.any, R.n1, R.n2, R.n3, R.rp, hP, R.I, R.ids⟩
  ·rcases List.mem_append.1 (List.mem_filter.1 hy).1 with hy | hy
   ·exact R.B.blk y hy
   ·simp only [List.mem_cons, List.not_mem_nil, or_false] at hy; rcases hy with rfl | rfl
    ·exact hso
    ·exact ⟨by simp, fun c hc => by cases hc⟩
  ·dsimp only; rw [cnts_has]
  ·dsimp only; rw [cnts_has]; exact len_has _
 ·rw [hr] at hp; have := (List.mem_filter.1 hp).2; rw [s3.1, s3.2.1, s3.2.2]; simpa [hd.farP] using this
theorem bp_filter (p : qa → Bool) (l : List (List qd)) (id : Int) : (l.map fun y => (cpt id y).filter p).flatten = (bp l id).filter p := by
 unfold bp; rw [List.flatMap_def, List.filter_flatten, List.map_map]
 rfl
theorem Ab.points (R : Ab b x h s n) (hn : n < 900) (id f t : Int) : base_Base_Points (some b) id f t = some ((s.P id).filter (inT f t)) := by
 obtain ⟨f1, f2, f3⟩ := R.few (by omega); have hcnt := R.cntE; have hn1 := R.n1; have hbl := R.B.bl; have hrl := R.H.len id
 have e1 : iter (fun z : (List (List qa)) × Int => base_Base_Points.b2 id f t b z.1 z.2) (([] : List (List qa)), (0 : Int)) = some (b.blocks.map fun y => (cpt id y).filter (inT f t)) := by
  obtain ⟨r, e1, rfl⟩ := iter_inv (step := fun z : (List (List qa)) × Int => base_Base_Points.b2 id f t b z.1 z.2) (fun (z : List (List qa)) i => (z, i)) b.blocks (fun z i => z = (b.blocks.take i).map fun y => (cpt id y).filter (inT f t)) (fun r => r = b.blocks.map fun y => (cpt id y).filter (inT f t)) (by
   rintro _ i y hy rfl
   left
   have hi := lt_of_get hy
   have htk : b.blocks.take (i + 1) = b.blocks.take i ++ [y] := by rw [List.take_add_one, hy]; rfl
   refine ⟨_, ?_, rfl⟩; unfold base_Base_Points.b2; dsimp only; rw [decide_eq_true (by omega : (i : Int) < b.blocks.length), cond_true, at_nat hy, Option.bind_some, range_eq id f t (by have := cnt_le (List.mem_of_getElem? hy); omega), Option.bind_some, app_ok (by simp only [List.length_singleton, List.length_map, List.length_take]; unfold lim; omega), Option.bind_some, xm, xy (by omega) (by omega), htk, List.map_append]
   rfl) (by
   rintro _ rfl; refine ⟨_, ?_, rfl⟩; unfold base_Base_Points.b2; dsimp only
   rw [decide_eq_false (by omega), cond_false, List.take_length]) [] rfl
  exact e1
 have hfl : ((b.blocks.map fun y => (cpt id y).filter (inT f t)) ++ [(hd.row h id).filter (inT f t)]).flatten = (bp b.blocks id ++ hd.row h id).filter (inT f t) := by
  rw [List.flatten_append, bp_filter, List.filter_append]; simp
 have hdis : Dis (bp b.blocks id ++ hd.row h id) := (rp_dis (R.rp id)).perm (R.P id); have hd2 : Dis ((bp b.blocks id ++ hd.row h id).filter (inT f t)) := hdis.sublist List.filter_sublist
 have hrp : ∀ y ∈ b.blocks, RP (cpt id y) := fun y hy => by
  rw [cpt_find]; cases hq : y.find? fun c => c.Id == id with
  | none => exact .nil
  | some c => exact ((R.B.blk y hy).2 c (List.mem_of_find?_eq_some hq)).2.2
 obtain ⟨r, e2, r1, r2⟩ := all_eq (ls := (b.blocks.map fun y => (cpt id y).filter (inT f t)) ++ [(hd.row h id).filter (inT f t)]) (fun l hl => by
  rcases List.mem_append.1 hl with hl | hl
  ·obtain ⟨y, hy, rfl⟩ := List.mem_map.1 hl; exact (hrp y hy).sublist List.filter_sublist
  ·rw [List.mem_singleton.1 hl]
   exact (R.H.rows id).sublist List.filter_sublist) (by rw [hfl]; exact hd2) (by simp; omega) (by
  rw [hfl]; have := List.length_filter_le (inT f t) (bp b.blocks id ++ hd.row h id); rw [List.length_append] at this; have h3 : (bp b.blocks id).length ≤ cnts b.blocks := bp_len b.blocks id
  omega)
 rw [hfl] at r2; have : r = (s.P id).filter (inT f t) := rp_perm r1 ((R.rp id).sublist List.filter_sublist) (r2.trans ((R.P id).filter _).symm); subst this; unfold base_Base_Points; simp only [Option.isNone_some, cond_false, Option.bind_some]; rw [e1, Option.bind_some, R.hx, hd.points_eq R.H, Option.bind_some, range_eq id f t (by simp [cnt, asm, hd.tot]; omega), Option.bind_some, cpt_cons, if_pos rfl]; dsimp only; rw [app_ok (by simp only [List.length_singleton, List.length_map]; unfold lim; omega), Option.bind_some, e2]
 rfl
end
end Go.Proofs.YtganbpmicmbamaaGreat.bs

namespace Go.Proofs.YtganbpmicmbamaaGreat.bs
open Go Go.Mg
set_option linter.unusedVariables false
set_option linter.unusedSimpArgs false
noncomputable def idS (A : Ser) (l : List qc) : Option Int := (A.find? fun e => decide (e.2 = l)).map (·.1)
theorem idS_some {A : Ser} {l : List qc} {id : Int} (h : idS A l = some id) : (id, l) ∈ A := by
 unfold idS at h; obtain ⟨e, h1, rfl⟩ := Option.map_eq_some_iff.1 h; have h2 := List.find?_some h1; have h3 := List.mem_of_find?_eq_some h1; have h4 : e.2 = l := of_decide_eq_true h2; rw [← h4]; exact h3
theorem idS_none {A : Ser} {l : List qc} (h : idS A l = none) : ∀ e ∈ A, e.2 ≠ l := by
 unfold idS at h; rw [Option.map_eq_none_iff, List.find?_eq_none] at h; intro e he e2; exact h e he (decide_eq_true e2)
def ins (p : qa) (l : List qa) : List qa := (l.filter fun q => decide (q.T < p.T)) ++ p :: l.filter fun q => decide (p.T < q.T)
theorem ins_perm {p : qa} {l : List qa} (h : ∀ q ∈ l, q.T ≠ p.T) : (ins p l).Perm (p :: l) := by
 refine List.perm_middle.trans (List.Perm.cons p ?_)
 have e : (l.filter fun q => decide (p.T < q.T)) = l.filter fun q => !decide (q.T < p.T) := List.filter_congr fun q hq => by
  rw [← decide_not]; have := h q hq; exact decide_eq_decide.2 (by omega)
 rw [e]; exact filter_two _ l
theorem ins_rp {p : qa} {l : List qa} (h : RP l) : RP (ins p l) := by
 unfold ins RP hd.RP; rw [List.pairwise_append, List.pairwise_cons]; refine ⟨h.sublist List.filter_sublist, ⟨fun q hq => ?_, h.sublist List.filter_sublist⟩, fun q hq r hr => ?_⟩
 ·exact of_decide_eq_true (List.mem_filter.1 hq).2
 ·have h1 : q.T < p.T := of_decide_eq_true (List.mem_filter.1 hq).2; rcases List.mem_cons.1 hr with rfl | hr
  ·exact h1
  ·have : p.T < r.T := of_decide_eq_true (List.mem_filter.1 hr).2
   omega
def wr (s : St) (id : Int) (p : qa) : St := { s with P := fun i => if i = id then ins p (s.P i) else s.P i, last := if s.any = true ∧ ¬ s.last < p.T then s.last else p.T, any := true }
noncomputable def triedS (s : St) (d : xo) : qo × St :=
 if d.Point.T < -1152921504606846976 ∨ 1152921504606846976 < d.Point.T then (⟨1, 0⟩, s)
 else if hd.farS s.any s.last s.w d.Point.T = true then (⟨110, 0⟩, s)
 else match idS s.A d.Labels with
  | some id => if ∃ q ∈ s.P id, q.T = d.Point.T then (⟨111, 0⟩, s) else (⟨0, id⟩, wr s id d.Point)
  | none => (⟨0, s.g⟩, wr { s with A := s.A ++ [(s.g, d.Labels)], g := s.g + 1 } s.g d.Point)
section
variable {b : base_Base} {x : qh} {h : qq} {s : St} {n : Nat}
theorem Ab.succ (R : Ab b x h s n) : Ab b x h s (n + 1) := { R with n1 := by have := R.n1; omega, n2 := by have := R.n2; omega, n3 := by have := R.n3; omega }
theorem Ab.room (R : Ab b x h s n) (hn : n < 190) {l : List qc} (hl : rightS l = true) (hA : ∀ e ∈ s.A, e.2 ≠ l) : base_Base_room b l = some true := by
 have hg := R.g; have h2 := R.n2; have h3 := R.n3; unfold base_Base_room; obtain ⟨y, e1, Y, hy⟩ := open_eq R.X; rw [R.ix, bytes_eq R.X, Option.bind_some, e1, Option.bind_some]; obtain ⟨y', e2, _, _⟩ := add_new Y hl hA (by omega) (by omega); dsimp only; rw [show ((0 : Int) != 0) = false from rfl, cond_false, e2]
 rfl
theorem Ab.tooFar (R : Ab b x h s n) {t : Int} (ht : hd.I64 t) : base_Base_tooFar b t s.last = some (hd.farS true s.last s.w t) := by
 have h1 := R.H.last; have h2 := R.H.win; have h3 := R.H.win2; rw [R.last] at h1; rw [R.hw] at h2 h3; have e := hd.far_any (any := true) h1 ht h2 h3; unfold base_Base_tooFar; rw [R.bw]; exact e
theorem Ab.wrote (R : Ab b x h s n) (hn : n < 190) {x' : qh} {A' : Ser} {g' id : Int} {p : qa} (X' : XI x' A') (hg' : x'.given = g') (hA : A'.length ≤ n + 1) (hgn : g' ≤ (n : Int) + 1) (hgg : s.g ≤ g') (h0 : 0 ≤ id) (hid : id < g')
 (hq : ∀ q ∈ s.P id, q.T ≠ p.T) (hp : hd.I64 p.T) (hf : hd.farS s.any s.last s.w p.T = false) :
 ∃ h', head_Head_Add (some h) id p = some (0, some h') ∧ Ab { b with index := some x', head := some h' } x' h' (wr { s with A := A', g := g' } id p) (n + 1) := by
 obtain ⟨h', e1, H', _, q1⟩ := hd.add_eq R.H id hp; have hcnt := R.cntE; have hn1 := R.n1; have hmany := R.H.many
 have a1 : hd.addE h id p = 0 := by
  unfold hd.addE; rw [if_neg (by omega), if_neg (by rw [R.any, R.last, R.hw, hf]; simp), if_neg, if_neg (by omega)]; rintro ⟨q, hq1, hq2⟩; exact hq q ((R.P id).mem_iff.2 (List.mem_append_right _ hq1)) hq2
 obtain ⟨w1, m1, y1, l1, r1, o1⟩ := q1 a1
 have hP : ∀ i, ((wr { s with A := A', g := g' } id p).P i).Perm (bp b.blocks i ++ hd.row h' i) := fun i => by
  unfold wr; dsimp only
  by_cases hi : i = id
  ·subst hi; rw [if_pos rfl]; exact (ins_perm hq).trans (((R.P i).cons p).trans (List.perm_middle.symm.trans (r1.symm.append_left _)))
  ·rw [if_neg hi, o1 i hi]; exact R.P i
 have hlen : lenS (wr { s with A := A', g := g' } id p) = lenS s + 1 := by
  have h1 := cnt_eq R.B H' hP; have h2 := H'.many
  omega
 have hll : ∀ t, t ≤ s.last → s.any = true → t ≤ (if s.any = true ∧ ¬ s.last < p.T then s.last else p.T) := fun t ht hany => by
  split
  ·exact ht
  ·rename_i hc
   have : s.last < p.T := Classical.byContradiction fun e => hc ⟨hany, e⟩
   omega
 refine ⟨h', by rw [e1, a1], ⟨rfl, rfl, X', H', ⟨R.B.blk, R.B.pk, R.B.bl⟩, R.bw, w1.trans R.hw, hg', ?_, y1, by rw [hlen]; omega, hA, by show g' ≤ _; omega, fun i => ?_, hP, fun i q hqi => ?_, fun i hi => ?_⟩⟩
 ·rw [l1, R.last, R.any]; rfl
 ·unfold wr; dsimp only
  split
  ·exact ins_rp (R.rp i)
  ·exact R.rp i
 ·unfold wr at hqi ⊢; dsimp only at hqi ⊢
  split at hqi
  ·rename_i hi
   subst hi; rcases List.mem_cons.1 ((ins_perm hq).mem_iff.1 hqi) with rfl | hqi
   ·refine ⟨hp, ?_, rfl⟩
    split <;> omega
   ·obtain ⟨j1, j2, j3⟩ := R.I i q hqi; exact ⟨j1, hll _ j2 j3, rfl⟩
  ·obtain ⟨j1, j2, j3⟩ := R.I i q hqi; exact ⟨j1, hll _ j2 j3, rfl⟩
 ·unfold wr at hi ⊢; dsimp only at hi ⊢
  split at hi
  ·rename_i hii; subst hii; exact ⟨h0, hid⟩
  ·have := R.ids i hi
   omega
theorem Ab.tried (R : Ab b x h s n) (hn : n < 190) {d : xo} (hl : rightS d.Labels = true) (hp : hd.I64 d.Point.T) :
 ∃ b' x' h', base_Base_tried (some b) d = some ((triedS s d).1, some b') ∧ Ab b' x' h' (triedS s d).2 (n + 1) := by
 have hn2 := R.n2; have hn3 := R.n3; have hll := (rightS_iff.1 hl).2.2
 have hid : index_Index_Id (some x) d.Labels = some (match idS s.A d.Labels with | some id => (id, true) | none => (0, false)) := by
  cases hq : idS s.A d.Labels with
  | some id => exact id_old R.X (idS_some hq)
  | none =>
   have hno := idS_none hq; rcases id_eq R.X (l := d.Labels) (by omega) with ⟨_, h1⟩ | ⟨r, h1, h2, h3⟩
   ·exact h1
   ·have : r = d.Labels := right_uniq hl h2 (rightS_nle h1); subst this; rcases h3 with ⟨id, h3, _⟩ | ⟨_, h3⟩
    ·exact absurd rfl (hno _ h3)
    ·exact h3
 have hpt : ∀ id, base_Base_Points (some b) id d.Point.T d.Point.T = some ((s.P id).filter (inT d.Point.T d.Point.T)) := fun id => R.points (by omega) id _ _
 have hlast : head_Head_Last b.head = some (s.last, s.any) := by rw [R.hx, hd.last_eq, R.last, R.any]
 unfold base_Base_tried triedS; simp only [Option.bind_some]; rw [hlast, R.ix, hid]; simp only [Option.bind_some]
 by_cases hT : d.Point.T < -1152921504606846976 ∨ 1152921504606846976 < d.Point.T
 ·rw [if_pos hT]; refine ⟨b, x, h, ?_, R.succ⟩
  have : (bif decide (d.Point.T < -1152921504606846976) then some true else some (decide (1152921504606846976 < d.Point.T))) = some true := by
   rcases hT with hT | hT
   ·rw [decide_eq_true hT]; rfl
   ·by_cases h2 : d.Point.T < -1152921504606846976
    ·rw [decide_eq_true h2]; rfl
    ·rw [decide_eq_false h2, decide_eq_true hT]; rfl
  rw [this]
  rfl
 ·rw [if_neg hT]
  have : (bif decide (d.Point.T < -1152921504606846976) then some true else some (decide (1152921504606846976 < d.Point.T))) = some false := by
   rw [decide_eq_false (fun e => hT (.inl e)), decide_eq_false (fun e => hT (.inr e))]; rfl
  rw [this]; have hlen : base_Base_Len (some b) = some (lenS s : Int) := R.lenE (by omega); have hn1 := R.n1
  have hfar : (bif s.any then (base_Base_tooFar b d.Point.T s.last).bind fun y115 => some y115 else some false) = some (hd.farS s.any s.last s.w d.Point.T) := by
   rw [R.tooFar hp]
   cases s.any <;> rfl
  cases hq : idS s.A d.Labels with
  | some id =>
   have hm := idS_some hq; have hrg := R.X.rng _ hm; rw [R.g] at hrg; dsimp only at hrg; simp only [Option.bind_some, cond_false, Bool.not_true, hfar]
   by_cases hf : hd.farS s.any s.last s.w d.Point.T = true
   ·refine ⟨b, x, h, ?_, ?_⟩
    ·rw [if_pos hf, hf]; rfl
    ·rw [if_pos hf]; exact R.succ
   ·rw [if_neg hf]
    have hf' : hd.farS s.any s.last s.w d.Point.T = false := by simpa using hf
    rw [hf']; simp only [Option.bind_some, cond_false, cond_true, hpt]
    by_cases hex : ∃ q ∈ s.P id, q.T = d.Point.T
    ·refine ⟨b, x, h, ?_, ?_⟩
     ·rw [if_pos hex, decide_eq_true]
      ·rfl
      ·obtain ⟨q, h1, h2⟩ := hex; have : q ∈ (s.P id).filter (inT d.Point.T d.Point.T) := List.mem_filter.2 ⟨h1, by unfold inT; simp; omega⟩; have := List.length_pos_of_mem this
       omega
     ·rw [if_pos hex]; exact R.succ
    ·rw [if_neg hex]; have he : (s.P id).filter (inT d.Point.T d.Point.T) = [] := List.filter_eq_nil_iff.2 fun q hq2 h3 => hex ⟨q, hq2, by unfold inT at h3; simp at h3; omega⟩; rw [he, show decide ((0 : Int) < (([] : List qa).length : Int)) = false from rfl, cond_false, hlen, Option.bind_some, decide_eq_false (by omega)]; simp only [Option.bind_some, cond_false, Sum.elim_inl]; obtain ⟨h', e1, R'⟩ := R.wrote (x' := x) (A' := s.A) (g' := s.g) (id := id) (p := d.Point) (by omega) R.X R.g (by omega) (by omega) (by omega) hrg.1 hrg.2 (fun q hq2 h3 => hex ⟨q, hq2, h3⟩) hp hf'; refine ⟨_, x, h', ?_, R'⟩; unfold base_Base_write; rw [R.ix, add_old R.X hm, Option.bind_some, xm]; dsimp only; rw [show ((0 : Int) == 0) = true from rfl, cond_true, R.hx, e1]
     rfl
  | none =>
   have hno := idS_none hq; simp only [Option.bind_some, cond_false, cond_true, Bool.not_false, hfar]; rw [R.room (by omega) hl hno]; simp only [Option.bind_some, cond_false, Bool.not_true]
   by_cases hf : hd.farS s.any s.last s.w d.Point.T = true
   ·refine ⟨b, x, h, ?_, ?_⟩
    ·rw [if_pos hf, hf]; rfl
    ·rw [if_pos hf]; exact R.succ
   ·rw [if_neg hf]
    have hf' : hd.farS s.any s.last s.w d.Point.T = false := by simpa using hf
    rw [hf']; simp only [Option.bind_some, cond_false]; rw [hlen, Option.bind_some, decide_eq_false (by omega)]; simp only [Option.bind_some, cond_false, Sum.elim_inl]; have hg := R.g; have hg0 := R.X.g0; obtain ⟨x', e2, X', hx'⟩ := add_new R.X hl hno (by omega) (by omega); rw [hg] at e2 X' hx'
    have hemp : s.P s.g = [] := Classical.byContradiction fun e => by have := R.ids _ e; omega
    obtain ⟨h', e1, R'⟩ := R.wrote (x' := x') (A' := s.A ++ [(s.g, d.Labels)]) (g' := s.g + 1) (id := s.g) (p := d.Point) (by omega) X' hx' (by simp; omega) (by omega) (by omega) (by omega) (by omega) (fun q hq2 => by rw [hemp] at hq2; cases hq2) hp hf'; refine ⟨_, x', h', ?_, R'⟩; unfold base_Base_write; rw [R.ix, e2, Option.bind_some, xm]; dsimp only; rw [show ((0 : Int) == 0) = true from rfl, cond_true, R.hx, e1]
    rfl
end
end Go.Proofs.YtganbpmicmbamaaGreat.bs

namespace Go.Proofs.YtganbpmicmbamaaGreat.bs
open Go Go.Mg
set_option linter.unusedVariables false
set_option linter.unusedSimpArgs false
def retS (s : St) (t : Int) : St := { s with P := fun i => (s.P i).filter fun p => decide (t ≤ p.T) }
def eraS (s : St) (g : List Int) : St := { s with A := s.A.filter fun e => decide (e.1 ∉ g), P := fun i => if i ∈ g then [] else s.P i }
noncomputable def rightD (d : xo) : Bool :=
 if d.Kind = 1 then rightS d.Labels && d.Asks.isEmpty
 else if d.Kind = 4 then rightA d.Asks && (d.Labels.isEmpty && (decide (d.Point.T = 0) && decide (d.Point.V = 0)))
 else if d.Kind = 3 then d.Labels.isEmpty && (d.Asks.isEmpty && decide (d.Point.V = 0))
 else if d.Kind = 2 then d.Labels.isEmpty && (d.Asks.isEmpty && (decide (d.Point.T = 0) && decide (d.Point.V = 0)))
 else false
noncomputable def doS (s : St) (d : xo) : qo × St :=
 if rightD d = false then (⟨1, 0⟩, s)
 else if d.Kind = 1 then triedS s d
 else if d.Kind = 2 then (⟨0, 0⟩, s)
 else if d.Kind = 3 then (⟨0, (lenS s : Int) - lenS (retS s d.Point.T)⟩, retS s d.Point.T)
 else (⟨0, (idsOf (allS d.Asks) s.A).length⟩, eraS s (idsOf (allS d.Asks) s.A))
theorem pos_len {α : Type} (l : List α) : decide ((0 : Int) < (l.length : Int)) = !l.isEmpty := by
 cases l with
 | nil => rfl
 | cons x l => exact decide_eq_true (by simp only [List.length_cons]; omega)
theorem beq0 (a : Int) : (a == 0) = decide (a = 0) := rfl
theorem op_right {d : xo} (hl : d.Labels.length < 1000000) : op_Right d = some (rightD d) := by
 unfold op_Right rightD; rw [xm]; simp only [xm, pos_len, label_right hl, match_right, beq0, Option.bind_some, Bool.not_not]
 generalize rightS d.Labels = r1
 generalize rightA d.Asks = r2
 generalize d.Labels.isEmpty = r3
 generalize d.Asks.isEmpty = r4
 by_cases h1 : d.Kind = 1
 ·rw [if_pos h1, show (d.Kind == 1) = true by simp [h1]]
  cases r1 <;> cases r4 <;> rfl
 rw [if_neg h1, show (d.Kind == 1) = false by simpa using h1]
 by_cases h4 : d.Kind = 4
 ·rw [if_pos h4, show (d.Kind == 4) = true by simp [h4]]
  cases r2 <;> cases r3 <;> simp
 rw [if_neg h4, show (d.Kind == 4) = false by simpa using h4]
 by_cases h3 : d.Kind = 3
 ·rw [if_pos h3, show (d.Kind == 3) = true by simp [h3]]
  cases r3 <;> cases r4 <;> simp
 rw [if_neg h3, show (d.Kind == 3) = false by simpa using h3]
 by_cases h2 : d.Kind = 2
 ·rw [if_pos h2, show (d.Kind == 2) = true by simp [h2]]
  cases r3 <;> cases r4 <;> simp
 rw [if_neg h2, show (d.Kind == 2) = false by simpa using h2]
 rfl
section
variable {b : base_Base} {x : qh} {h : qq} {s : St} {n : Nat}
theorem lenS_le {s t : St} (h : ∀ i, (t.P i).length ≤ (s.P i).length) : lenS t ≤ lenS s := sumR_le fun i _ => h i
def goP (t : Int) (p : qa) : Bool := decide (t ≤ p.T)
theorem ret_in {b : base_Base} {h hh : qq} {id : Int} {lo hi : List qa} (H : hd.HI hh) (hb : b.head = some hh)
 (r0 : hd.row hh id = []) (hrp : RP hi) (hid : hi ≠ [] → 0 ≤ id ∧ id < 4096) (hI : ∀ p ∈ hi, hd.I64 p.T ∧ p.T ≤ hh.last ∧ hh.any = true ∧ hd.farS hh.any hh.last hh.window p.T = false) (hm : hd.tot hh.series + hi.length ≤ 2048) :
 ∃ h2, iter (fun s : Int × base_Base => base_Base_Do.b4 id (lo, hi) s.1 s.2) ((0 : Int), b) = some { b with head := some h2 } ∧ hd.HI h2 ∧ hd.Same3 hh h2 ∧ ∀ j, hd.row h2 j = if j = id then hi else hd.row hh j := by
 have hml := H.many; have hle := H.le
 obtain ⟨r, e1, h2, rfl, H2, s2, m2, r2⟩ := iter_inv (step := fun s : Int × base_Base => base_Base_Do.b4 id (lo, hi) s.1 s.2) (fun (s : base_Base) i => (i, s)) hi
  (fun s i => ∃ k : qq, s = { b with head := some k } ∧ hd.HI k ∧ hd.Same3 hh k ∧ k.many = hh.many + i ∧ ∀ j, hd.row k j = if j = id then hi.take i else hd.row hh j)
  (fun r => ∃ k : qq, r = { b with head := some k } ∧ hd.HI k ∧ hd.Same3 hh k ∧ k.many = hh.many + hi.length ∧ ∀ j, hd.row k j = if j = id then hi else hd.row hh j) (by
  rintro _ i p hpi ⟨k, rfl, K, sk, mk, rk⟩
  left
  have hi' := lt_of_get hpi; have hm2 := List.mem_of_getElem? hpi; obtain ⟨i1, i2, i3, i4⟩ := hI p hm2
  have htk : hi.take (i + 1) = hi.take i ++ [p] := by rw [List.take_add_one, hpi]; rfl
  have hrng := hid (List.ne_nil_of_mem hm2); obtain ⟨k2, e1, K2, _, q1⟩ := hd.add_eq K id i1; have hrow := rk id; rw [if_pos rfl] at hrow
  have hlast : ∀ q ∈ hi.take i, q.T < p.T := fun q hq => by
   have h3 : RP (hi.take (i + 1)) := hrp.sublist (List.take_sublist _ _); rw [htk] at h3; exact (List.pairwise_append.1 h3).2.2 q hq p (by simp)
  have a1 : hd.addE k id p = 0 := by
   unfold hd.addE; rw [if_neg (by omega), if_neg (by rw [sk.1, sk.2.1, sk.2.2, i4]; simp), if_neg, if_neg (by omega)]; rw [hrow]; rintro ⟨q, hq1, hq2⟩; have := hlast q hq1
   omega
  obtain ⟨w1, m1, y1, l1, r1, o1⟩ := q1 a1; refine ⟨{ b with head := some k2 }, ?_, k2, rfl, K2, ⟨w1.trans sk.1, ?_, y1.trans i3.symm⟩, by omega, fun j => ?_⟩
  ·unfold base_Base_Do.b4; dsimp only; rw [decide_eq_true (by omega : (i : Int) < hi.length), cond_true, at_nat hpi, Option.bind_some, xm, e1, a1]; simp only [Option.bind_some, xm]; rw [xy (by omega) (by omega)]
   rfl
  ·rw [l1, sk.2.1, sk.2.2, if_pos ⟨i3, by omega⟩]
  ·by_cases hj : j = id
   ·subst hj; rw [if_pos rfl]; refine rp_perm (K2.rows j) (hrp.sublist (List.take_sublist _ _)) ?_; rw [htk]; rw [hrow] at r1; exact r1.trans (List.perm_append_singleton _ _).symm
   ·rw [if_neg hj, o1 j hj, rk, if_neg hj]) (by
  rintro _ ⟨k, rfl, K, sk, mk, rk⟩; refine ⟨_, ?_, k, rfl, K, sk, mk, fun j => by rw [rk, List.take_length]⟩; unfold base_Base_Do.b4; dsimp only
  rw [decide_eq_false (by omega), cond_false]) b ⟨hh, by rw [← hb], H, ⟨rfl, rfl, rfl⟩, by omega, fun j => by
   by_cases hj : j = id
   ·subst hj; rw [if_pos rfl, r0]; rfl
   ·rw [if_neg hj]⟩
 exact ⟨h2, e1, H2, s2, r2⟩
theorem ret_loop {b : base_Base} {h : qq} {d : xo} (H : hd.HI h) (hb : b.head = some h)
 (hI : ∀ id, ∀ p ∈ hd.row h id, p.T ≤ h.last ∧ h.any = true ∧ hd.farS h.any h.last h.window p.T = false) :
 ∃ h2, iter (fun s : Int × base_Base => base_Base_Do.b2 d (hd.idsS h) s.1 s.2) ((0 : Int), b) = some { b with head := some h2 } ∧ hd.HI h2 ∧ hd.Same3 h h2 ∧ ∀ j, hd.row h2 j = (hd.row h j).filter (goP d.Point.T) := by
 have hil := hd.ids_len H
 obtain ⟨r, e1, h2, rfl, H2, s2, r2⟩ := iter_inv (step := fun s : Int × base_Base => base_Base_Do.b2 d (hd.idsS h) s.1 s.2) (fun (s : base_Base) i => (i, s)) (hd.idsS h)
  (fun s i => ∃ k : qq, s = { b with head := some k } ∧ hd.HI k ∧ hd.Same3 h k ∧ ∀ j, hd.row k j = if j ∈ (hd.idsS h).take i then (hd.row h j).filter (goP d.Point.T) else hd.row h j)
  (fun r => ∃ k : qq, r = { b with head := some k } ∧ hd.HI k ∧ hd.Same3 h k ∧ ∀ j, hd.row k j = if j ∈ hd.idsS h then (hd.row h j).filter (goP d.Point.T) else hd.row h j) (by
  rintro _ i id hid ⟨k, rfl, K, sk, rk⟩
  left
  have hi := lt_of_get hid; have hmem := List.mem_of_getElem? hid
  have hnot : id ∉ (hd.idsS h).take i := fun hm => by
   obtain ⟨j, hj⟩ := List.getElem?_of_mem hm; rw [List.getElem?_take] at hj
   split at hj
   case isFalse => cases hj
   rename_i hji
   obtain ⟨hj1, hj2⟩ := List.getElem?_eq_some_iff.1 hj; obtain ⟨hi1, hi2⟩ := List.getElem?_eq_some_iff.1 hid; have := List.pairwise_iff_getElem.1 (hd.ids_rise H) j i hj1 hi1 hji
   omega
  have htk : (hd.idsS h).take (i + 1) = (hd.idsS h).take i ++ [id] := by rw [List.take_add_one, hid]; rfl
  have hrow : hd.row k id = hd.row h id := by rw [rk, if_neg hnot]
  have hlen := K.len id; obtain ⟨k1, e2, K1, sk1, rk1⟩ := hd.drop_eq K id
  have hfl : ((hd.row h id).filter (goP d.Point.T)).length ≤ (hd.row k id).length := by rw [hrow]; exact List.length_filter_le _ _
  have htot : hd.tot k1.series + (hd.row k id).length ≤ 2048 := by
   have h1 : hd.tot k1.series + (hd.row k id).length = hd.tot k.series := by
    obtain ⟨q, hq⟩ : ∃ q : Nat → Nat, q = fun j : Nat => if (j : Int) = id then (hd.row k id).length else 0 := ⟨_, rfl⟩; have hrg := H.ids id ((hd.ids_mem H).1 hmem)
    have e0 : hd.sumR 4096 q = (hd.row k id).length := by
     rw [hq, hd.sumR_one]; exact if_pos (by omega)
    rw [row_sum K1, row_sum K, ← e0, ← hd.sumR_add, hq]
    exact hd.sumR_congr fun j _ => by
     dsimp only; rw [rk1]
     by_cases hj : (j : Int) = id
     ·rw [if_pos hj, if_pos hj, hj]; simp
     ·rw [if_neg hj, if_neg hj]; simp
   have := K.le
   omega
  obtain ⟨k2, e3, K2, sk2, rk2⟩ := ret_in (b := { b with head := some k1 }) (h := h) (hh := k1) (id := id) (lo := (hd.row k id).filter fun p => decide (p.T < d.Point.T)) (hi := (hd.row h id).filter (goP d.Point.T)) K1 rfl (by rw [rk1, if_pos rfl])
   ((H.rows id).sublist List.filter_sublist) (fun _ => H.ids id ((hd.ids_mem H).1 hmem)) (fun p hp => by
    have hp2 := (List.mem_filter.1 hp).1; obtain ⟨i1, i2, i3⟩ := hI id p hp2; have hh1 : k1.last = h.last := sk1.2.1.trans sk.2.1; have hh2 : k1.any = h.any := sk1.2.2.trans sk.2.2; have hh3 : k1.window = h.window := sk1.1.trans sk.1; rw [hh1, hh2, hh3]
    exact ⟨H.pts id p hp2, i1, i2, i3⟩) (by omega)
  refine ⟨{ b with head := some k2 }, ?_, k2, rfl, K2, ⟨sk2.1.trans (sk1.1.trans sk.1), sk2.2.1.trans (sk1.2.1.trans sk.2.1), sk2.2.2.trans (sk1.2.2.trans sk.2.2)⟩, fun j => ?_⟩
  ·unfold base_Base_Do.b2; dsimp only; rw [decide_eq_true (by omega : (i : Int) < (hd.idsS h).length), cond_true, at_nat hid, Option.bind_some, hd.points_eq K, Option.bind_some, split_eq (K.rows id) (by omega), Option.bind_some, e2, Option.bind_some, xm]; rw [show ((hd.row k id).filter fun p => decide (d.Point.T ≤ p.T)) = (hd.row h id).filter (goP d.Point.T) by rw [hrow]; rfl, e3, Option.bind_some, xm, xy (by omega) (by omega)]
   rfl
  ·rw [rk2, rk1, rk, htk]
   by_cases hj : j = id
   ·subst hj; rw [if_pos rfl, if_pos (by simp)]
   ·simp [hj]) (by
  rintro _ ⟨k, rfl, K, sk, rk⟩; refine ⟨_, ?_, k, rfl, K, sk, fun j => by rw [rk, List.take_length]⟩; unfold base_Base_Do.b2; dsimp only
  rw [decide_eq_false (by omega), cond_false]) b ⟨h, by rw [← hb], H, ⟨rfl, rfl, rfl⟩, fun j => by simp⟩
 refine ⟨h2, e1, H2, s2, fun j => ?_⟩; rw [r2]
 split
 ·rfl
 ·rename_i hj
  rw [show hd.row h j = [] from Classical.byContradiction fun e => hj ((hd.ids_mem H).2 e)]; rfl
end
end Go.Proofs.YtganbpmicmbamaaGreat.bs

namespace Go.Proofs.YtganbpmicmbamaaGreat.bs
open Go Go.Mg
set_option linter.unusedVariables false
set_option linter.unusedSimpArgs false
section
variable {b : base_Base} {x : qh} {h : qq} {s : St} {n : Nat}
theorem Ab.ret (R : Ab b x h s n) (hn : n < 190) (d : xo) : ∃ b1 b2 b3 h3, base_Base_pack b = some b1 ∧ base_Base_keep__base_Base_Do_1 b1 d = some b2 ∧
 ((head_Head_Ids b2.head).bind fun y173 => iter (fun s : Int × base_Base => base_Base_Do.b2 d y173 s.1 s.2) ((0 : Int), b2)) = some b3 ∧ Ab b3 x h3 (retS s d.Point.T) n := by
 obtain ⟨b1, h1, e1, R1, hf⟩ := R.pack (by omega); obtain ⟨f1, f2, f3⟩ := R1.few (by omega); have e2 := keep1_eq f1 f2 f3 d; obtain ⟨k, hk⟩ : ∃ k : Int → qa → Bool, k = fun _ p => decide (d.Point.T ≤ p.T) := ⟨_, rfl⟩; rw [← hk] at e2; have hb : (kpt k b1).head = some h1 := R1.hx
 obtain ⟨h2, e3, H2, s2, r2⟩ := ret_loop (b := kpt k b1) (h := h1) (d := d) R1.H hb fun id p hp => by
  obtain ⟨_, i2, i3⟩ := R1.I id p ((R1.P id).mem_iff.2 (List.mem_append_right _ hp)); exact ⟨by rw [R1.last]; exact i2, by rw [R1.any]; exact i3, hf id p hp⟩
 refine ⟨b1, kpt k b1, { kpt k b1 with head := some h2 }, h2, e1, e2, ?_, R1.ix, rfl, R1.X, H2, ?_, R1.bw, s2.1.trans R1.hw, R1.g, s2.2.1.trans R1.last, s2.2.2.trans R1.any, ?_, R1.n2, R1.n3, fun id => ?_, fun id => ?_, fun id p hp => ?_, fun id hid => ?_⟩
 ·rw [hb, hd.ids_eq R1.H, Option.bind_some, e3]
 ·have := R1.B.kpt k; exact ⟨this.blk, this.pk, this.bl⟩
 ·have : lenS (retS s d.Point.T) ≤ lenS s := lenS_le fun i => List.length_filter_le _ _; have := R.n1
  omega
 ·exact (R1.rp id).sublist List.filter_sublist
 ·have h3 := kpt_bp R1.B k id
  show ((s.P id).filter fun p => decide (d.Point.T ≤ p.T)).Perm (bp (kpt k b1).blocks id ++ hd.row h2 id)
  rw [h3, r2, show goP d.Point.T = k id by rw [hk]; rfl, ← List.filter_append, show (fun p : qa => decide (d.Point.T ≤ p.T)) = k id by rw [hk]]; exact (R1.P id).filter _
 ·exact R1.I id p (List.mem_filter.1 hp).1
 ·exact R1.ids id fun e => hid (by show (s.P id).filter _ = []; rw [e]; rfl)
theorem era_loop (R : Ab b x h s n) {g : List Int} (hg : SR g) (hm : ∀ i ∈ g, ∃ l, (i, l) ∈ s.A) (hgl : g.length < 1000000) :
 ∃ k y, iter (fun z : Int × (Option base_Base) => base_Base_Do.b7 g z.1 z.2) ((0 : Int), some b) = some (some { b with head := some k, index := some y }) ∧ hd.HI k ∧ hd.Same3 h k ∧ XI y (s.A.filter fun e => decide (e.1 ∉ g)) ∧ y.given = x.given ∧ ∀ j, hd.row k j = if j ∈ g then [] else hd.row h j := by
 obtain ⟨r, e1, k, y, rfl, a1, a2, a3, a4, a5⟩ := iter_inv (step := fun z : Int × (Option base_Base) => base_Base_Do.b7 g z.1 z.2) (fun (z : base_Base) i => (i, some z)) g
  (fun z i => ∃ (k : qq) (y : qh), z = { b with head := some k, index := some y } ∧ hd.HI k ∧ hd.Same3 h k ∧ XI y (s.A.filter fun e => decide (e.1 ∉ g.take i)) ∧ y.given = x.given ∧ ∀ j, hd.row k j = if j ∈ g.take i then [] else hd.row h j)
  (fun r => ∃ (k : qq) (y : qh), r = some { b with head := some k, index := some y } ∧ hd.HI k ∧ hd.Same3 h k ∧ XI y (s.A.filter fun e => decide (e.1 ∉ g)) ∧ y.given = x.given ∧ ∀ j, hd.row k j = if j ∈ g then [] else hd.row h j) (by
  rintro _ i id hid ⟨k, y, rfl, K, sk, Y, gy, rk⟩
  left
  have hi := lt_of_get hid; have hmem := List.mem_of_getElem? hid
  have htk : g.take (i + 1) = g.take i ++ [id] := by rw [List.take_add_one, hid]; rfl
  have hnot : id ∉ g.take i := fun hm => by
   obtain ⟨j, hj⟩ := List.getElem?_of_mem hm; rw [List.getElem?_take] at hj
   split at hj
   case isFalse => cases hj
   rename_i hji
   obtain ⟨hj1, hj2⟩ := List.getElem?_eq_some_iff.1 hj; obtain ⟨hi1, hi2⟩ := List.getElem?_eq_some_iff.1 hid; have := List.pairwise_iff_getElem.1 hg j i hj1 hi1 hji
   omega
  obtain ⟨k1, e2, K1, sk1, rk1⟩ := hd.drop_eq K id; obtain ⟨l, hl⟩ := hm id hmem; have hlA : (id, l) ∈ s.A.filter fun e => decide (e.1 ∉ g.take i) := List.mem_filter.2 ⟨hl, decide_eq_true hnot⟩; rcases drop_eq Y id with ⟨h1, _⟩ | ⟨m, h1, y1, e3, Y1, gy1⟩
  ·rw [(get_mem Y.rise).2 hlA] at h1; cases h1
  have hoff : offS id (s.A.filter fun e => decide (e.1 ∉ g.take i)) = s.A.filter fun e => decide (e.1 ∉ g.take (i + 1)) := by
   unfold offS; rw [List.filter_filter]; refine List.filter_congr fun e _ => ?_; rw [htk, ← Bool.decide_and]; exact decide_eq_decide.2 (by simp only [List.mem_append, List.mem_singleton, not_or]; exact ⟨fun h => ⟨h.2, h.1⟩, fun h => ⟨h.2, h.1⟩⟩)
  refine ⟨{ b with head := some k1, index := some y1 }, ?_, k1, y1, rfl, K1, ⟨sk1.1.trans sk.1, sk1.2.1.trans sk.2.1, sk1.2.2.trans sk.2.2⟩, by rw [← hoff]; exact Y1, gy1.trans gy, fun j => ?_⟩
  ·unfold base_Base_Do.b7; dsimp only; rw [decide_eq_true (by omega : (i : Int) < g.length), cond_true, at_nat hid, Option.bind_some, Option.bind_some, e2, Option.bind_some, xm]; dsimp only; rw [e3, Option.bind_some, xm, xm, xy (by omega) (by omega)]
   rfl
  ·rw [rk1, rk, htk]
   by_cases hj : j = id
   ·subst hj; rw [if_pos rfl, if_pos (by simp)]
   ·simp [hj]) (by
  rintro _ ⟨k, y, rfl, K, sk, Y, gy, rk⟩; refine ⟨_, ?_, k, y, rfl, K, sk, by rw [List.take_length] at Y; exact Y, gy, fun j => by rw [rk, List.take_length]⟩; unfold base_Base_Do.b7; dsimp only
  rw [decide_eq_false (by omega), cond_false]) b ⟨h, x, by rw [← R.hx, ← R.ix], R.H, ⟨rfl, rfl, rfl⟩, by
   rw [List.filter_eq_self.2 fun e _ => by simp]; exact R.X, rfl, fun j => by simp⟩
 exact ⟨k, y, e1, a1, a2, a3, a4, a5⟩
theorem Ab.era (R : Ab b x h s n) (hn : n < 190) {g : List Int} (hg : SR g) (hm : ∀ i ∈ g, ∃ l, (i, l) ∈ s.A) (hgl : g.length < 1000000) :
 ∃ b1 b2 y k, iter (fun z : Int × (Option base_Base) => base_Base_Do.b7 g z.1 z.2) ((0 : Int), some b) = some (some b1) ∧ base_Base_keep__base_Base_Do_2 b1 g = some b2 ∧ Ab b2 y k (eraS s g) n := by
 obtain ⟨k, y, e1, K, sk, Y, gy, rk⟩ := era_loop R hg hm hgl; obtain ⟨f1, f2, f3⟩ := R.few (by omega); have B : BB { b with head := some k, index := some y } := ⟨R.B.blk, R.B.pk, R.B.bl⟩; have e2 := keep2_eq (b := { b with head := some k, index := some y }) f1 f2 f3 hgl; obtain ⟨q, hq⟩ : ∃ q : Int → qa → Bool, q = fun i _ => decide (i ∉ g) := ⟨_, rfl⟩; rw [← hq] at e2
 have hsub : ∀ i, ((eraS s g).P i).length ≤ (s.P i).length := fun i => by
  unfold eraS; dsimp only; split
  ·exact Nat.zero_le _
  ·exact Nat.le_refl _
 refine ⟨_, _, y, k, e1, e2, rfl, rfl, Y, K, B.kpt q, R.bw, sk.1.trans R.hw, gy.trans R.g, sk.2.1.trans R.last, sk.2.2.trans R.any, ?_, ?_, R.n3, fun id => ?_, fun id => ?_, fun id p hp => ?_, fun id hid => ?_⟩
 ·have := lenS_le hsub; have := R.n1
  omega
 ·exact Nat.le_trans (List.length_filter_le _ _) R.n2
 ·unfold eraS; dsimp only; split
  ·exact .nil
  ·exact R.rp id
 ·rw [kpt_bp B q id, rk]; unfold eraS; dsimp only
  by_cases hid : id ∈ g
  ·rw [if_pos hid, if_pos hid, List.filter_eq_nil_iff.2 fun p _ => by rw [hq]; simp [hid]]; exact .refl _
  ·rw [if_neg hid, if_neg hid, List.filter_eq_self.2 fun p _ => by rw [hq]; simp [hid]]; exact R.P id
 ·unfold eraS at hp; dsimp only at hp
  split at hp
  ·cases hp
  ·exact R.I id p hp
 ·unfold eraS at hid; dsimp only at hid
  split at hid
  ·exact absurd rfl hid
  ·exact R.ids id hid
theorem Ab.done (R : Ab b x h s n) (hn : n < 190) {d : xo} (hl : d.Labels.length < 1000000) (hp : hd.I64 d.Point.T) :
 ∃ b' x' h', base_Base_Do (some b) d = some ((doS s d).1, some b') ∧ Ab b' x' h' (doS s d).2 (n + 1) := by
 unfold base_Base_Do doS; rw [op_right hl]; simp only [Option.isNone_some, cond_false, Option.bind_some]
 by_cases hr : rightD d = false
 ·rw [if_pos hr, hr]; exact ⟨b, x, h, rfl, R.succ⟩
 have hr2 : rightD d = true := by simpa using hr
 rw [if_neg hr, hr2, R.lenE (by omega)]; simp only [Bool.not_true, cond_false, Option.bind_some]
 by_cases h1 : d.Kind = 1
 ·rw [if_pos h1, show (d.Kind == 1) = true by simp [h1], cond_true]
  have hR : rightS d.Labels = true := by
   unfold rightD at hr2; rw [if_pos h1, Bool.and_eq_true] at hr2; exact hr2.1
  obtain ⟨b', x', h', e1, R'⟩ := R.tried hn hR hp; exact ⟨b', x', h', by rw [e1]; rfl, R'⟩
 rw [if_neg h1, show (d.Kind == 1) = false by simpa using h1, cond_false]
 by_cases h2 : d.Kind = 2
 ·rw [if_pos h2, show (d.Kind == 2) = true by simp [h2], cond_true]; obtain ⟨b', h', e1, R', _⟩ := R.pack (by omega); exact ⟨b', x, h', by rw [e1]; rfl, R'.succ⟩
 rw [if_neg h2, show (d.Kind == 2) = false by simpa using h2, cond_false]
 by_cases h3 : d.Kind = 3
 ·rw [if_pos h3, show (d.Kind == 3) = true by simp [h3], cond_true]; obtain ⟨b1, b2, b3, k, e1, e2, e3, R'⟩ := R.ret hn d; have hle : lenS (retS s d.Point.T) ≤ lenS s := lenS_le fun i => List.length_filter_le _ _; have hn1 := R.n1; refine ⟨b3, x, k, ?_, R'.succ⟩; rw [e1, Option.bind_some, e2, Option.bind_some, e3, Option.bind_some, R'.lenE (by omega), Option.bind_some, xm, xm, xy (by omega) (by omega)]
 rw [if_neg h3, show (d.Kind == 3) = false by simpa using h3, cond_false]
 have hA : rightA d.Asks = true := by
  unfold rightD at hr2; rw [if_neg h1] at hr2
  split at hr2
  ·rw [Bool.and_eq_true] at hr2; exact hr2.1
  ·cases hr2
 have hf := R.X.few; have hgl : (idsOf (allS d.Asks) s.A).length ≤ s.A.length := idsOf_len
 obtain ⟨b1, b2, y, k, e1, e2, R'⟩ := R.era hn (idsOf_sr (p := allS d.Asks) R.X.rise) (fun i hi => by
  obtain ⟨l, h1, _⟩ := mem_idsOf.1 hi
  exact ⟨l, h1⟩) (by omega)
 refine ⟨b2, y, k, ?_, R'.succ⟩; rw [R.ix, find_eq R.X, if_pos hA]; simp only [Option.bind_some, xm]; rw [e1, Option.bind_some, Option.bind_some, e2]
 rfl
end
end Go.Proofs.YtganbpmicmbamaaGreat.bs

namespace Go.Proofs.YtganbpmicmbamaaGreat.bs
open Go Go.Mg
set_option linter.unusedVariables false
set_option linter.unusedSimpArgs false
def s0 (w : Int) : St := ⟨w, [], 0, fun _ => [], 0, false⟩
def h0 (w : Int) : qq := ⟨w, [], 0, 0, false⟩
def x0 : qh := ⟨[], [], [], [], 0⟩
def b0 (w : Int) : base_Base := ⟨w, some x0, some (h0 w), [], 0⟩
theorem new_eq (w : Int) : base_New w = some (if w < 0 ∨ 1099511627776 < w then (none, 1) else (some (b0 w), 0)) := by
 unfold base_New head_New index_New
 by_cases h1 : w < 0
 ·simp [h1]
 ·by_cases h2 : 1099511627776 < w
  ·simp [h1, h2]
  ·simp [h1, h2, b0, h0, x0]
theorem hi_new {w : Int} (h1 : 0 ≤ w) (h2 : w ≤ 1099511627776) : hd.HI (h0 w) :=
 ⟨h1, h2, by unfold hd.I64 h0; simp, List.nodup_nil, fun id h => absurd rfl h, fun id => .nil, fun id h => by simp [h0, hd.row, ye] at h, fun id p hp => absurd hp List.not_mem_nil, rfl, Nat.zero_le _⟩
theorem lenS_new (w : Int) : lenS (s0 w) = 0 := hd.sumR_zero _
theorem ab_new {w : Int} (h1 : 0 ≤ w) (h2 : w ≤ 1099511627776) : Ab (b0 w) x0 (h0 w) (s0 w) 0 :=
 ⟨rfl, rfl, xi_new, hi_new h1 h2, ⟨fun y hy => absurd hy List.not_mem_nil, rfl, Nat.le_refl _⟩, rfl, rfl, rfl, rfl, rfl, by rw [lenS_new]; exact Nat.le_refl _, Nat.le_refl _, Int.le_refl _, fun _ => .nil, fun _ => .refl _, fun _ p hp => absurd hp List.not_mem_nil, fun _ h => absurd rfl h⟩
theorem samePt {l : List qa} (hn : l.length < 1000000000) : yv l l = some true := by
 unfold yv; simp only [bne_self_eq_false, cond_false]
 obtain ⟨r, e1, rfl⟩ := iter_inv (step := fun s : Int => yv.b2 l l s) (fun (_ : Unit) i => i) l (fun _ _ => True) (fun r => r = .inl ()) (by
  intro s i x hx _
  left
  refine ⟨(), ?_, trivial⟩; have := lt_of_get hx; unfold yv.b2; rw [decide_eq_true (by omega : (i : Int) < l.length), cond_true, at_nat hx]; simp only [Option.bind_some, beq_self_eq_true, Bool.and_self, Bool.not_true, cond_false, xm]; rw [xy (by omega) (by omega)]
  rfl) (fun s _ => ⟨.inl (), by unfold yv.b2; simp, rfl⟩) () trivial
 rw [e1]
 rfl
section
variable {b : base_Base} {x : qh} {h : qq} {s : St} {n : Nat}
theorem Ab.all (R : Ab b x h s n) (hn : n < 190) (id : Int) : base_Base_Points (some b) id (-9223372036854775808) 9223372036854775807 = some (s.P id) := by
 rw [R.points (by omega), List.filter_eq_self.2 fun p hp => ?_]; obtain ⟨⟨h1, h2⟩, _⟩ := R.I id p hp; unfold inT; simp; omega
theorem Ab.plen (R : Ab b x h s n) (hn : n < 190) (id : Int) : (s.P id).length < 1000000 := by
 rw [(R.P id).length_eq, List.length_append]; have h1 := bp_len b.blocks id; have h2 := R.H.len id; have h3 := R.cntE; have h4 := R.n1
 omega
theorem Ab.doPack (R : Ab b x h s n) (hn : n < 190) : ∃ b' h', base_Base_Do (some b) ⟨2, [], ⟨0, 0⟩, []⟩ = some (⟨0, 0⟩, some b') ∧ Ab b' x h' s n := by
 obtain ⟨b', h', e1, R', _⟩ := R.pack (by omega); refine ⟨b', h', ?_, R'⟩; unfold base_Base_Do; rw [op_right (by simp), show rightD ⟨2, [], ⟨0, 0⟩, []⟩ = true by simp [rightD], R.lenE (by omega)]; simp only [Option.isNone_some, cond_false, Option.bind_some, Bool.not_true]; rw [e1]
 rfl
end
def d1 (t : Int) : xo := ⟨1, [⟨⟨#[97]⟩, ⟨#[49]⟩⟩], ⟨t, 0⟩, []⟩
theorem one_eq (t : Int) : marigraphlaw15_one t = some (d1 t) := rfl
theorem right_one (t : Int) : rightD (d1 t) = true := by
 unfold rightD d1; rw [if_pos rfl, rightS_one]; rfl
theorem do_one (s : St) (t : Int) : doS s (d1 t) = triedS s (d1 t) := by
 unfold doS; rw [right_one, if_neg (by simp), if_pos (show (d1 t).Kind = 1 from rfl)]
def L1 : List qc := [⟨⟨#[97]⟩, ⟨#[49]⟩⟩]
def s1 (w : Int) (l : List qa) (last : Int) : St := ⟨w, [(0, L1)], 1, fun i => if i = 0 then l else [], last, true⟩
theorem tried_new {w t : Int} (h1 : -1152921504606846976 ≤ t) (h2 : t ≤ 1152921504606846976) : triedS (s0 w) (d1 t) = (⟨0, 0⟩, s1 w [⟨t, 0⟩] t) := by
 unfold triedS; rw [if_neg (by unfold d1; dsimp only; omega), if_neg (by simp [hd.farS, s0])]; rw [show idS (s0 w).A (d1 t).Labels = none from rfl]; simp only [wr, s0, d1, s1, L1, ins]; simp
 rfl
theorem idS_one : idS [(0, L1)] L1 = some 0 := by unfold idS; simp
theorem tried_next {w t last : Int} {l : List qa} (h1 : -1152921504606846976 ≤ t) (h2 : t ≤ 1152921504606846976) : triedS (s1 w l last) (d1 t) =
 if hd.farS true last w t = true then (⟨110, 0⟩, s1 w l last) else if ∃ q ∈ l, q.T = t then (⟨111, 0⟩, s1 w l last) else (⟨0, 0⟩, s1 w (ins ⟨t, 0⟩ l) (if ¬ last < t then last else t)) := by
 unfold triedS; rw [if_neg (by unfold d1; dsimp only; omega), show idS (s1 w l last).A (d1 t).Labels = some 0 from idS_one]
 by_cases hf : hd.farS true last w t = true
 ·rw [if_pos hf]; exact if_pos hf
 ·rw [if_neg hf, if_neg (show ¬ hd.farS (s1 w l last).any (s1 w l last).last (s1 w l last).w (d1 t).Point.T = true from hf)]; dsimp only
  by_cases he : ∃ q ∈ l, q.T = t
  ·rw [if_pos he, if_pos (show ∃ q ∈ (s1 w l last).P 0, q.T = (d1 t).Point.T from he)]
  ·rw [if_neg he, if_neg (show ¬ ∃ q ∈ (s1 w l last).P 0, q.T = (d1 t).Point.T from he)]; simp only [wr, s1, d1]
   congr 2
   ·funext i
    by_cases hi : i = 0 <;> simp [hi]
   ·simp
theorem len_one {w last : Int} {l : List qa} : lenS (s1 w l last) = l.length := by
 unfold lenS; have h1 := hd.sumR_one 4096 l.length 0; rw [if_pos (by omega)] at h1; refine Eq.trans (hd.sumR_congr fun i _ => ?_) h1; unfold s1; dsimp only
 split <;> rfl
theorem shown_eq : marigraphlaw15_shown = some true := by
 unfold marigraphlaw15_shown; rw [new_eq, if_neg (by omega)]; simp only [Option.bind_some, Option.isNone_some, cond_false, bne_self_eq_false, Sum.elim_inl, one_eq]; have I : ∀ t : Int, -100 < t → t < 100 → hd.I64 (d1 t).Point.T := fun t h1 h2 => ⟨by unfold d1; dsimp only; omega, by unfold d1; dsimp only; omega⟩; obtain ⟨b1, y1, k1, e1, R1⟩ := (ab_new (w := 10) (by omega) (by omega)).done (by omega) (d := d1 5) (by simp [d1]) (I 5 (by omega) (by omega)); rw [do_one, tried_new (by omega) (by omega)] at e1 R1; rw [e1]; simp only [Option.bind_some]; obtain ⟨b2, y2, k2, e2, R2⟩ := R1.done (by omega) (d := d1 30) (by simp [d1]) (I 30 (by omega) (by omega)); rw [do_one, tried_next (by omega) (by omega), if_neg (by simp [hd.farS]), if_neg (by simp)] at e2 R2; rw [e2]; simp only [Option.bind_some, xm]; obtain ⟨b3, k3, e3, R3⟩ := R2.doPack (by omega); rw [e3]; simp only [Option.bind_some]; obtain ⟨b4, y4, k4, e4, R4⟩ := R3.done (by omega) (d := d1 5) (by simp [d1]) (I 5 (by omega) (by omega)); rw [do_one, tried_next (by omega) (by omega), if_pos (by simp [hd.farS])] at e4 R4; rw [e4]; simp only [Option.bind_some]; rw [R4.all (by omega)]; obtain ⟨b5, y5, k5, e5, R5⟩ := R4.done (by omega) (d := ⟨3, [], ⟨20, 0⟩, []⟩) (by simp) ⟨by dsimp only; omega, by dsimp only; omega⟩; rw [e5]
 have hr : rightD ⟨3, [], ⟨20, 0⟩, []⟩ = true := by simp [rightD]
 have hP : ∀ i : Int, (s1 10 (ins ⟨30, 0⟩ [⟨5, 0⟩]) (if ¬ (5 : Int) < 30 then 5 else 30)).P i = if i = 0 then [⟨5, 0⟩, ⟨30, 0⟩] else [] := fun i => by simp [s1, ins]
 have hd1 : (doS (s1 10 (ins ⟨30, 0⟩ [⟨5, 0⟩]) (if ¬ (5 : Int) < 30 then 5 else 30)) ⟨3, [], ⟨20, 0⟩, []⟩).1 = ⟨0, 1⟩ := by
  unfold doS; rw [hr, if_neg (by simp), if_neg (by simp), if_neg (by simp), if_pos rfl, len_one]
  have : lenS (retS (s1 10 (ins ⟨30, 0⟩ [⟨5, 0⟩]) (if ¬ (5 : Int) < 30 then 5 else 30)) 20) = lenS (s1 10 [⟨30, 0⟩] 30) := hd.sumR_congr fun i _ => by
   unfold retS; dsimp only; rw [hP]; unfold s1; dsimp only
   by_cases hi : (i : Int) = 0
   ·rw [if_pos hi, if_pos hi]; rfl
   ·rw [if_neg hi, if_neg hi]; rfl
  rw [this, len_one]
  rfl
 rw [hd1, hP]; simp only [Option.bind_some, if_pos, beq_self_eq_true, Bool.and_self, cond_true]; rw [samePt (by simp)]
 rfl
end Go.Proofs.YtganbpmicmbamaaGreat.bs

namespace Go.Proofs.YtganbpmicmbamaaGreat.bs
open Go Go.Mg
set_option linter.unusedVariables false
set_option linter.unusedSimpArgs false
end Go.Proofs.YtganbpmicmbamaaGreat.bs

namespace Go.Proofs.YtganbpmicmbamaaGreat.bs
open Go Go.Mg
set_option linter.unusedVariables false
set_option linter.unusedSimpArgs false
def Lc (c : Bool) : List qc := [⟨⟨#[97]⟩, ⟨#[if c then 50 else 49]⟩⟩]
def vc (c : Bool) : Int := if c then 1 else 0
def dd (q : Bool × Int) : xo := ⟨1, Lc q.1, ⟨q.2, vc q.1⟩, []⟩
theorem Lc_right (c : Bool) : rightS (Lc c) = true := by cases c <;> exact rightS_one _
theorem Lc_inj {c d : Bool} (h : Lc c = Lc d) : c = d := by
 cases c <;> cases d
 ·rfl
 ·simp [Lc] at h
 ·simp [Lc] at h
 ·rfl
theorem dd_right (q : Bool × Int) : rightD (dd q) = true := by
 unfold rightD; rw [if_pos (show (dd q).Kind = 1 from rfl), show rightS (dd q).Labels = true from Lc_right q.1]; rfl
structure OI (s : St) (xs : List (Bool × Int)) : Prop where
 w : s.w = 1000
 lst : s.any = true → 0 ≤ s.last ∧ s.last < 1000
 lab : ∀ e ∈ s.A, ∃ c, e.2 = Lc c
 has : ∀ c, (∃ id, (id, Lc c) ∈ s.A) ↔ ∃ T, (c, T) ∈ xs
 pts : ∀ c id, (id, Lc c) ∈ s.A → ∀ p, p ∈ s.P id ↔ ∃ T, p = ⟨T, vc c⟩ ∧ (c, T) ∈ xs
 len : ∃ D : List (Bool × Int), D.Nodup ∧ (∀ q, q ∈ D ↔ q ∈ xs) ∧ lenS s = D.length
theorem oi_new : OI (s0 1000) [] :=
 ⟨rfl, fun h => Bool.noConfusion h, fun e he => absurd he List.not_mem_nil, fun c => ⟨fun ⟨id, h⟩ => absurd h List.not_mem_nil, fun ⟨T, h⟩ => absurd h List.not_mem_nil⟩, fun c id h => absurd h List.not_mem_nil, ⟨[], List.nodup_nil, fun q => Iff.rfl, lenS_new _⟩⟩
theorem lenS_wr {s : St} {id : Int} {p : qa} (h0 : 0 ≤ id) (h1 : id < 4096) (hq : ∀ q ∈ s.P id, q.T ≠ p.T) : lenS (wr s id p) = lenS s + 1 := by
 have e1 := hd.sumR_one 4096 1 id; rw [if_pos (by omega)] at e1; unfold lenS; rw [← e1, ← hd.sumR_add]; refine hd.sumR_congr fun i _ => ?_; unfold wr; dsimp only
 by_cases hi : (i : Int) = id
 ·rw [if_pos hi, if_pos hi, hi, (ins_perm hq).length_eq]; rfl
 ·rw [if_neg hi, if_neg hi]; rfl
theorem OI.step {s : St} {xs : List (Bool × Int)} {b : base_Base} {x : qh} {h : qq} {n : Nat} (R : Ab b x h s n) (O : OI s xs) {q : Bool × Int} (h0 : 0 ≤ q.2) (h1 : q.2 < 1000) (hn : n < 190) : OI (doS s (dd q)).2 (xs ++ [q]) := by
 obtain ⟨c, T⟩ := q; dsimp only at h0 h1
 have hdo : doS s (dd (c, T)) = triedS s (dd (c, T)) := by
  unfold doS; rw [dd_right, if_neg (by simp), if_pos (show (dd (c, T)).Kind = 1 from rfl)]
 have hfar : ¬ hd.farS s.any s.last s.w T = true := by
  unfold hd.farS; rw [O.w]; intro hf; simp only [Bool.and_eq_true, decide_eq_true_eq] at hf; have := O.lst hf.1
  omega
 have hlast : (0 : Int) ≤ (if s.any = true ∧ ¬ s.last < T then s.last else T) ∧ (if s.any = true ∧ ¬ s.last < T then s.last else T) < 1000 := by
  split
  ·rename_i hh; exact O.lst hh.1
  ·omega
 obtain ⟨D, hD1, hD2, hD3⟩ := O.len; rw [hdo]; unfold triedS; rw [if_neg (by show ¬ (T < _ ∨ _ < T); omega), if_neg (show ¬ hd.farS s.any s.last s.w (dd (c, T)).Point.T = true from hfar)]
 have hmem : ∀ z, z ∈ xs ++ [(c, T)] ↔ z ∈ xs ∨ z = (c, T) := fun z => by simp
 cases hq : idS s.A (dd (c, T)).Labels with
 | some id =>
  have hm : (id, Lc c) ∈ s.A := idS_some hq; have hrg := R.X.rng _ hm; have hg0 := R.X.g0; dsimp only at hrg ⊢
  by_cases he : ∃ q ∈ s.P id, q.T = (dd (c, T)).Point.T
  ·rw [if_pos he]; obtain ⟨p, hp, hpT⟩ := he; obtain ⟨T', rfl, hT'⟩ := (O.pts c id hm p).1 hp; have : T' = T := hpT; subst this
   have hsame : ∀ z, z ∈ xs ++ [(c, T')] ↔ z ∈ xs := fun z => by
    rw [hmem]; exact ⟨fun h => h.elim (fun x => x) fun e => e ▸ hT', .inl⟩
   exact ⟨O.w, O.lst, O.lab, fun d => by simp only [hsame]; exact O.has d, fun d i hi p => by simp only [hsame]; exact O.pts d i hi p, D, hD1, fun z => by rw [hsame]; exact hD2 z, hD3⟩
  ·rw [if_neg he]; have hne : ∀ q ∈ s.P id, q.T ≠ T := fun q hq2 e => he ⟨q, hq2, e⟩; have hnot : (c, T) ∉ xs := fun hx => hne ⟨T, vc c⟩ ((O.pts c id hm _).2 ⟨T, rfl, hx⟩) rfl; refine ⟨O.w, fun _ => hlast, O.lab, fun d => ?_, fun d i hi p => ?_, (c, T) :: D, ?_, fun z => ?_, ?_⟩
   ·rw [show (wr s id (dd (c, T)).Point).A = s.A from rfl, O.has d]
    constructor
    ·rintro ⟨T', hT'⟩; exact ⟨T', (hmem _).2 (.inl hT')⟩
    ·rintro ⟨T', hT'⟩; rcases (hmem _).1 hT' with h | h
     ·exact ⟨T', h⟩
     ·obtain ⟨rfl, rfl⟩ := Prod.mk.inj h; exact (O.has d).1 ⟨id, hm⟩
   ·have hi2 : (i, Lc d) ∈ s.A := hi
    show p ∈ (if i = id then ins (dd (c, T)).Point (s.P i) else s.P i) ↔ _
    by_cases hii : i = id
    ·subst hii; rw [if_pos rfl]
     have hcd : d = c := by
      have h1 := (get_mem R.X.rise).2 hi2; have h2 := (get_mem R.X.rise).2 hm; rw [h1] at h2; exact Lc_inj (Option.some.inj h2)
     subst hcd; rw [(ins_perm (p := (dd (d, T)).Point) hne).mem_iff, List.mem_cons, O.pts d i hi2 p]
     constructor
     ·rintro (rfl | ⟨T', rfl, hT'⟩)
      ·exact ⟨T, rfl, (hmem _).2 (.inr rfl)⟩
      ·exact ⟨T', rfl, (hmem _).2 (.inl hT')⟩
     ·rintro ⟨T', rfl, hT'⟩; rcases (hmem _).1 hT' with h | h
      ·exact .inr ⟨T', rfl, h⟩
      ·obtain ⟨_, rfl⟩ := Prod.mk.inj h; exact .inl rfl
    ·rw [if_neg hii, O.pts d i hi2 p]
     constructor
     ·rintro ⟨T', rfl, hT'⟩; exact ⟨T', rfl, (hmem _).2 (.inl hT')⟩
     ·rintro ⟨T', rfl, hT'⟩; rcases (hmem _).1 hT' with h | h
      ·exact ⟨T', rfl, h⟩
      ·obtain ⟨rfl, rfl⟩ := Prod.mk.inj h; exact absurd (R.X.id_uniq hi2 hm) hii
   ·exact List.nodup_cons.2 ⟨fun hx => hnot ((hD2 _).1 hx), hD1⟩
   ·rw [List.mem_cons, hD2, hmem]; exact ⟨fun h => h.elim .inr .inl, fun h => h.elim .inr .inl⟩
   ·rw [lenS_wr hrg.1 (by omega) hne, hD3]; rfl
 | none =>
  have hno := idS_none hq
  have hnox : ∀ T', (c, T') ∉ xs := fun T' hx => by
   obtain ⟨id, hid⟩ := (O.has c).2 ⟨T', hx⟩; exact hno _ hid rfl
  have hg := R.g; have hg0 := R.X.g0; have hg3 := R.n3
  have hemp : s.P s.g = [] := Classical.byContradiction fun e => by have := R.ids _ e; omega
  have hng : ∀ e ∈ s.A, e.1 ≠ s.g := fun e he => by have := R.X.rng e he; omega
  dsimp only
  have hA : ∀ z : Int × List qc, z ∈ s.A ++ [(s.g, Lc c)] ↔ z ∈ s.A ∨ z = (s.g, Lc c) := fun z => by simp
  refine ⟨O.w, fun _ => hlast, fun e he => ?_, fun d => ?_, fun d i hi p => ?_, (c, T) :: D, ?_, fun z => ?_, ?_⟩
  ·rcases (hA e).1 he with h | rfl
   ·exact O.lab e h
   ·exact ⟨c, rfl⟩
  ·constructor
   ·rintro ⟨i, hi⟩; rcases (hA _).1 hi with h | h
    ·obtain ⟨T', hT'⟩ := (O.has d).1 ⟨i, h⟩; exact ⟨T', (hmem _).2 (.inl hT')⟩
    ·obtain ⟨_, h2⟩ := Prod.mk.inj h; rw [Lc_inj h2]; exact ⟨T, (hmem _).2 (.inr rfl)⟩
   ·rintro ⟨T', hT'⟩; rcases (hmem _).1 hT' with h | h
    ·obtain ⟨i, hi⟩ := (O.has d).2 ⟨T', h⟩; exact ⟨i, (hA _).2 (.inl hi)⟩
    ·obtain ⟨rfl, _⟩ := Prod.mk.inj h; exact ⟨s.g, (hA _).2 (.inr rfl)⟩
  ·show p ∈ (if i = s.g then ins (dd (c, T)).Point (s.P i) else s.P i) ↔ _
   rcases (hA _).1 hi with h | h
   ·have hii : i ≠ s.g := hng _ h; rw [if_neg hii, O.pts d i h p]
    constructor
    ·rintro ⟨T', rfl, hT'⟩; exact ⟨T', rfl, (hmem _).2 (.inl hT')⟩
    ·rintro ⟨T', rfl, hT'⟩; rcases (hmem _).1 hT' with h2 | h2
     ·exact ⟨T', rfl, h2⟩
     ·obtain ⟨rfl, rfl⟩ := Prod.mk.inj h2; exact absurd rfl (hno _ h)
   ·obtain ⟨rfl, h2⟩ := Prod.mk.inj h; obtain rfl := Lc_inj h2; rw [if_pos rfl, hemp]
    constructor
    ·intro hp
     obtain rfl : p = (dd (d, T)).Point := by simpa [ins] using hp
     exact ⟨T, rfl, (hmem _).2 (.inr rfl)⟩
    ·rintro ⟨T', rfl, hT'⟩; rcases (hmem _).1 hT' with h2 | h2
     ·exact absurd h2 (hnox T')
     ·obtain ⟨_, rfl⟩ := Prod.mk.inj h2
      show _ ∈ ins _ []
      simp [ins, dd]
  ·exact List.nodup_cons.2 ⟨fun hx => hnox T ((hD2 _).1 hx), hD1⟩
  ·rw [List.mem_cons, hD2, hmem]; exact ⟨fun h => h.elim .inr .inl, fun h => h.elim .inr .inl⟩
  ·have := lenS_wr (s := { s with A := s.A ++ [(s.g, (dd (c, T)).Labels)], g := s.g + 1 }) (id := s.g) (p := (dd (c, T)).Point) (by omega) (by omega) (fun q hq2 => by
    have hq3 : q ∈ s.P s.g := hq2
    rw [hemp] at hq3; cases hq3)
   rw [this, show lenS { s with A := s.A ++ [(s.g, (dd (c, T)).Labels)], g := s.g + 1 } = lenS s from rfl, hD3]; rfl
def askc (c : Bool) : List xk := [⟨1, ⟨#[97]⟩, ⟨#[if c then 50 else 49]⟩⟩]
theorem ask_right (c : Bool) : rightA (askc c) = true := by
 cases c <;> (unfold rightA askc; simp [mayS]; decide)
theorem ask_one (c d : Bool) : allS (askc c) (Lc d) = decide (Lc d = Lc c) := by
 cases c <;> cases d <;> simp [allS, askc, oneS, getS, Lc]
theorem filter_idS {A : Ser} {l : List qc} (hu : A.Pairwise fun a b => a.2 ≠ b.2) : (A.filter fun e => decide (e.2 = l)).map (·.1) = (match idS A l with | none => [] | some id => [id]) := by
 induction A with
 | nil => rfl
 | cons e A ih =>
  rw [List.pairwise_cons] at hu; unfold idS; rw [List.filter_cons, List.find?_cons]
  by_cases h : e.2 = l
  ·rw [if_pos (decide_eq_true h), decide_eq_true h]; have : (A.filter fun e => decide (e.2 = l)) = [] := List.filter_eq_nil_iff.2 fun z hz hzl => hu.1 z hz (by rw [h, of_decide_eq_true hzl]); rw [this]; rfl
  ·rw [if_neg (by simpa using h), decide_eq_false h]; exact ih hu.2
theorem OI.found {s : St} {xs : List (Bool × Int)} {b : base_Base} {x : qh} {h : qq} {n : Nat} (R : Ab b x h s n) (O : OI s xs) (c : Bool) :
 base_Base_Find (some b) (askc c) = some ((match idS s.A (Lc c) with | none => [] | some id => [id]), 0) := by
 unfold base_Base_Find; simp only [Option.isNone_some, cond_false, Option.bind_some]; rw [R.ix, find_eq R.X, if_pos (ask_right c), ← filter_idS R.X.uniq]
 have : idsOf (allS (askc c)) s.A = (s.A.filter fun e => decide (e.2 = Lc c)).map (·.1) := by
  unfold idsOf
  congr 1
  refine List.filter_congr fun e he => ?_; obtain ⟨d, hd⟩ := O.lab e he; rw [hd, ask_one]
 rw [this]
 rfl
theorem rp_ext {a b : List qa} (ha : RP a) (hb : RP b) (h : ∀ p, p ∈ a ↔ p ∈ b) : a = b := by
 refine rp_perm ha hb ((List.perm_ext_iff_of_nodup ?_ ?_).2 h)
 ·exact ha.imp fun h e => by rw [e] at h; omega
 ·exact hb.imp fun h e => by rw [e] at h; omega
theorem run_ok {xs : List (Bool × Int)} (hx : ∀ q ∈ xs, 0 ≤ q.2 ∧ q.2 < 1000) (hl : xs.length ≤ 100) {step : Int × (Option base_Base) → Option ((Int × (Option base_Base)) ⊕ (Option base_Base))} {l : List xo} (hm : l = xs.map dd)
 (hs : ∀ (i : Int) (b : Option base_Base), step (i, b) = (bif (decide (i < (l.length : Int))) then ((at_ l i).bind fun y266 => (pur y266 fun y283 => ((base_Base_Do b y283).bind fun y296 => (pur (IntKind.i64.wrap (i + (1 : Int))) fun y311 => some (.inl (y311, y296.2)))))) else some (.inr b))) :
 ∃ b x h s, iter step ((0 : Int), some (b0 1000)) = some (some b) ∧ Ab b x h s xs.length ∧ OI s xs := by
 subst hm
 obtain ⟨q, e1, b, rfl, x, h, s, R, O⟩ := iter_inv (step := step) (fun (s : base_Base) i => (i, some s)) xs (fun b i => ∃ x h s, Ab b x h s i ∧ OI s (xs.take i)) (fun q => ∃ b, q = some b ∧ ∃ x h s, Ab b x h s xs.length ∧ OI s xs) (by
  rintro b i q hq ⟨x, h, s, R, O⟩
  left
  have hi := lt_of_get hq; obtain ⟨h0, h1⟩ := hx q (List.mem_of_getElem? hq)
  have hg : (xs.map dd)[i]? = some (dd q) := by rw [List.getElem?_map, hq]; rfl
  have hll : (dd q).Labels.length < 1000000 := by show (1 : Nat) < _; omega
  obtain ⟨b2, x2, h2, e2, R2⟩ := R.done (by omega) (d := dd q) hll ⟨by show _ ≤ q.2; omega, by show q.2 ≤ _; omega⟩; have O2 := O.step R h0 h1 (by omega); refine ⟨b2, ?_, x2, h2, _, R2, ?_⟩
  ·rw [hs, decide_eq_true (by rw [List.length_map]; omega), cond_true, at_nat hg, Option.bind_some, xm, e2, Option.bind_some, xm, xy (by omega) (by omega)]
   rfl
  ·rw [List.take_add_one, hq]
   exact O2) (by
  rintro b ⟨x, h, s, R, O⟩; rw [List.take_length] at O; refine ⟨some b, ?_, b, rfl, x, h, s, R, O⟩
  rw [hs, decide_eq_false (by rw [List.length_map]; omega)]; rfl) (b0 1000) ⟨x0, h0 1000, s0 1000, ab_new (by omega) (by omega), oi_new⟩
 exact ⟨b, x, h, s, e1, R, O⟩
theorem order_ok {l : List qa} {k : Int} (hl : l.length ≤ lim) (hk : 0 ≤ k) (hk2 : k < 256) : marigraphlaw15_BaseOrder l k = some true := by
 unfold marigraphlaw15_BaseOrder; rw [shown_eq, new_eq, if_neg (by omega)]; simp only [Option.bind_some, Option.isNone_some, cond_false, Sum.elim_inl]; unfold lim at hl
 obtain ⟨q, e1, xs, rfl, hx1, hx2⟩ := iter_inv (step := fun s : (List xo) × Int => marigraphlaw15_BaseOrder.b4 l s.1 s.2) (fun (s : List (Bool × Int)) i => (s.map dd, i)) l
  (fun xs i => xs.length ≤ i ∧ xs.length ≤ 100 ∧ ∀ q ∈ xs, 0 ≤ q.2 ∧ q.2 < 1000) (fun q => ∃ xs : List (Bool × Int), q = xs.map dd ∧ xs.length ≤ 100 ∧ ∀ q ∈ xs, 0 ≤ q.2 ∧ q.2 < 1000) (by
  rintro xs i p hp ⟨h1, h2, h3⟩
  left
  have hi := lt_of_get hp; unfold marigraphlaw15_BaseOrder.b4; dsimp only; rw [decide_eq_true (by omega : (i : Int) < l.length), cond_true, at_nat hp, Option.bind_some, xm]
  by_cases h100 : (i : Int) < 100
  ·have hr1 : -1000 < Int.tmod p.T 1000 ∧ Int.tmod p.T 1000 < 1000 := by
    have := Int.natAbs_tmod p.T 1000; have h2 : Int.natAbs p.T % Int.natAbs 1000 < 1000 := Nat.mod_lt _ (by decide)
    omega
   have hr2 : 0 ≤ Int.tmod (Int.tmod p.T 1000 + 1000) 1000 ∧ Int.tmod (Int.tmod p.T 1000 + 1000) 1000 < 1000 := ⟨Int.tmod_nonneg _ (by omega), Int.tmod_lt_of_pos _ (by omega)⟩; rw [decide_eq_true h100, cond_true]; simp only [xm]; rw [xy (x := Int.tmod p.T 1000 + 1000) (by omega) (by omega)]
   generalize Int.tmod (Int.tmod p.T 1000 + 1000) 1000 = T at hr2
   obtain ⟨c, hc⟩ : ∃ c : Bool, Int.tmod (i : Int) 2 = vc c ∧ at_ ([(ByteArray.mk #[49]), (ByteArray.mk #[50])] : List ByteArray) (Int.tmod (i : Int) 2) = some ⟨#[if c then 50 else 49]⟩ := by
    have e : Int.tmod (i : Int) 2 = ((i % 2 : Nat) : Int) := (Int.ofNat_tmod i 2).symm; rw [e]; rcases Nat.mod_two_eq_zero_or_one i with h | h
    ·exact ⟨false, by rw [h]; rfl, by rw [h]; rfl⟩
    ·exact ⟨true, by rw [h]; rfl, by rw [h]; rfl⟩
   refine ⟨xs ++ [(c, T)], ?_, by simp; omega, by simp; omega, fun z hz => ?_⟩
   ·rw [one_eq, Option.bind_some, hc.2, Option.bind_some, hc.1]; rw [show at_ (d1 T).Labels (0 : Int) = some ⟨⟨#[97]⟩, ⟨#[49]⟩⟩ from rfl, Option.bind_some, app_ok (by simp only [List.length_singleton, List.length_map]; unfold lim; omega)]; simp only [Option.bind_some]; rw [xy (by omega) (by omega), List.map_append]
    rfl
   ·rcases List.mem_append.1 hz with h | h
    ·exact h3 z h
    ·rw [List.mem_singleton.1 h]; exact hr2
  ·refine ⟨xs, ?_, by omega, h2, h3⟩; rw [decide_eq_false h100, cond_false]; simp only [Option.bind_some, xm]; rw [xy (by omega) (by omega)]
   rfl) (by
  rintro xs ⟨h1, h2, h3⟩; refine ⟨_, ?_, xs, rfl, h2, h3⟩; unfold marigraphlaw15_BaseOrder.b4; dsimp only
  rw [decide_eq_false (by omega)]; rfl) [] ⟨Nat.le_refl _, Nat.zero_le _, fun q hq => absurd hq List.not_mem_nil⟩
 rw [show iter (fun s : (List xo) × Int => marigraphlaw15_BaseOrder.b4 l s.1 s.2) (([] : List xo), (0 : Int)) = _ from e1, Option.bind_some]; simp only [xm]; rw [xy (x := k) (by omega) (by omega), List.length_map, xy (x := (xs.length : Int) + 1) (by omega) (by omega)]; have hm : 0 ≤ Int.tmod k ((xs.length : Int) + 1) ∧ Int.tmod k ((xs.length : Int) + 1) < (xs.length : Int) + 1 := ⟨Int.tmod_nonneg _ hk, Int.tmod_lt_of_pos _ (by omega)⟩
 have hnz : ∀ y : Int, nz_ ((xs.length : Int) + 1) y = some y := fun y => by unfold nz_; rw [if_neg (by omega)]
 rw [hnz, Option.bind_some]; obtain ⟨m, hmm⟩ : ∃ m : Nat, Int.tmod k ((xs.length : Int) + 1) = (m : Int) := ⟨_, (Int.toNat_of_nonneg hm.1).symm⟩; rw [hmm] at hm ⊢; obtain ⟨a, xa, ha, sa, e2, Ra, Oa⟩ := run_ok hx2 hx1 (step := fun s : Int × (Option base_Base) => marigraphlaw15_BaseOrder.b7 (xs.map dd) s.1 s.2) (l := xs.map dd) rfl (fun i b => rfl); rw [e2, Option.bind_some, from_nat (by rw [List.length_map]; omega), Option.bind_some, upto_nat (by rw [List.length_map]; omega), Option.bind_some]; obtain ⟨ys, hys⟩ : ∃ ys, ys = xs.drop m ++ xs.take m := ⟨_, rfl⟩
 have hmem : ∀ q, q ∈ ys ↔ q ∈ xs := fun q => by
  rw [hys, List.mem_append]
  conv => rhs; rw [← List.take_append_drop m xs, List.mem_append]
  exact Or.comm
 have hyl : ys.length ≤ 100 := by rw [hys, List.length_append, List.length_drop, List.length_take]; omega
 rw [app_ok (by simp only [List.length_nil, List.length_drop, List.length_map]; unfold lim; omega), Option.bind_some, List.nil_append, app_ok (by simp only [List.length_drop, List.length_take, List.length_map]; unfold lim; omega), Option.bind_some]; rw [show (xs.map dd).drop m ++ (xs.map dd).take m = ys.map dd by rw [hys, List.map_append, List.map_drop, List.map_take]]; obtain ⟨b, xb, hb, sb, e3, Rb, Ob⟩ := run_ok (fun q hq => hx2 q ((hmem q).1 hq)) hyl (step := fun s : Int × (Option base_Base) => marigraphlaw15_BaseOrder.b9 (ys.map dd) s.1 s.2) (l := ys.map dd) rfl (fun i b => rfl); rw [e3, Option.bind_some]
 have key : ∀ c : Bool, (idS sa.A (Lc c) = none ∧ idS sb.A (Lc c) = none) ∨ ∃ i j, idS sa.A (Lc c) = some i ∧ idS sb.A (Lc c) = some j ∧ sa.P i = sb.P j := fun c => by
  have hh : (∃ id, (id, Lc c) ∈ sa.A) ↔ ∃ id, (id, Lc c) ∈ sb.A := by rw [Oa.has, Ob.has]; simp only [hmem]
  cases h1 : idS sa.A (Lc c) with
  | none =>
   left
   refine ⟨rfl, ?_⟩; cases h2 : idS sb.A (Lc c) with
   | none => rfl
   | some j =>
    obtain ⟨i, hi⟩ := hh.2 ⟨j, idS_some h2⟩; exact absurd rfl (idS_none h1 _ hi)
  | some i =>
   right
   cases h2 : idS sb.A (Lc c) with
   | none =>
    obtain ⟨j, hj⟩ := hh.1 ⟨i, idS_some h1⟩; exact absurd rfl (idS_none h2 _ hj)
   | some j =>
    refine ⟨i, j, rfl, rfl, rp_ext (Ra.rp i) (Rb.rp j) fun p => ?_⟩; rw [Oa.pts c i (idS_some h1) p, Ob.pts c j (idS_some h2) p]; simp only [hmem]
 have hlen : lenS sa = lenS sb := by
  obtain ⟨D, d1, d2, d3⟩ := Oa.len; obtain ⟨E, f1, f2, f3⟩ := Ob.len; rw [d3, f3]; exact ((List.perm_ext_iff_of_nodup d1 f1).2 fun q => by rw [d2, f2, hmem]).length_eq
 have round : ∀ c : Bool, ∀ i : Int, i = vc c → marigraphlaw15_BaseOrder.b11 (some a) (some b) i = some (.inl (i + 1)) := fun c i hi => by
  unfold marigraphlaw15_BaseOrder.b11
  have hat : at_ ([(ByteArray.mk #[49]), (ByteArray.mk #[50])] : List ByteArray) i = some ⟨#[if c then 50 else 49]⟩ := by rw [hi]; cases c <;> rfl
  have hlt : decide (i < (([(ByteArray.mk #[49]), (ByteArray.mk #[50])] : List ByteArray).length : Int)) = true := by rw [hi]; cases c <;> rfl
  have hw : IntKind.i64.wrap (i + 1) = i + 1 := by rw [hi]; cases c <;> rfl
  rw [hlt, cond_true, hat, Option.bind_some]; rw [show ([(xk.mk (1 : Int) (ByteArray.mk #[97]) ⟨#[if c then 50 else 49]⟩)] : List xk) = askc c from rfl, Oa.found Ra c, Option.bind_some, Ob.found Rb c, Option.bind_some]; rcases key c with ⟨k1, k2⟩ | ⟨i', j', k1, k2, k3⟩
  ·rw [k1, k2]; simp only [bne_self_eq_false, cond_false, Option.bind_some, Sum.elim_inl, List.length_nil]; rw [xm, hw]
   rfl
  ·rw [k1, k2]; simp only [bne_self_eq_false, cond_false, Option.bind_some, Sum.elim_inl, List.length_singleton, at_cons0]; rw [Ra.all (by omega), Rb.all (by omega), ← k3]; simp only [Option.bind_some]; rw [samePt (by have := Ra.plen (by omega) i'; omega)]; rw [xm, hw]
   rfl
 have e4 : iter (fun s : Int => marigraphlaw15_BaseOrder.b11 (some a) (some b) s) (0 : Int) = some (.inl ()) := by
  rw [iter_next (s' := (1 : Int)) (round false 0 rfl), iter_next (s' := (2 : Int)) (round true 1 rfl), iter_end (r := .inl ())]
  rfl
 rw [e4, Option.bind_some, Sum.elim_inl, Ra.lenE (by omega), Rb.lenE (by omega), hlen]
 generalize (lenS sb : Int) = z
 rw [Option.bind_some, Option.bind_some, beq_self_eq_true]
 rfl
theorem baseOrder_ok {R : qa → Prop} {a0 : List qa} {a1 : Int} (h : OkL R a0) (h2 : OkI .u8 a1) : marigraphlaw15_BaseOrder a0 a1 = some true := by
 have h2 := h2; simp only [OkI, Lit.wf, Bool.and_eq_true, decide_eq_true_eq] at h2; have h3 : 0 ≤ a1 ∧ a1 ≤ 255 := h2; exact order_ok h.1 h3.1 (by omega)
end Go.Proofs.YtganbpmicmbamaaGreat.bs
