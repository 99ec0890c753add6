/- Plain laws: loops over lists, rising lists. -/
import Derived.Test.YtbkkobbjmhgkjaaDoorMgH
import Derived.Lib.SlicesCompact
namespace Go.Mg
open Go

theorem wrap64 {x : Int} (h1 : -9223372036854775808 ≤ x) (h2 : x ≤ 9223372036854775807) : IntKind.i64.wrap x = x := by
  simp only [IntKind.wrap, IntKind.signed, IntKind.bits]
  first | (simp; omega) | omega
theorem wrapu64 {x : Int} (h1 : 0 ≤ x) (h2 : x ≤ 18446744073709551615) : IntKind.u64.wrap x = x := by
  simp only [IntKind.wrap, IntKind.signed, IntKind.bits]
  first | (simp; omega) | omega

/-- A loop over a list: state, place, element. -/
def foldI {α σ τ : Type} (f : σ → Nat → α → Option (σ ⊕ τ)) (e : σ → τ) : σ → Nat → List α → Option τ
  | s, _, [] => some (e s)
  | s, i, x :: xs => (f s i x).bind fun o => match o with | .inl s' => foldI f e s' (i + 1) xs | .inr r => some r

theorem iter_list {α σ τ Sg : Type} {step : Sg → Option (Sg ⊕ τ)} (mk : σ → Int → Sg) (xs : List α) (f : σ → Nat → α → Option (σ ⊕ τ)) (e : σ → τ)
    (hs : ∀ (s : σ) (i : Nat) (x : α), xs[i]? = some x → step (mk s (i : Int)) = (f s i x).map fun o => match o with | .inl s' => .inl (mk s' ((i + 1 : Nat) : Int)) | .inr r => .inr r)
    (he : ∀ s, step (mk s (xs.length : Int)) = some (.inr (e s))) (s : σ) : iter step (mk s 0) = foldI f e s 0 xs := by
  suffices H : ∀ n i s, i + n = xs.length → iter step (mk s (i : Int)) = foldI f e s i (xs.drop i) by
    have := H xs.length 0 s (by omega)
    simpa using this
  intro n
  induction n with
  | zero =>
    intro i s hi
    have : i = xs.length := by omega
    subst this
    rw [iter_end (he s), List.drop_length]
    rfl
  | succ n ih =>
    intro i s hi
    have hl : i < xs.length := by omega
    have hx := List.getElem?_eq_getElem hl
    rw [List.drop_eq_getElem_cons hl, iter_unfold, hs s i _ hx]
    unfold foldI
    cases hf : f s i xs[i] with
    | none => rfl
    | some o =>
      cases o with
      | inl s' => simpa using ih (i + 1) s' (by omega)
      | inr r => rfl

/-- A loop over a list with an invariant; it may end early. -/
theorem iter_inv {α σ τ Sg : Type} {step : Sg → Option (Sg ⊕ τ)} (mk : σ → Int → Sg) (xs : List α) (I : σ → Nat → Prop) (R : τ → Prop)
    (hs : ∀ (s : σ) (i : Nat) (x : α), xs[i]? = some x → I s i → (∃ s', step (mk s (i : Int)) = some (.inl (mk s' ((i + 1 : Nat) : Int))) ∧ I s' (i + 1)) ∨ ∃ r, step (mk s (i : Int)) = some (.inr r) ∧ R r)
    (he : ∀ s, I s xs.length → ∃ r, step (mk s (xs.length : Int)) = some (.inr r) ∧ R r) (s : σ) (h0 : I s 0) : ∃ r, iter step (mk s 0) = some r ∧ R r := by
  suffices H : ∀ n i s, i + n = xs.length → I s i → ∃ r, iter step (mk s (i : Int)) = some r ∧ R r from H xs.length 0 s (by omega) h0
  intro n
  induction n with
  | zero =>
    intro i s hi hI
    have : i = xs.length := by omega
    subst this
    obtain ⟨r, h1, h2⟩ := he s hI
    exact ⟨r, iter_end h1, h2⟩
  | succ n ih =>
    intro i s hi hI
    have hl : i < xs.length := by omega
    rcases hs s i _ (List.getElem?_eq_getElem hl) hI with ⟨s', h1, h2⟩ | ⟨r, h1, h2⟩
    · rw [iter_next h1]
      exact ih (i + 1) s' (by omega) h2
    · exact ⟨r, iter_end h1, h2⟩

/-- Binary search. -/
theorem iter_search {step : Int × Int → Option ((Int × Int) ⊕ Int)} (l : List Int) (n : Int) (hl : l.Pairwise (· < ·))
    (hs : ∀ lo hi : Nat, lo < hi → hi ≤ l.length → ∀ x, l[(lo + hi) / 2]? = some x → step ((lo : Int), (hi : Int)) = some (.inl (if x < n then ((((lo + hi) / 2 + 1 : Nat) : Int), (hi : Int)) else ((lo : Int), (((lo + hi) / 2 : Nat) : Int)))))
    (he : ∀ lo : Nat, step ((lo : Int), (lo : Int)) = some (.inr (lo : Int))) :
    ∃ k : Nat, k ≤ l.length ∧ iter step (0, (l.length : Int)) = some (k : Int) ∧ (∀ j x, j < k → l[j]? = some x → x < n) ∧ ∀ j x, k ≤ j → l[j]? = some x → n ≤ x := by
  suffices H : ∀ m lo hi : Nat, hi - lo = m → lo ≤ hi → hi ≤ l.length → (∀ j x, j < lo → l[j]? = some x → x < n) → (∀ j x, hi ≤ j → l[j]? = some x → n ≤ x) →
      ∃ k : Nat, k ≤ l.length ∧ iter step ((lo : Int), (hi : Int)) = some (k : Int) ∧ (∀ j x, j < k → l[j]? = some x → x < n) ∧ ∀ j x, k ≤ j → l[j]? = some x → n ≤ x from
    H _ 0 l.length rfl (Nat.zero_le _) (Nat.le_refl _) (fun j x h => absurd h (Nat.not_lt_zero _)) (fun j x h hx => absurd (List.getElem?_eq_some_iff.1 hx).1 (by omega))
  intro m
  induction m using Nat.strongRecOn with
  | _ m ih =>
    intro lo hi hm hle hhi hA hB
    by_cases hlt : lo < hi
    · have hc : (lo + hi) / 2 < l.length := by omega
      have hx := List.getElem?_eq_getElem hc
      have hp := List.pairwise_iff_getElem.1 hl
      have hstep := hs lo hi hlt hhi _ hx
      by_cases hxn : l[(lo + hi) / 2] < n
      · rw [if_pos hxn] at hstep
        rw [iter_next hstep]
        refine ih (hi - ((lo + hi) / 2 + 1)) (by omega) ((lo + hi) / 2 + 1) hi rfl (by omega) hhi (fun j x hj hjx => ?_) hB
        obtain ⟨hjl, rfl⟩ := List.getElem?_eq_some_iff.1 hjx
        by_cases hq : j = (lo + hi) / 2
        · subst hq; exact hxn
        · have := hp j ((lo + hi) / 2) hjl hc (by omega); omega
      · rw [if_neg hxn] at hstep
        rw [iter_next hstep]
        refine ih ((lo + hi) / 2 - lo) (by omega) lo ((lo + hi) / 2) rfl (by omega) (by omega) hA fun j x hj hjx => ?_
        obtain ⟨hjl, rfl⟩ := List.getElem?_eq_some_iff.1 hjx
        by_cases hq : j = (lo + hi) / 2
        · subst hq; omega
        · have := hp ((lo + hi) / 2) j hc hjl (by omega); omega
    · obtain rfl : lo = hi := by omega
      exact ⟨lo, hhi, iter_end (he lo), hA, hB⟩

theorem at_nat {α : Type} {xs : List α} {i : Nat} {x : α} (h : xs[i]? = some x) : at_ xs (i : Int) = some x := by simp [at_, h]
theorem at_cons0 {α : Type} (x : α) (xs : List α) : at_ (x :: xs) 0 = some x := by simp [at_]
theorem from_cons1 {α : Type} (x : α) (xs : List α) : from_ (x :: xs) 1 = some xs := by
  unfold from_
  rw [if_pos ⟨by decide, by simp; omega⟩]
  rfl
theorem upto_nat {α : Type} {xs : List α} {i : Nat} (h : i ≤ xs.length) : upto_ xs (i : Int) = some (xs.take i) := by simp [upto_, h]
theorem from_nat {α : Type} {xs : List α} {i : Nat} (h : i ≤ xs.length) : from_ xs (i : Int) = some (xs.drop i) := by simp [from_, h]
theorem app_ok {α : Type} {n : Nat} {xs ys : List α} (h : (xs.length + ys.length) * n ≤ lim) : app_ n xs ys = some (xs ++ ys) := by simp [app_, h]
theorem pur_eq {α β : Type} (a : α) (f : α → Option β) : pur a f = f a := rfl
theorem lt_of_get {α : Type} {xs : List α} {i : Nat} {x : α} (h : xs[i]? = some x) : i < xs.length := (List.getElem?_eq_some_iff.1 h).1

/-! ### Rising lists -/

abbrev SR (l : List Int) : Prop := l.Pairwise (· < ·)

theorem SR.ext : ∀ {a b : List Int}, SR a → SR b → (∀ x, x ∈ a ↔ x ∈ b) → a = b := by
  intro a
  induction a with
  | nil => intro b _ _ h; cases b with
    | nil => rfl
    | cons y b => exact absurd ((h y).2 (by simp)) (by simp)
  | cons x a ih =>
    intro b ha hb h
    cases b with
    | nil => exact absurd ((h x).1 (by simp)) (by simp)
    | cons y b =>
      have ha' := List.pairwise_cons.1 ha
      have hb' := List.pairwise_cons.1 hb
      have hxy : x = y := by
        have h1 := (h x).1 (by simp)
        have h2 := (h y).2 (by simp)
        simp only [List.mem_cons] at h1 h2
        rcases h1 with h1 | h1
        · exact h1
        · rcases h2 with h2 | h2
          · exact h2.symm
          · have := hb'.1 x h1; have := ha'.1 y h2; omega
      subst hxy
      congr 1
      refine ih ha'.2 hb'.2 fun z => ?_
      have := h z
      simp only [List.mem_cons] at this
      constructor
      · intro hz
        rcases this.1 (.inr hz) with h1 | h1
        · have := ha'.1 z hz; omega
        · exact h1
      · intro hz
        rcases this.2 (.inr hz) with h1 | h1
        · have := hb'.1 z hz; omega
        · exact h1

theorem SR.append {a b : List Int} (ha : SR a) (hb : SR b) (h : ∀ x ∈ a, ∀ y ∈ b, x < y) : SR (a ++ b) := List.pairwise_append.2 ⟨ha, hb, h⟩

theorem SR.nodup {a : List Int} (h : SR a) : a.Nodup := List.Pairwise.imp (fun h => by omega) h

theorem SR.filter {a : List Int} (p : Int → Bool) (h : SR a) : SR (a.filter p) := List.Pairwise.filter _ h

theorem SR.le_length {a b : List Int} (ha : SR a) (hab : ∀ x ∈ a, x ∈ b) : a.length ≤ b.length :=
  ha.nodup.length_le_of_subset hab

/-! ### Sort, then compact -/
theorem compact_cons (zs : List Int) : (∀ x, x ∈ Lib.compact zs ↔ x ∈ zs) ∧ (zs.Pairwise (· ≤ ·) → SR (Lib.compact zs)) ∧ (Lib.compact zs).length ≤ zs.length := by
  suffices H : ∀ m, m ≤ zs.length → (∀ x, x ∈ Lib.compactUpTo zs.toArray m ↔ x ∈ zs.take m) ∧ (zs.Pairwise (· ≤ ·) → SR (Lib.compactUpTo zs.toArray m)) ∧ (Lib.compactUpTo zs.toArray m).length ≤ m by
    have := H zs.length (Nat.le_refl _)
    simpa [Lib.compact] using this
  intro m
  induction m with
  | zero => intro _; simp [Lib.compactUpTo]
  | succ m ih =>
    intro hm
    obtain ⟨h1, h2, h3⟩ := ih (by omega)
    have hlt : m < zs.length := by omega
    have hget : zs.toArray[m]! = zs[m] := by simp [getElem!_pos, hlt]
    rw [Lib.compactUpTo_succ]
    have htake : zs.take (m + 1) = zs.take m ++ [zs[m]] := by rw [List.take_succ_eq_append_getElem hlt]
    by_cases hk : Lib.keeps zs.toArray m = true
    · rw [if_pos hk, hget]
      refine ⟨fun x => by rw [htake, List.mem_append, List.mem_append, h1], fun hp => ?_, by simp; omega⟩
      refine SR.append (h2 hp) (by simp) fun x hx y hy => ?_
      simp at hy
      subst hy
      have hx' := (h1 x).1 hx
      obtain ⟨i, hi, rfl⟩ := List.getElem_of_mem hx'
      have hi' : i < m := by simp at hi; omega
      simp only [List.getElem_take]
      unfold Lib.keeps at hk
      simp at hk
      have hne : zs[m] ≠ zs[m - 1] := by
        rcases hk with hk | hk
        · omega
        · simpa [getElem!_pos, hlt, show m - 1 < zs.length from by omega] using hk
      have hle := List.pairwise_iff_getElem.1 hp
      have hA : zs[m - 1] ≤ zs[m] := hle (m - 1) m (by omega) hlt (by omega)
      have hB : zs[i] ≤ zs[m - 1] := by
        by_cases hq : i = m - 1
        · subst hq; exact Int.le_refl _
        · exact hle i (m - 1) (by omega) (by omega) (by omega)
      omega
    · rw [if_neg hk]
      refine ⟨fun x => ?_, fun hp => by simpa using h2 hp, by simp; omega⟩
      rw [htake]
      simp only [List.append_nil, h1, List.mem_append, List.mem_singleton]
      constructor
      · exact .inl
      · rintro (h | h)
        · exact h
        · subst h
          unfold Lib.keeps at hk
          simp at hk
          obtain ⟨hm0, heq⟩ := hk
          have : zs[m] = zs[m - 1] := by simpa [getElem!_pos, hlt, show m - 1 < zs.length from by omega] using heq
          rw [this]
          exact List.mem_iff_getElem.2 ⟨m - 1, by simp; omega, by simp⟩

/-- Where a search ends, the number stands, if it is there at all. -/
theorem mem_search {l : List Int} {n : Int} {k : Nat} (h1 : ∀ j x, j < k → l[j]? = some x → x < n) (h2 : ∀ j x, k ≤ j → l[j]? = some x → n ≤ x) (hl : SR l) : n ∈ l ↔ l[k]? = some n := by
  constructor
  · intro h
    obtain ⟨j, hj, hn⟩ := List.getElem_of_mem h
    have hjx := List.getElem?_eq_getElem hj
    rw [hn] at hjx
    rcases Nat.lt_trichotomy j k with h | h | h
    · have := h1 j n h hjx; omega
    · subst h; exact hjx
    · have hk : k < l.length := by omega
      have hkx := List.getElem?_eq_getElem hk
      have a := h2 k _ (Nat.le_refl _) hkx
      have b := List.pairwise_iff_getElem.1 hl k j hk hj h
      omega
  · exact List.mem_of_getElem?
end Go.Mg
