/- Plain laws: loops over lists, rising lists. -/
import Derived.Test.YtdoidjpeaakfiaaMgH
import Derived.Lib.SlicesCompact
namespace Go.Mg
open Go

theorem wrap64 {x : Int} (h1 : -9223372036854775808 ≤ x) (h2 : x ≤ 9223372036854775807) : IntKind.i64.wrap x = x := by
  simp only [IntKind.wrap, IntKind.signed, IntKind.bits]
  first | (simp; omega) | omega
theorem wrapu64 {x : Int} (h1 : 0 ≤ x) (h2 : x ≤ 18446744073709551615) : IntKind.u64.wrap x = x := by
  simp only [IntKind.wrap, IntKind.signed, IntKind.bits]
  first | (simp; omega) | omega

/-- A loop over a list: state, place, element. -/
def foldI {α σ τ : Type} (f : σ → Nat → α → Option (σ ⊕ τ)) (e : σ → τ) : σ → Nat → List α → Option τ
  | s, _, [] => some (e s)
  | s, i, x :: xs => (f s i x).bind fun o => match o with | .inl s' => foldI f e s' (i + 1) xs | .inr r => some r

theorem iter_list {α σ τ Sg : Type} {step : Sg → Option (Sg ⊕ τ)} (mk : σ → Int → Sg) (xs : List α) (f : σ → Nat → α → Option (σ ⊕ τ)) (e : σ → τ)
    (hs : ∀ (s : σ) (i : Nat) (x : α), xs[i]? = some x → step (mk s (i : Int)) = (f s i x).map fun o => match o with | .inl s' => .inl (mk s' ((i + 1 : Nat) : Int)) | .inr r => .inr r)
    (he : ∀ s, step (mk s (xs.length : Int)) = some (.inr (e s))) (s : σ) : iter step (mk s 0) = foldI f e s 0 xs := by
  suffices H : ∀ n i s, i + n = xs.length → iter step (mk s (i : Int)) = foldI f e s i (xs.drop i) by
    have := H xs.length 0 s (by omega)
    simpa using this
  intro n
  induction n with
  | zero =>
    intro i s hi
    have : i = xs.length := by omega
    subst this
    rw [iter_end (he s), List.drop_length]
    rfl
  | succ n ih =>
    intro i s hi
    have hl : i < xs.length := by omega
    have hx := List.getElem?_eq_getElem hl
    rw [List.drop_eq_getElem_cons hl, iter_unfold, hs s i _ hx]
    unfold foldI
    cases hf : f s i xs[i] with
    | none => rfl
    | some o =>
      cases o with
      | inl s' => simpa using ih (i + 1) s' (by omega)
      | inr r => rfl

theorem at_nat {α : Type} {xs : List α} {i : Nat} {x : α} (h : xs[i]? = some x) : at_ xs (i : Int) = some x := by simp [at_, h]
theorem at_cons0 {α : Type} (x : α) (xs : List α) : at_ (x :: xs) 0 = some x := by simp [at_]
theorem from_cons1 {α : Type} (x : α) (xs : List α) : from_ (x :: xs) 1 = some xs := by
  unfold from_
  rw [if_pos ⟨by decide, by simp; omega⟩]
  rfl
theorem upto_nat {α : Type} {xs : List α} {i : Nat} (h : i ≤ xs.length) : upto_ xs (i : Int) = some (xs.take i) := by simp [upto_, h]
theorem from_nat {α : Type} {xs : List α} {i : Nat} (h : i ≤ xs.length) : from_ xs (i : Int) = some (xs.drop i) := by simp [from_, h]
theorem app_ok {α : Type} {n : Nat} {xs ys : List α} (h : (xs.length + ys.length) * n ≤ lim) : app_ n xs ys = some (xs ++ ys) := by simp [app_, h]
theorem pur_eq {α β : Type} (a : α) (f : α → Option β) : pur a f = f a := rfl
theorem lt_of_get {α : Type} {xs : List α} {i : Nat} {x : α} (h : xs[i]? = some x) : i < xs.length := (List.getElem?_eq_some_iff.1 h).1

/-! ### Rising lists -/

abbrev SR (l : List Int) : Prop := l.Pairwise (· < ·)

theorem SR.ext : ∀ {a b : List Int}, SR a → SR b → (∀ x, x ∈ a ↔ x ∈ b) → a = b := by
  intro a
  induction a with
  | nil => intro b _ _ h; cases b with
    | nil => rfl
    | cons y b => exact absurd ((h y).2 (by simp)) (by simp)
  | cons x a ih =>
    intro b ha hb h
    cases b with
    | nil => exact absurd ((h x).1 (by simp)) (by simp)
    | cons y b =>
      have ha' := List.pairwise_cons.1 ha
      have hb' := List.pairwise_cons.1 hb
      have hxy : x = y := by
        have h1 := (h x).1 (by simp)
        have h2 := (h y).2 (by simp)
        simp only [List.mem_cons] at h1 h2
        rcases h1 with h1 | h1
        · exact h1
        · rcases h2 with h2 | h2
          · exact h2.symm
          · have := hb'.1 x h1; have := ha'.1 y h2; omega
      subst hxy
      congr 1
      refine ih ha'.2 hb'.2 fun z => ?_
      have := h z
      simp only [List.mem_cons] at this
      constructor
      · intro hz
        rcases this.1 (.inr hz) with h1 | h1
        · have := ha'.1 z hz; omega
        · exact h1
      · intro hz
        rcases this.2 (.inr hz) with h1 | h1
        · have := hb'.1 z hz; omega
        · exact h1

theorem SR.append {a b : List Int} (ha : SR a) (hb : SR b) (h : ∀ x ∈ a, ∀ y ∈ b, x < y) : SR (a ++ b) := List.pairwise_append.2 ⟨ha, hb, h⟩

theorem SR.nodup {a : List Int} (h : SR a) : a.Nodup := List.Pairwise.imp (fun h => by omega) h

theorem SR.filter {a : List Int} (p : Int → Bool) (h : SR a) : SR (a.filter p) := List.Pairwise.filter _ h

theorem SR.le_length {a b : List Int} (ha : SR a) (hab : ∀ x ∈ a, x ∈ b) : a.length ≤ b.length :=
  ha.nodup.length_le_of_subset hab

/-! ### Sort, then compact -/
theorem compact_cons (zs : List Int) : (∀ x, x ∈ Lib.compact zs ↔ x ∈ zs) ∧ (zs.Pairwise (· ≤ ·) → SR (Lib.compact zs)) ∧ (Lib.compact zs).length ≤ zs.length := by
  suffices H : ∀ m, m ≤ zs.length → (∀ x, x ∈ Lib.compactUpTo zs.toArray m ↔ x ∈ zs.take m) ∧ (zs.Pairwise (· ≤ ·) → SR (Lib.compactUpTo zs.toArray m)) ∧ (Lib.compactUpTo zs.toArray m).length ≤ m by
    have := H zs.length (Nat.le_refl _)
    simpa [Lib.compact] using this
  intro m
  induction m with
  | zero => intro _; simp [Lib.compactUpTo]
  | succ m ih =>
    intro hm
    obtain ⟨h1, h2, h3⟩ := ih (by omega)
    have hlt : m < zs.length := by omega
    have hget : zs.toArray[m]! = zs[m] := by simp [getElem!_pos, hlt]
    rw [Lib.compactUpTo_succ]
    have htake : zs.take (m + 1) = zs.take m ++ [zs[m]] := by rw [List.take_succ_eq_append_getElem hlt]
    by_cases hk : Lib.keeps zs.toArray m = true
    · rw [if_pos hk, hget]
      refine ⟨fun x => by rw [htake, List.mem_append, List.mem_append, h1], fun hp => ?_, by simp; omega⟩
      refine SR.append (h2 hp) (by simp) fun x hx y hy => ?_
      simp at hy
      subst hy
      have hx' := (h1 x).1 hx
      obtain ⟨i, hi, rfl⟩ := List.getElem_of_mem hx'
      have hi' : i < m := by simp at hi; omega
      simp only [List.getElem_take]
      unfold Lib.keeps at hk
      simp at hk
      have hne : zs[m] ≠ zs[m - 1] := by
        rcases hk with hk | hk
        · omega
        · simpa [getElem!_pos, hlt, show m - 1 < zs.length from by omega] using hk
      have hle := List.pairwise_iff_getElem.1 hp
      have hA : zs[m - 1] ≤ zs[m] := hle (m - 1) m (by omega) hlt (by omega)
      have hB : zs[i] ≤ zs[m - 1] := by
        by_cases hq : i = m - 1
        · subst hq; exact Int.le_refl _
        · exact hle i (m - 1) (by omega) (by omega) (by omega)
      omega
    · rw [if_neg hk]
      refine ⟨fun x => ?_, fun hp => by simpa using h2 hp, by simp; omega⟩
      rw [htake]
      simp only [List.append_nil, h1, List.mem_append, List.mem_singleton]
      constructor
      · exact .inl
      · rintro (h | h)
        · exact h
        · subst h
          unfold Lib.keeps at hk
          simp at hk
          obtain ⟨hm0, heq⟩ := hk
          have : zs[m] = zs[m - 1] := by simpa [getElem!_pos, hlt, show m - 1 < zs.length from by omega] using heq
          rw [this]
          exact List.mem_iff_getElem.2 ⟨m - 1, by simp; omega, by simp⟩
end Go.Mg
