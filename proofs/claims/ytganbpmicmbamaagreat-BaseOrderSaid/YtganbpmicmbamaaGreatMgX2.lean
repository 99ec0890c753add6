/- The library's sort, and what is told of it, in this layer's words; Plain laws: loops over lists, rising lists; Maps: a block that holds entries, in the order in which they were laid; look-up, store, removal, length, range; '==' of structs, as one Bool; Own slices: a store to an element, a prefix that is still one's own. -/
import Derived.Test.YtganbpmicmbamaaGreatMgX1
import Derived.Sort.Grow
import Derived.Lib.SlicesCompact
import Derived.Maps.RangeRun
import Derived.MapKept
import Derived.Laws.StructEq
namespace Go.Mg
open Go Go.Sort
variable {P : Program} {w : World} {S : Nat → Prop} {α : Type} {enc : α → Value} {h1 : ∀ x, (enc x).oneCell' = true} {e : TypeId} {base : Nat}
theorem Chk.map {cs : List Value} {xs : List α} (h : Chk (kSc enc h1) S w cs xs) : cs = xs.map enc := by
 induction h with
 | nil => rfl
 | cons a _ ih => have a : _ = [enc _] := a; rw [a, ih]; rfl
theorem Chk.of_map (xs : List α) : Chk (kSc enc h1) S w (xs.map enc) xs := by
 induction xs with
 | nil => exact .nil
 | cons x xs ih => exact .cons (c := [enc x]) rfl ih
theorem Ow.cases {v : Value} {xs : List α} (h : Ow (kSc enc h1) e S base w v xs) :
 (v = .slice none 0 0 ∧ xs = []) ∨ ∃ g cap cur, v = .slice (some ⟨g, 0, none⟩) xs.length cap ∧ base ≤ g ∧ ¬ S g ∧ w.heap[g]? = some (.cells cur e (0, 0)) ∧ xs.length ≤ cap ∧ cap ≤ maxLen ∧ cur.size = cap ∧ cur.toList.take xs.length = xs.map enc := by
 obtain ⟨cs, h1, h2, h3, h4⟩ := h; rcases h1.2 with ⟨rfl, hn⟩ | ⟨g, cap, cur, rfl, hb, hg, hnc, hcm, hcs, htk⟩
 ·exact .inl ⟨rfl, List.eq_nil_of_length_eq_zero hn⟩
 ·right
  have hc := h2.map; subst hc; refine ⟨g, cap, cur, rfl, hb, h4 g rfl, hg, hnc, hcm, ?_, ?_⟩
  ·simpa [kSc] using hcs
  ·simpa [kSc] using htk
theorem Ow.mk {g cap : Nat} {cur : Array Value} {xs : List α} (hb : base ≤ g) (hS : ¬ S g) (hg : w.heap[g]? = some (.cells cur e (0, 0))) (hn : xs.length ≤ cap) (hm : cap ≤ maxLen) (hl : xs.length ≤ Mg.lim) (hc : cur.size = cap)
 (ht : cur.toList.take xs.length = xs.map enc) : Ow (kSc enc h1) e S base w (.slice (some ⟨g, 0, none⟩) xs.length cap) xs :=
 ⟨xs.map enc, ⟨by simp [kSc], .inr ⟨g, cap, cur, rfl, hb, hg, hn, hm, by simpa [kSc] using hc, by simpa [kSc] using ht⟩⟩, Chk.of_map xs, hl, fun b hb hs => by
  simp [Value.ownBlock] at hb; subst hb; exact hS hs⟩
variable [Inhabited α]
theorem Ow.holds {g cap : Nat} {xs : List α} (h : Ow (kSc enc h1) e S base w (.slice (some ⟨g, 0, none⟩) xs.length cap) xs) : Holds enc w g 0 xs.toArray := by
 rcases h.cases with ⟨h, _⟩ | ⟨g', cap', cur, hv, _, _, hg, hn, _, hc, ht⟩
 ·cases h
 ·cases hv; intro j hj
  have hj : j < xs.length := by simpa using hj
  have hx : cur[j]? = some (enc xs[j]) := by
   have : (cur.toList.take xs.length)[j]? = (xs.map enc)[j]? := by rw [ht]
   rw [List.getElem?_take, if_pos hj] at this; simpa [hj] using this
  rw [Nat.zero_add, cell_of_row w g j cur e (0, 0) hg, frozen_of_row w g j cur e hg, hx]; exact ⟨by simp [hj], rfl⟩
theorem Ow.put {g cap n : Nat} {xs : List α} {os : Array Obj} (h : Ow (kSc enc h1) e S base w (.slice (some ⟨g, 0, none⟩) xs.length cap) xs) (d : List α) (ys : List α) (hd : d.length = xs.length) (hy : ∃ zs, d = ys ++ zs) :
 Up (Blk (.slice (some ⟨g, 0, none⟩) xs.length cap)) w (grow (putRow enc (Sort.ahead w n) g 0 d.toArray) os) ∧ Ow (kSc enc h1) e S base (grow (putRow enc (Sort.ahead w n) g 0 d.toArray) os) (.slice (some ⟨g, 0, none⟩) ys.length cap) ys := by
 have hlim := h.lim; rcases h.cases with ⟨h, _⟩ | ⟨g', cap', cur, hv, hb, hS, hg, hn, hm, hc, ht⟩
 ·cases h
 ·cases hv; have hglt : g < w.heap.size := (Array.getElem?_eq_some_iff.1 hg).1
  have hget : ∀ k, k < w.heap.size → (grow (putRow enc (Sort.ahead w n) g 0 d.toArray) os).heap[k]? = if g = k then (w.heap[k]?).map (onCells (putCells enc 0 d.toArray)) else w.heap[k]? := by
   intro k hk
   show ((w.heap.modify g (onCells (putCells enc 0 d.toArray))) ++ os)[k]? = _
   rw [Array.getElem?_append_left (by simpa using hk), Array.getElem?_modify]
  obtain ⟨zs, rfl⟩ := hy; refine ⟨⟨rfl, rfl, rfl, ?_, fun k hk hn => ?_⟩, ?_⟩
  ·show w.heap.size ≤ ((w.heap.modify g _) ++ os).size
   simp
  ·rw [hget k hk, if_neg (fun he => hn (by simp [Blk, Value.ownBlock, he]))]
  ·have hyl : ys.length ≤ xs.length := by rw [← hd]; simp
   refine Ow.mk hb hS (cur := putCells enc 0 (ys ++ zs).toArray cur) ?_ (by omega) hm (by omega) (by simpa [putCells] using hc) ?_
   ·rw [hget g hglt, if_pos rfl, hg]; rfl
   ·apply List.ext_getElem?
    intro j; rw [List.getElem?_take]
    by_cases hj : j < ys.length
    ·rw [if_pos hj]
     have hjc : j < cur.size := by omega
     have hj2 : j < (ys ++ zs).length := by rw [List.length_append]; omega
     simp only [putCells, Array.getElem?_toList, Array.getElem?_mapIdx, Nat.zero_le, Nat.zero_add, true_and, List.size_toArray, hj2, if_true, Nat.sub_zero, Array.getElem?_eq_getElem hjc, Option.map_some]; simp [hj, List.getElem?_append_left hj]
    ·rw [if_neg hj, List.getElem?_eq_none (by simpa using Nat.le_of_not_lt hj)]
theorem sortI_w {f : FuncId} (hc : ∀ (blk off cap : Nat) (zs : List Int) (w : World), Holds (Value.int .i64) w blk off zs.toArray → blk < w.heap.size → zs.length < 4611686018427387904 →
 Calls P f #[.slice (some ⟨blk, off, none⟩) zs.length cap] w fun e w' => e = .returned (.tuple #[]) ∧ ∃ n os, w' = grow (putRow (Value.int .i64) (Sort.ahead w n) blk off (zs.mergeSort fun x y => decide (x ≤ y)).toArray) os)
 (hn : ∀ (p : Option Addr) (cap : Nat) (w : World), Calls P f #[.slice p 0 cap] w fun e w' => e = .returned (.tuple #[]) ∧ w' = w)
 {v0 : Value} {a0 r : List Int} (_ : Sb S w) (h0 : Ow (kI .i64) e S base w v0 a0) (h : (a0.mergeSort fun x y => decide (x ≤ y)) = r) :
 Calls P f (List.toArray [v0]) w fun e' w1 => e' = .returned (.tuple (List.toArray [])) ∧ Up (Blk v0) w w1 ∧ Ow (kI .i64) e S base w1 v0 r := by
 subst h; rcases Ow.cases h0 with ⟨rfl, rfl⟩ | ⟨g, cap, cur, rfl, hb, hSg, hg, hnc, hm, hc', ht⟩
 ·refine (hn none 0 w).mono fun e' w1 ⟨he, hw⟩ => ⟨he, ?_, ?_⟩
  ·rw [hw]; exact Up.refl _ _
  ·rw [hw]; simpa using h0
 ·have hlim := h0.lim; unfold lim at hlim; refine (hc g 0 cap a0 w (Ow.holds h0) (Array.getElem?_eq_some_iff.1 hg).1 (by omega)).mono fun e' w1 ⟨he, n, os, hw⟩ => ⟨he, ?_⟩; subst hw; have := Ow.put (n := n) (os := os) h0 (a0.mergeSort fun x y => decide (x ≤ y)) _ (List.length_mergeSort _) ⟨[], (List.append_nil _).symm⟩; rw [List.length_mergeSort] at this; exact this
end Go.Mg

namespace Go.Mg
open Go
theorem xy {x : Int} (h1 : -9223372036854775808 ≤ x) (h2 : x ≤ 9223372036854775807) : IntKind.i64.wrap x = x := by
 simp only [IntKind.wrap, IntKind.signed, IntKind.bits]
 first | (simp; omega) | omega
theorem wrapu64 {x : Int} (h1 : 0 ≤ x) (h2 : x ≤ 18446744073709551615) : IntKind.u64.wrap x = x := by
 simp only [IntKind.wrap, IntKind.signed, IntKind.bits]
 first | (simp; omega) | omega
def foldI {α σ τ : Type} (f : σ → Nat → α → Option (σ ⊕ τ)) (e : σ → τ) : σ → Nat → List α → Option τ
 | s, _, [] => some (e s)
 | s, i, x :: xs => (f s i x).bind fun o => match o with | .inl s' => foldI f e s' (i + 1) xs | .inr r => some r
theorem iter_list {α σ τ Sg : Type} {step : Sg → Option (Sg ⊕ τ)} (mk : σ → Int → Sg) (xs : List α) (f : σ → Nat → α → Option (σ ⊕ τ)) (e : σ → τ)
 (hs : ∀ (s : σ) (i : Nat) (x : α), xs[i]? = some x → step (mk s (i : Int)) = (f s i x).map fun o => match o with | .inl s' => .inl (mk s' ((i + 1 : Nat) : Int)) | .inr r => .inr r)
 (he : ∀ s, step (mk s (xs.length : Int)) = some (.inr (e s))) (s : σ) : iter step (mk s 0) = foldI f e s 0 xs := by
 suffices H : ∀ n i s, i + n = xs.length → iter step (mk s (i : Int)) = foldI f e s i (xs.drop i) by
  have := H xs.length 0 s (by omega); simpa using this
 intro n
 induction n with
 | zero =>
  intro i s hi
  have : i = xs.length := by omega
  subst this; rw [iter_end (he s), List.drop_length]
  rfl
 | succ n ih =>
  intro i s hi
  have hl : i < xs.length := by omega
  have hx := List.getElem?_eq_getElem hl; rw [List.drop_eq_getElem_cons hl, iter_unfold, hs s i _ hx]; unfold foldI; cases hf : f s i xs[i] with
  | none => rfl
  | some o =>
   cases o with
   | inl s' => simpa using ih (i + 1) s' (by omega)
   | inr r => rfl
theorem iter_inv {α σ τ Sg : Type} {step : Sg → Option (Sg ⊕ τ)} (mk : σ → Int → Sg) (xs : List α) (I : σ → Nat → Prop) (R : τ → Prop)
 (hs : ∀ (s : σ) (i : Nat) (x : α), xs[i]? = some x → I s i → (∃ s', step (mk s (i : Int)) = some (.inl (mk s' ((i + 1 : Nat) : Int))) ∧ I s' (i + 1)) ∨ ∃ r, step (mk s (i : Int)) = some (.inr r) ∧ R r)
 (he : ∀ s, I s xs.length → ∃ r, step (mk s (xs.length : Int)) = some (.inr r) ∧ R r) (s : σ) (h0 : I s 0) : ∃ r, iter step (mk s 0) = some r ∧ R r := by
 suffices H : ∀ n i s, i + n = xs.length → I s i → ∃ r, iter step (mk s (i : Int)) = some r ∧ R r from H xs.length 0 s (by omega) h0
 intro n
 induction n with
 | zero =>
  intro i s hi hI
  have : i = xs.length := by omega
  subst this; obtain ⟨r, h1, h2⟩ := he s hI; exact ⟨r, iter_end h1, h2⟩
 | succ n ih =>
  intro i s hi hI
  have hl : i < xs.length := by omega
  rcases hs s i _ (List.getElem?_eq_getElem hl) hI with ⟨s', h1, h2⟩ | ⟨r, h1, h2⟩
  ·rw [iter_next h1]; exact ih (i + 1) s' (by omega) h2
  ·exact ⟨r, iter_end h1, h2⟩
theorem iter_search {step : Int × Int → Option ((Int × Int) ⊕ Int)} (l : List Int) (n : Int) (hl : l.Pairwise (· < ·))
 (hs : ∀ lo hi : Nat, lo < hi → hi ≤ l.length → ∀ x, l[(lo + hi) / 2]? = some x → step ((lo : Int), (hi : Int)) = some (.inl (if x < n then ((((lo + hi) / 2 + 1 : Nat) : Int), (hi : Int)) else ((lo : Int), (((lo + hi) / 2 : Nat) : Int)))))
 (he : ∀ lo : Nat, step ((lo : Int), (lo : Int)) = some (.inr (lo : Int))) :
 ∃ k : Nat, k ≤ l.length ∧ iter step (0, (l.length : Int)) = some (k : Int) ∧ (∀ j x, j < k → l[j]? = some x → x < n) ∧ ∀ j x, k ≤ j → l[j]? = some x → n ≤ x := by
 suffices H : ∀ m lo hi : Nat, hi - lo = m → lo ≤ hi → hi ≤ l.length → (∀ j x, j < lo → l[j]? = some x → x < n) → (∀ j x, hi ≤ j → l[j]? = some x → n ≤ x) →
  ∃ k : Nat, k ≤ l.length ∧ iter step ((lo : Int), (hi : Int)) = some (k : Int) ∧ (∀ j x, j < k → l[j]? = some x → x < n) ∧ ∀ j x, k ≤ j → l[j]? = some x → n ≤ x from
  H _ 0 l.length rfl (Nat.zero_le _) (Nat.le_refl _) (fun j x h => absurd h (Nat.not_lt_zero _)) (fun j x h hx => absurd (List.getElem?_eq_some_iff.1 hx).1 (by omega))
 intro m
 induction m using Nat.strongRecOn with
 | _ m ih =>
  intro lo hi hm hle hhi hA hB
  by_cases hlt : lo < hi
  ·have hc : (lo + hi) / 2 < l.length := by omega
   have hx := List.getElem?_eq_getElem hc; have hp := List.pairwise_iff_getElem.1 hl; have hstep := hs lo hi hlt hhi _ hx
   by_cases hxn : l[(lo + hi) / 2] < n
   ·rw [if_pos hxn] at hstep; rw [iter_next hstep]; refine ih (hi - ((lo + hi) / 2 + 1)) (by omega) ((lo + hi) / 2 + 1) hi rfl (by omega) hhi (fun j x hj hjx => ?_) hB; obtain ⟨hjl, rfl⟩ := List.getElem?_eq_some_iff.1 hjx
    by_cases hq : j = (lo + hi) / 2
    ·subst hq; exact hxn
    ·have := hp j ((lo + hi) / 2) hjl hc (by omega); omega
   ·rw [if_neg hxn] at hstep; rw [iter_next hstep]; refine ih ((lo + hi) / 2 - lo) (by omega) lo ((lo + hi) / 2) rfl (by omega) (by omega) hA fun j x hj hjx => ?_; obtain ⟨hjl, rfl⟩ := List.getElem?_eq_some_iff.1 hjx
    by_cases hq : j = (lo + hi) / 2
    ·subst hq; omega
    ·have := hp ((lo + hi) / 2) j hc hjl (by omega); omega
  ·obtain rfl : lo = hi := by omega
   exact ⟨lo, hhi, iter_end (he lo), hA, hB⟩
theorem at_nat {α : Type} {xs : List α} {i : Nat} {x : α} (h : xs[i]? = some x) : at_ xs (i : Int) = some x := by simp [at_, h]
theorem at_cons0 {α : Type} (x : α) (xs : List α) : at_ (x :: xs) 0 = some x := by simp [at_]
theorem from_cons1 {α : Type} (x : α) (xs : List α) : from_ (x :: xs) 1 = some xs := by
 unfold from_; rw [if_pos ⟨by decide, by simp; omega⟩]
 rfl
theorem upto_nat {α : Type} {xs : List α} {i : Nat} (h : i ≤ xs.length) : upto_ xs (i : Int) = some (xs.take i) := by simp [upto_, h]
theorem from_nat {α : Type} {xs : List α} {i : Nat} (h : i ≤ xs.length) : from_ xs (i : Int) = some (xs.drop i) := by simp [from_, h]
theorem app_ok {α : Type} {n : Nat} {xs ys : List α} (h : (xs.length + ys.length) * n ≤ lim) : app_ n xs ys = some (xs ++ ys) := by simp [app_, h]
theorem xm {α β : Type} (a : α) (f : α → Option β) : pur a f = f a := rfl
theorem lt_of_get {α : Type} {xs : List α} {i : Nat} {x : α} (h : xs[i]? = some x) : i < xs.length := (List.getElem?_eq_some_iff.1 h).1
abbrev SR (l : List Int) : Prop := l.Pairwise (· < ·)
theorem SR.ext : ∀ {a b : List Int}, SR a → SR b → (∀ x, x ∈ a ↔ x ∈ b) → a = b := by
 intro a
 induction a with
 | nil => intro b _ _ h; cases b with
  | nil => rfl
  | cons y b => exact absurd ((h y).2 (by simp)) (by simp)
 | cons x a ih =>
  intro b ha hb h
  cases b with
  | nil => exact absurd ((h x).1 (by simp)) (by simp)
  | cons y b =>
   have ha' := List.pairwise_cons.1 ha; have hb' := List.pairwise_cons.1 hb
   have hxy : x = y := by
    have h1 := (h x).1 (by simp); have h2 := (h y).2 (by simp); simp only [List.mem_cons] at h1 h2; rcases h1 with h1 | h1
    ·exact h1
    ·rcases h2 with h2 | h2
     ·exact h2.symm
     ·have := hb'.1 x h1; have := ha'.1 y h2; omega
   subst hxy
   congr 1
   refine ih ha'.2 hb'.2 fun z => ?_; have := h z; simp only [List.mem_cons] at this
   constructor
   ·intro hz; rcases this.1 (.inr hz) with h1 | h1
    ·have := ha'.1 z hz; omega
    ·exact h1
   ·intro hz; rcases this.2 (.inr hz) with h1 | h1
    ·have := hb'.1 z hz; omega
    ·exact h1
theorem SR.append {a b : List Int} (ha : SR a) (hb : SR b) (h : ∀ x ∈ a, ∀ y ∈ b, x < y) : SR (a ++ b) := List.pairwise_append.2 ⟨ha, hb, h⟩
theorem SR.nodup {a : List Int} (h : SR a) : a.Nodup := List.Pairwise.imp (fun h => by omega) h
theorem SR.filter {a : List Int} (p : Int → Bool) (h : SR a) : SR (a.filter p) := List.Pairwise.filter _ h
theorem SR.le_length {a b : List Int} (ha : SR a) (hab : ∀ x ∈ a, x ∈ b) : a.length ≤ b.length :=
 ha.nodup.length_le_of_subset hab
end Go.Mg

namespace Go.Mg
open Go
open Go.ChangeMaps (setBlock)
set_option linter.unusedVariables false
def ent {α : Type} (enc : α → Value) (x : α × Value × Nat) : MapEntry := ⟨enc x.1, x.2.1, x.2.2⟩
def fnd {α : Type} [DecidableEq α] (k : α) : List (α × Value × Nat) → Nat → Option (Nat × Value)
 | [], _ => none
 | x :: l, i => if k = x.1 then some (i, x.2.1) else fnd k l (i + 1)
structure Ky (P : Program) (t : TypeId) (α : Type) [DecidableEq α] where
 enc : α → Value
 ok : α → Prop
 chk : ∀ (b : Bool) (k : α) (w : World), (Instr.checkKey b 10000 t (enc k)).run P w = .ok () w
 find : ∀ (k : α) (L : List (α × Value × Nat)) (w : World), (Instr.findKey t (enc k) (L.map (ent enc))).run P w = .ok (fnd k L 0) w
 same : ∀ k, Instr.sameBits 10000 (enc k) (enc k) = true
variable {P : Program} {w : World} {α : Type} [DecidableEq α] {t : TypeId}
theorem run_underlying {d : TypeDesc} (h : P.underlying t = some d) : (underlying t).run P w = .ok d w := by
 simp only [underlying, program, Sem.run_bind, Sem.run, h, Result.andThen_ok, Sem.run_pure]
def kyI {P : Program} {t : TypeId} {q : IntKind} (h : P.underlying t = some (.int q)) : Ky P t Int where
 enc := .int q
 ok _ := True
 chk b k w := by
  unfold Instr.checkKey; simp only [Sem.run_bind, run_underlying h, Result.andThen_ok, Sem.run_pure]
 find k L w := by
  have H : ∀ (L : List (Int × Value × Nat)) (i : Nat), Instr.findNow (.int q) (.int q k) (L.map (ent (.int q))) i = some (fnd k L i) := by
   intro L
   induction L with
   | nil => intro i; rfl
   | cons x L ih =>
    intro i; simp only [List.map_cons, Instr.findNow, ent, Instr.sameNow, if_true, fnd]
    by_cases e : k = x.1
    ·simp [e]
    ·have e' : (k == x.1) = false := by simpa using e
     rw [e', if_neg e]; exact ih (i + 1)
  unfold Instr.findKey; simp only [Sem.run_bind, run_underlying h, Result.andThen_ok, H L 0, Sem.run_pure]
 same k := by simp [Instr.sameBits]
theorem ba_beq (a b : ByteArray) : (a == b) = decide (a = b) := by
 by_cases h : a = b
 ·rw [decide_eq_true h]; exact (MapKept.bytes_beq a b).2 h
 ·rw [decide_eq_false h]
  cases e : a == b with
  | false => rfl
  | true => exact absurd ((MapKept.bytes_beq a b).1 e) h
def kyS {P : Program} {t : TypeId} (h : P.underlying t = some .string) : Ky P t ByteArray where
 enc := .string
 ok _ := True
 chk b k w := by
  unfold Instr.checkKey; simp only [Sem.run_bind, run_underlying h, Result.andThen_ok, Sem.run_pure]
 find k L w := by
  have H : ∀ (L : List (ByteArray × Value × Nat)) (i : Nat), Instr.findNow .string (.string k) (L.map (ent .string)) i = some (fnd k L i) := by
   intro L
   induction L with
   | nil => intro i; rfl
   | cons x L ih =>
    intro i; simp only [List.map_cons, Instr.findNow, ent, Instr.sameNow, fnd, ba_beq]
    by_cases e : k = x.1
    ·rw [decide_eq_true e, if_pos e]
    ·rw [decide_eq_false e, if_neg e]; exact ih (i + 1)
  unfold Instr.findKey; simp only [Sem.run_bind, run_underlying h, Result.andThen_ok, H L 0, Sem.run_pure]
 same k := by simp [Instr.sameBits, ba_beq]
def kyG {P : Program} {t : TypeId} {α : Type} [DecidableEq α] {desc : TypeDesc} (h : P.underlying t = some desc) (enc : α → Value) (hnow : ∀ a b, Instr.sameNow desc (enc a) (enc b) = none)
 (heq : ∀ a b w, (Op.equal t (enc a) (enc b)).run P w = .ok (decide (a = b)) w) (hchk : ∀ b k w, (Instr.checkKey b 10000 t (enc k)).run P w = .ok () w) (hsame : ∀ k, Instr.sameBits 10000 (enc k) (enc k) = true) : Ky P t α where
 enc := enc
 ok _ := True
 chk := hchk
 find k L w := by
  have H : ∀ (L : List (α × Value × Nat)) (i : Nat), (Instr.findAsking t (enc k) (L.map (ent enc)) i).run P w = .ok (fnd k L i) w := by
   intro L
   induction L with
   | nil => intro i; simp [Instr.findAsking, fnd, Sem.run_pure]
   | cons x L ih =>
    intro i; simp only [List.map_cons, Instr.findAsking, ent, Sem.run_bind, heq, Result.andThen_ok, fnd]
    by_cases e : k = x.1
    ·simp [e, Sem.run_pure]
    ·simp only [e, decide_false, Bool.false_eq_true, if_false]; exact ih (i + 1)
  unfold Instr.findKey; simp only [Sem.run_bind, run_underlying h, Result.andThen_ok]
  cases L with
  | nil => simp [Instr.findNow, fnd, Sem.run_pure]
  | cons x L =>
   have : Instr.findNow desc (enc k) ((x :: L).map (ent enc)) 0 = none := by simp [Instr.findNow, ent, hnow]
   rw [this]; exact H (x :: L) 0
 same := hsame
structure Mp (ky : Ky P t α) (w : World) (b : Nat) (L : List (α × Value × Nat)) (c : Nat) : Prop where
 h : w.heap[b]? = some (.map (L.map (ent ky.enc)).toArray c)
 keys : (L.map (·.1)).Nodup
 born : (L.map (·.2.2)).Nodup
 clock : ∀ x ∈ L, x.2.2 < c
theorem Mp.to {ky : Ky P t α} {w' : World} {b : Nat} {L : List (α × Value × Nat)} {c : Nat} (h : Mp ky w b L c) (hb : w'.heap[b]? = w.heap[b]?) : Mp ky w' b L c := ⟨hb.trans h.h, h.keys, h.born, h.clock⟩
theorem Mp.lt {ky : Ky P t α} {b : Nat} {L : List (α × Value × Nat)} {c : Nat} (h : Mp ky w b L c) : b < w.heap.size := (Array.getElem?_eq_some_iff.1 h.h).1
def look (k : α) (L : List (α × Value × Nat)) : Option Value := (L.find? fun x => decide (k = x.1)).map (·.2.1)
theorem fnd_look (k : α) : ∀ (L : List (α × Value × Nat)) (i : Nat), (fnd k L i).map (·.2) = look k L
 | [], _ => rfl
 | x :: L, i => by
  unfold fnd look
  by_cases e : k = x.1
  ·simp [e]
  ·have := fnd_look k L (i + 1); unfold look at this; simp [e, this]
variable {ρ : En} {d : Option Tmp} {x y v : Operand} {ty : TypeId} {pos : String} {af : Array Edge} {g : Option (Nat × Bool)} {tm te : TypeId}
theorem run_look {ky : Ky P t α} {b : Nat} {L : List (α × Value × Nat)} {c : Nat} (M : Mp ky w b L c) (ht : P.underlying tm = some (.map t te)) {z : Value} (hz : (zeroValue te).run P w = .ok z w) (k : α) (cm : Bool) :
 (Instr.lookup tm (.map (some b)) (ky.enc k) cm).run P w = .ok (if cm then .tuple #[(look k L).getD z, .bool (look k L).isSome] else (look k L).getD z) w := by
 have hf : (Instr.findKey t (ky.enc k) (L.map (ent ky.enc)).toArray.toList).run P w = .ok (fnd k L 0) w := ky.find k L w; unfold Instr.lookup; simp only [Sem.run_bind, run_underlying ht, Result.andThen_ok, MapKept.run_getObj_map M.h, ky.chk, Sem.run_pure, hf]; rw [← fnd_look k L 0]
 cases fnd k L 0 with
 | none => cases cm <;> simp [Sem.run_bind, hz, Sem.run_pure, Result.andThen_ok]
 | some p => cases cm <;> simp [Sem.run_bind, Sem.run_pure, Result.andThen_ok]
theorem rw_look {ky : Ky P t α} {b : Nat} {L : List (α × Value × Nat)} {c : Nat} {z r : Value} {k : α} (M : Mp ky w b L c) (ht : P.underlying tm = some (.map t te)) (hz : (zeroValue te).run P w = .ok z w)
 (hx : ev ρ x = .map (some b)) (hy : ev ρ y = ky.enc k) (hr : (look k L).getD z = r) : Rw P ⟨d, .lookup tm x y false, ty, pos, af, g⟩ ρ w r := by
 unfold Rw; simp only [execOp, hx, hy, Sem.run_bind, run_look M ht hz k false, Result.andThen_ok, hr]
 rfl
theorem rw_lookOk {ky : Ky P t α} {b : Nat} {L : List (α × Value × Nat)} {c : Nat} {z r : Value} {o : Bool} {k : α} (M : Mp ky w b L c) (ht : P.underlying tm = some (.map t te)) (hz : (zeroValue te).run P w = .ok z w)
 (hx : ev ρ x = .map (some b)) (hy : ev ρ y = ky.enc k) (hr : (look k L).getD z = r) (ho : (look k L).isSome = o) : Rw P ⟨d, .lookup tm x y true, ty, pos, af, g⟩ ρ w (.tuple #[r, .bool o]) := by
 unfold Rw; simp only [execOp, hx, hy, Sem.run_bind, run_look M ht hz k true, Result.andThen_ok, hr, ho]
 rfl
def mset (k : α) (v : Value) (c : Nat) : List (α × Value × Nat) → List (α × Value × Nat)
 | [] => [(k, v, c)]
 | x :: L => if k = x.1 then (x.1, v, x.2.2) :: L else x :: mset k v c L
def mdel (k : α) (L : List (α × Value × Nat)) : List (α × Value × Nat) := L.filter fun x => !decide (k = x.1)
theorem fnd_none {k : α} : ∀ {L : List (α × Value × Nat)} {i : Nat}, fnd k L i = none → ∀ x ∈ L, k ≠ x.1
 | [], _, _ => fun x hx => by cases hx
 | y :: L, i, h => by
  unfold fnd at h
  by_cases e : k = y.1
  ·rw [if_pos e] at h; cases h
  ·rw [if_neg e] at h; intro x hx; rcases List.mem_cons.1 hx with rfl | hx
   ·exact e
   ·exact fnd_none h x hx
theorem fnd_some {k : α} : ∀ {L : List (α × Value × Nat)} {i : Nat} {p : Nat × Value}, fnd k L i = some p → ∃ j, p.1 = i + j ∧ ∃ x, L[j]? = some x ∧ k = x.1 ∧ p.2 = x.2.1 ∧ ∀ m y, m < j → L[m]? = some y → k ≠ y.1
 | [], _, _, h => by cases h
 | y :: L, i, p, h => by
  unfold fnd at h
  by_cases e : k = y.1
  ·rw [if_pos e] at h; cases h; exact ⟨0, rfl, y, rfl, e, rfl, fun m y h => absurd h (Nat.not_lt_zero _)⟩
  ·rw [if_neg e] at h; obtain ⟨j, h1, x, h2, h3, h4, h5⟩ := fnd_some h; refine ⟨j + 1, by omega, x, h2, h3, h4, fun m z hm hz => ?_⟩
   cases m with
   | zero => simp at hz; subst hz; exact e
   | succ m => exact h5 m z (by omega) (by simpa using hz)
theorem mset_none {k : α} {v : Value} {c : Nat} : ∀ {L : List (α × Value × Nat)}, (∀ x ∈ L, k ≠ x.1) → mset k v c L = L ++ [(k, v, c)]
 | [], _ => rfl
 | y :: L, h => by
  unfold mset; rw [if_neg (h y (by simp)), mset_none fun x hx => h x (by simp [hx])]
  rfl
theorem mset_keys (k : α) (v : Value) (c : Nat) : ∀ (L : List (α × Value × Nat)), (mset k v c L).map (·.1) = if k ∈ L.map (·.1) then L.map (·.1) else L.map (·.1) ++ [k]
 | [] => by simp [mset]
 | y :: L => by
  unfold mset
  by_cases e : k = y.1
  ·simp [e]
  ·rw [if_neg e]; simp only [List.map_cons, mset_keys k v c L, List.mem_cons, e, false_or]
   split <;> simp
theorem mset_mem {k : α} {v : Value} {c : Nat} : ∀ {L : List (α × Value × Nat)} {x : α × Value × Nat}, x ∈ mset k v c L → x ∈ L ∨ x = (k, v, c) ∨ ∃ n, x = (k, v, n) ∧ ∃ u, (k, u, n) ∈ L
 | [], x, h => by simp [mset] at h; exact .inr (.inl h)
 | y :: L, x, h => by
  unfold mset at h
  by_cases e : k = y.1
  ·rw [if_pos e] at h; rcases List.mem_cons.1 h with rfl | h
   ·exact .inr (.inr ⟨y.2.2, by rw [e], y.2.1, by rw [e]; simp⟩)
   ·exact .inl (by simp [h])
  ·rw [if_neg e] at h; rcases List.mem_cons.1 h with rfl | h
   ·exact .inl (by simp)
   ·rcases mset_mem h with h | h | ⟨n, h, u, hu⟩
    ·exact .inl (by simp [h])
    ·exact .inr (.inl h)
    ·exact .inr (.inr ⟨n, h, u, by simp [hu]⟩)
theorem mset_born (k : α) (v : Value) (c : Nat) : ∀ (L : List (α × Value × Nat)), (mset k v c L).map (·.2.2) = if k ∈ L.map (·.1) then L.map (·.2.2) else L.map (·.2.2) ++ [c]
 | [] => by simp [mset]
 | y :: L => by
  unfold mset
  by_cases e : k = y.1
  ·simp [e]
  ·rw [if_neg e]; simp only [List.map_cons, mset_born k v c L, List.mem_cons, e, false_or]
   split <;> simp
theorem mset_at {k : α} {v : Value} {c : Nat} : ∀ {L : List (α × Value × Nat)} {j : Nat} {x : α × Value × Nat}, L[j]? = some x → k = x.1 → (∀ m y, m < j → L[m]? = some y → k ≠ y.1) → mset k v c L = L.modify j fun x => (x.1, v, x.2.2)
 | [], _, _, h, _, _ => by simp at h
 | y :: L, 0, x, h, e, _ => by
  simp at h; subst h; unfold mset; rw [if_pos e]
  rfl
 | y :: L, j + 1, x, h, e, hm => by
  unfold mset; rw [if_neg (hm 0 y (by omega) rfl), mset_at (by simpa using h) e fun m z hj hz => hm (m + 1) z (by omega) (by simpa using hz)]
  rfl
theorem Mp.set {ky : Ky P t α} {b : Nat} {L : List (α × Value × Nat)} {c : Nat} (M : Mp ky w b L c) (k : α) (v : Value) :
 Mp ky (setBlock w b (.map ((mset k v c L).map (ent ky.enc)).toArray (if k ∈ L.map (·.1) then c else c + 1))) b (mset k v c L) (if k ∈ L.map (·.1) then c else c + 1) where
 h := by
  have := M.lt; simp [setBlock, this]
 keys := by
  rw [mset_keys]; have := M.keys
  split
  ·exact this
  ·rename_i h
   exact List.nodup_append.2 ⟨this, by simp, fun a ha b hb e => by simp at hb; subst hb; subst e; exact h ha⟩
 born := by
  rw [mset_born]; have := M.born
  split
  ·exact this
  ·refine List.nodup_append.2 ⟨this, by simp, fun a ha b hb e => ?_⟩; simp at hb; subst hb; subst e; obtain ⟨x, hx, e⟩ := List.mem_map.1 ha; have := M.clock x hx
   omega
 clock x hx := by
  rcases mset_mem hx with h | h | ⟨n, h, u, hu⟩
  ·have := M.clock x h; split <;> omega
  ·subst h
   by_cases e : k ∈ L.map (·.1)
   ·rw [if_pos e]
    exfalso
    -- the key is there: the entry keeps its own stamp
    have hb := mset_born k v c L; rw [if_pos e] at hb; have : c ∈ (mset k v c L).map (·.2.2) := List.mem_map.2 ⟨_, hx, rfl⟩; rw [hb] at this; obtain ⟨y, hy, e2⟩ := List.mem_map.1 this; have := M.clock y hy
    omega
   ·rw [if_neg e]; simp
  ·subst h; have := M.clock _ hu
   split <;> simp at * <;> omega
theorem Up.setBlock {b : Nat} {o : Obj} : Up (One b) w (setBlock w b o) := ⟨rfl, rfl, rfl, by simp [ChangeMaps.setBlock], fun k hk hne => by
 have : b ≠ k := fun e => hne e.symm
 simp [ChangeMaps.setBlock, Array.getElem?_setIfInBounds_ne this]⟩
theorem run_mset {ky : Ky P t α} {b : Nat} {L : List (α × Value × Nat)} {c : Nat} (M : Mp ky w b L c) (ht : P.underlying tm = some (.map t te)) (k : α) (v : Value) :
 (Instr.mapUpdate tm (.map (some b)) (ky.enc k) v).run P w = .ok () (setBlock w b (.map ((mset k v c L).map (ent ky.enc)).toArray (if k ∈ L.map (·.1) then c else c + 1))) := by
 have hf : (Instr.findKey t (ky.enc k) (L.map (ent ky.enc)).toArray.toList).run P w = .ok (fnd k L 0) w := ky.find k L w; unfold Instr.mapUpdate; simp only [Sem.run_bind, run_underlying ht, Result.andThen_ok, MapKept.run_getObj_map M.h, ky.chk, Sem.run_pure, hf]; cases hq : fnd k L 0 with
 | none =>
  have hn := fnd_none hq
  have hnm : k ∉ L.map (·.1) := fun h => by obtain ⟨x, hx, e⟩ := List.mem_map.1 h; exact hn x hx e.symm
  rw [if_neg hnm, mset_none hn]; simp only [MapKept.run_setObj_map _ M.h]; simp [ChangeMaps.setBlock, ent]
 | some p =>
  obtain ⟨j, hj, x, hx, hkx, hv, hm⟩ := fnd_some hq; obtain ⟨i, pv⟩ := p; simp only [Nat.zero_add] at hj hv; subst hj; have hmem : k ∈ L.map (·.1) := List.mem_map.2 ⟨x, List.mem_of_getElem? hx, hkx.symm⟩; rw [if_pos hmem, mset_at hx hkx hm]
  have hkey : (((L.map (ent ky.enc)).toArray[i]?).map (·.key)).getD (ky.enc k) = ky.enc k := by
   simp [hx, ent, hkx]
  simp only [hkey]
  have hst : (Instr.keyThatStays (ky.enc k) (ky.enc k)).run P w = .ok (ky.enc k) w := by
   unfold Instr.keyThatStays; rw [ky.same k]; simp [Sem.run_pure]
  simp only [Sem.run_bind, hst, Result.andThen_ok, MapKept.run_setObj_map _ M.h]
  have he : ((L.map (ent ky.enc)).toArray.modify i fun e => { e with key := ky.enc k, val := v }) = ((L.modify i fun x => (x.1, v, x.2.2)).map (ent ky.enc)).toArray := by
   apply Array.ext_getElem?
   intro m; simp only [Array.getElem?_modify, List.getElem?_toArray, List.getElem?_map, List.getElem?_modify]
   by_cases e : i = m
   ·subst e; simp [hx, ent, hkx]
   ·simp [e]
  rw [he]
  rfl
theorem mdel_sub (k : α) (L : List (α × Value × Nat)) : (mdel k L).Sublist L := List.filter_sublist
theorem mdel_none {k : α} {L : List (α × Value × Nat)} (h : ∀ x ∈ L, k ≠ x.1) : mdel k L = L :=
 List.filter_eq_self.2 fun x hx => by simp [h x hx]
theorem mdel_at {k : α} : ∀ {L : List (α × Value × Nat)} {j : Nat} {x : α × Value × Nat}, (L.map (·.1)).Nodup → L[j]? = some x → k = x.1 → mdel k L = L.eraseIdx j
 | [], _, _, _, h, _ => by simp at h
 | y :: L, 0, x, hn, h, e => by
  simp at h; subst h; simp only [List.map_cons, List.nodup_cons] at hn; have : ∀ z ∈ L, k ≠ z.1 := fun z hz e2 => hn.1 (List.mem_map.2 ⟨z, hz, by rw [← e2, e]⟩); have hd := mdel_none this; unfold mdel at hd ⊢; simp [e] at hd ⊢; simpa using hd
 | y :: L, j + 1, x, hn, h, e => by
  simp only [List.map_cons, List.nodup_cons] at hn
  have hx : L[j]? = some x := by simpa using h
  have hne : k ≠ y.1 := fun e2 => hn.1 (List.mem_map.2 ⟨x, List.mem_of_getElem? hx, by rw [← e, e2]⟩); have := mdel_at hn.2 hx e; unfold mdel at this ⊢; simp [hne, this]
theorem Mp.del {ky : Ky P t α} {b : Nat} {L : List (α × Value × Nat)} {c : Nat} (M : Mp ky w b L c) (k : α) :
 Mp ky (setBlock w b (.map ((mdel k L).map (ent ky.enc)).toArray c)) b (mdel k L) c where
 h := by
  have := M.lt; simp [setBlock, this]
 keys := M.keys.sublist ((mdel_sub k L).map _)
 born := M.born.sublist ((mdel_sub k L).map _)
 clock x hx := M.clock x ((mdel_sub k L).subset hx)
theorem run_mdel {ky : Ky P t α} {b : Nat} {L : List (α × Value × Nat)} {c : Nat} (M : Mp ky w b L c) (ht : P.underlying tm = some (.map t te)) (k : α) (tk ty : TypeId) :
 (Builtin.delete_ #[tm, tk] ty #[.map (some b), ky.enc k]).run P w = .ok (.tuple #[]) (setBlock w b (.map ((mdel k L).map (ent ky.enc)).toArray c)) := by
 have hf : (Instr.findKey t (ky.enc k) (L.map (ent ky.enc)).toArray.toList).run P w = .ok (fnd k L 0) w := ky.find k L w; unfold Builtin.delete_; simp only [List.getElem?_toArray, List.getElem?_cons_zero, List.getElem?_cons_succ, Sem.run_bind, run_underlying ht, Result.andThen_ok, MapKept.run_getObj_map M.h, ky.chk, hf]; cases hq : fnd k L 0 with
 | none =>
  rw [mdel_none (fnd_none hq)]; simp only [Sem.run_bind, MapKept.run_setObj_map _ M.h, Result.andThen_ok, Sem.run_pure]
  rfl
 | some p =>
  obtain ⟨j, hj, x, hx, hkx, hv, hm⟩ := fnd_some hq; obtain ⟨i, pv⟩ := p; simp only [Nat.zero_add] at hj hv; subst hj; simp only [Sem.run_bind, MapKept.run_setObj_map _ M.h, Result.andThen_ok, Sem.run_pure]
  have he : (L.map (ent ky.enc)).toArray.eraseIdxIfInBounds i = ((mdel k L).map (ent ky.enc)).toArray := by
   rw [mdel_at M.keys hx hkx]; have hi : i < L.length := (List.getElem?_eq_some_iff.1 hx).1; simp [Array.eraseIdxIfInBounds, hi]
   apply List.ext_getElem?
   intro m; simp only [List.getElem?_eraseIdx, List.getElem?_map]
   split <;> rfl
  rw [he]
  rfl
theorem run_mlen {ky : Ky P t α} {b : Nat} {L : List (α × Value × Nat)} {c : Nat} (M : Mp ky w b L c) (ht : P.underlying tm = some (.map t te)) (ty : TypeId) :
 (Builtin.len_ #[tm] ty #[.map (some b)]).run P w = .ok (.int .i64 L.length) w := by
 unfold Builtin.len_; simp [Sem.run_bind, run_underlying ht, Result.andThen_ok, MapKept.run_getObj_map M.h, Sem.run_pure, goInt]
variable {kk : Value → World → Prop}
theorem dc_mset {ky : Ky P t α} {b : Nat} {L : List (α × Value × Nat)} {c : Nat} {k : α} {u : Value} (M : Mp ky w b L c) (ht : P.underlying tm = some (.map t te))
 (hx : ev ρ x = .map (some b)) (hy : ev ρ y = ky.enc k) (hv : ev ρ v = u) (h : ∀ w' c', Mp ky w' b (mset k u c L) c' → Up (One b) w w' → kk undef w') :
 Does P ⟨d, .mapUpdate tm x y v, ty, pos, af, g⟩ ρ w kk := by
 have hrun : (execOp (ev ρ) ⟨d, .mapUpdate tm x y v, ty, pos, af, g⟩).run P w = .ok .skip (setBlock w b (.map ((mset k u c L).map (ent ky.enc)).toArray (if k ∈ L.map (·.1) then c else c + 1))) := by
  simp only [execOp, hx, hy, hv, Sem.run_bind, run_mset M ht, Result.andThen_ok]
  rfl
 unfold Does; rw [hrun]; exact h _ _ (M.set k u) Up.setBlock
theorem dc_mdel {ky : Ky P t α} {b : Nat} {L : List (α × Value × Nat)} {c : Nat} {k : α} {tk : TypeId} (M : Mp ky w b L c) (ht : P.underlying tm = some (.map t te))
 (hx : ev ρ x = .map (some b)) (hy : ev ρ y = ky.enc k) (h : ∀ w', Mp ky w' b (mdel k L) c → Up (One b) w w' → kk (.tuple #[]) w') :
 Does P ⟨d, .call { callee := .builtin .delete, args := #[x, y], argTypes := #[tm, tk] }, ty, pos, af, g⟩ ρ w kk := by
 have hrun : (execOp (ev ρ) ⟨d, .call { callee := .builtin .delete, args := #[x, y], argTypes := #[tm, tk] }, ty, pos, af, g⟩).run P w = .ok (.value (.tuple #[])) (setBlock w b (.map ((mdel k L).map (ent ky.enc)).toArray c)) := by
  have := run_mdel M ht k tk ty; simp [execOp, resolve, invoke, builtin, hx, hy, Sem.run_bind, this, Result.andThen_ok, Sem.run_pure]
 unfold Does; rw [hrun]; exact h _ (M.del k) Up.setBlock
theorem rw_mlen {ky : Ky P t α} {b : Nat} {L : List (α × Value × Nat)} {c : Nat} (M : Mp ky w b L c) (ht : P.underlying tm = some (.map t te)) (hx : ev ρ x = .map (some b)) :
 Rw P ⟨d, .call { callee := .builtin .len, args := #[x], argTypes := #[tm] }, ty, pos, af, g⟩ ρ w (.int .i64 L.length) := by
 have := run_mlen M ht ty; unfold Rw; simp [execOp, resolve, invoke, builtin, hx, Sem.run_bind, this, Result.andThen_ok, Sem.run_pure]
def It {α : Type} (w : World) (r b : Nat) (L : List (α × Value × Nat)) (c : Nat) (rem : List (α × Value × Nat)) (lst : Option (α × Value × Nat)) : Prop :=
 ∃ seen : Array Nat, w.heap[r]? = some (.mapIter (some b) c seen c) ∧ rem = (L.filter fun x => !seen.contains x.2.2) ∧ seen.back? = lst.map (·.2.2)
theorem It.to {α : Type} {w' : World} {r b c : Nat} {L rem : List (α × Value × Nat)} {lst : Option (α × Value × Nat)} (h : It w r b L c rem lst) (hb : w'.heap[r]? = w.heap[r]?) : It w' r b L c rem lst :=
 let ⟨s, h1, h2⟩ := h
 ⟨s, hb.trans h1, h2⟩
theorem It.lt {α : Type} {r b c : Nat} {L rem : List (α × Value × Nat)} {lst : Option (α × Value × Nat)} (h : It w r b L c rem lst) : r < w.heap.size := by
 obtain ⟨s, h1, _⟩ := h; exact (Array.getElem?_eq_some_iff.1 h1).1
theorem It.sub {α : Type} {r b c : Nat} {L rem : List (α × Value × Nat)} {lst : Option (α × Value × Nat)} (h : It w r b L c rem lst) : rem.Sublist L := by
 obtain ⟨s, _, h2, _⟩ := h; subst h2; exact List.filter_sublist
theorem dc_range {ky : Ky P t α} {b : Nat} {L : List (α × Value × Nat)} {c : Nat} (M : Mp ky w b L c) (ht : P.underlying tm = some (.map t te))
 (hx : ev ρ x = .map (some b)) (h : ∀ r w', w.heap.size ≤ r → r < w'.heap.size → It w' r b L c L none → Up No w w' → kk (.pointer (some ⟨r, 0, none⟩)) w') :
 Does P ⟨d, .range tm x, ty, pos, af, g⟩ ρ w kk := by
 have hrun : (execOp (ev ρ) ⟨d, .range tm x, ty, pos, af, g⟩).run P w = .ok (.value (.pointer (some ⟨w.heap.size, 0, none⟩))) (w.alloc (.mapIter (some b) c #[] c)) := by
  simp only [execOp, hx, Instr.range, Sem.run_bind, run_underlying ht, Result.andThen_ok, MapKept.run_getObj_map M.h, Sem.run_pure]
  rfl
 unfold Does; rw [hrun]; refine h _ _ (Nat.le_refl _) (by simp) ⟨#[], heap_alloc_new _ _, ?_, rfl⟩ (Up.alloc _ _ _); exact (List.filter_eq_self.2 fun x _ => by simp).symm
theorem dc_next {ky : Ky P t α} {r b : Nat} {L rem : List (α × Value × Nat)} {c : Nat} {lst : Option (α × Value × Nat)} (M : Mp ky w b L c) (I : It w r b L c rem lst) (hx : ev ρ x = .pointer (some ⟨r, 0, none⟩))
 (h0 : rem = [] → kk (.tuple #[.bool false]) w)
 (h1 : ∀ e w', e ∈ rem → It w' r b L c (rem.filter fun z => !decide (e.2.2 = z.2.2)) (some e) → Up (One r) w w' → kk (.tuple #[.bool true, ky.enc e.1, e.2.1]) w') :
 Does P ⟨d, .next x false, ty, pos, af, g⟩ ρ w kk := by
 obtain ⟨seen, hr, hrem, hl⟩ := I
 have hleft : (leftOf (L.map (ent ky.enc)).toArray seen).toList = rem.map (ent ky.enc) := by
  subst hrem; unfold leftOf; rw [Array.toList_filter, List.filter_map]
  congr 1
 have hbm : b ≠ r := fun e => by subst e; rw [M.h] at hr; cases hr
 rcases run_next_at (P := P) w ty r b c c seen (L.map (ent ky.enc)).toArray c hr M.h (fun x hx => by
  obtain ⟨y, hy, rfl⟩ := List.mem_map.1 (by simpa using hx : x ∈ L.map (ent ky.enc))
  exact M.clock y hy) (Nat.le_refl _) with ⟨hz, hrun⟩ | ⟨e, he, w1, hw1, hrun⟩
 ·have : rem = [] := by
   have h := congrArg List.length hleft; simp only [Array.length_toList, List.length_map] at h; exact List.eq_nil_of_length_eq_zero (by omega)
  unfold Does
  have hrun' : (execOp (ev ρ) ⟨d, .next x false, ty, pos, af, g⟩).run P w = .ok (.value (.tuple #[.bool false])) w := by
   simp only [execOp, hx, Sem.run_bind, hrun, Result.andThen_ok, Sem.run_pure]
  rw [hrun']; exact h0 this
 ·rw [hleft] at he; obtain ⟨y, hy, rfl⟩ := List.mem_map.1 he; unfold Does
  have hrun' : (execOp (ev ρ) ⟨d, .next x false, ty, pos, af, g⟩).run P w = .ok (.value (.tuple #[.bool true, ky.enc y.1, y.2.1])) (setBlock w1 r (.mapIter (some b) c (seen.push y.2.2) c)) := by
   simp only [execOp, hx, Sem.run_bind, hrun, Result.andThen_ok, Sem.run_pure, ent]
  rw [hrun']; have hrl : r < w.heap.size := (Array.getElem?_eq_some_iff.1 hr).1
  have hw1h : w1.heap = w.heap := by rcases hw1 with rfl | rfl <;> rfl
  refine h1 y _ hy ⟨seen.push y.2.2, ?_, ?_, by simp⟩ ?_
  ·simp [setBlock, hw1h, hrl]
  ·rw [hrem, List.filter_filter]
   congr 1
   funext z
   by_cases q : z.2.2 = y.2.2
   ·simp [q]
   ·have q' : ¬ y.2.2 = z.2.2 := fun h => q h.symm; simp [q, q']
  ·have hu : Up (One r) w w1 := by
    rcases hw1 with rfl | rfl
    ·exact Up.refl _ _
    ·exact Up.drew _ _
   exact hu.trans Up.setBlock
theorem rw_entry {ky : Ky P t α} {r b : Nat} {L rem : List (α × Value × Nat)} {c : Nat} {e : α × Value × Nat} (M : Mp ky w b L c) (I : It w r b L c rem (some e)) (he : e ∈ L) (hx : ev ρ x = .pointer (some ⟨r, 0, none⟩)) :
 Rw P ⟨d, .entry x, ty, pos, af, g⟩ ρ w (.tuple #[ky.enc e.1, e.2.1]) := by
 obtain ⟨seen, hr, hrem, hl⟩ := I
 have hs : ∃ s0, seen = Array.push s0 e.2.2 := by
  simp only [Option.map_some] at hl
  exact ⟨seen.pop, (Array.eq_push_pop_back!_of_size_ne_zero (by
   intro h0; have : seen = #[] := Array.eq_empty_of_size_eq_zero h0; subst this
   simp at hl)).trans (by rw [Array.back!_eq_back?, hl]; rfl)⟩
 obtain ⟨s0, rfl⟩ := hs; have := run_entry_at (P := P) w r b c s0 (L.map (ent ky.enc)).toArray c (ent ky.enc e) hr M.h (by simpa using List.mem_map.2 ⟨e, he, rfl⟩) (by simpa [Function.comp_def, ent] using M.born); unfold Rw; simp only [execOp, hx, Sem.run_bind, this, Result.andThen_ok, Sem.run_pure, ent]
end Go.Mg

namespace Go.Mg
open Go
set_option linter.unusedVariables false
variable {P : Program} {w : World}
theorem run_underlying' {d : TypeDesc} {t : TypeId} (h : P.underlying t = some d) : (underlying t).run P w = .ok d w := by
 simp only [underlying, program, Sem.run_bind, Sem.run, h, Result.andThen_ok, Sem.run_pure]
theorem eqf_cons {d : Nat} {xs ys : Array Value} {f : Field} {fs : List Field} {a b : Value} {r s : Bool} (hn : (f.name == "_") = false) (ha : (part f.type xs f.offset).run P w = .ok a w) (hb : (part f.type ys f.offset).run P w = .ok b w)
 (he : (Op.equalIn d f.type a b).run P w = .ok r w) (hr : (Op.eqFields d xs ys fs).run P w = .ok s w) : (Op.eqFields d xs ys (f :: fs)).run P w = .ok (r && s) w := by
 have hn' : f.name ≠ "_" := by simpa using hn
 rw [Op.eqFields]; simp only [if_pos hn', Sem.run_bind, ha, hb, he, Result.andThen_ok]
 cases r
 ·simp
 ·simpa using hr
def partV (P : Program) (t : TypeId) (cs : List Value) (off : Nat) : Option Value :=
 match aggOf P t with
 | some (true, n) => if ((cs.drop off).take n).length = n then some (.agg ((cs.drop off).take n).toArray) else none
 | some (false, _) => cs[off]?
 | none => none
def vEq (P : Program) : Nat → TypeId → Value → Value → Option Bool
 | 0, _, _, _ => none
 | d + 1, t, x, y =>
  match P.underlying t, x, y with
  | some .bool, .bool a, .bool b => some (a == b)
  | some (.int _), .int k a, .int k' b => if k = k' then some (a == b) else none
  | some .string, .string a, .string b => some (a == b)
  | some (.struct fs), .agg xs, .agg ys => if P.stoodInHeld t then none else
   fs.toList.foldr (fun f acc => if f.name == "_" then none else match partV P f.type xs.toList f.offset, partV P f.type ys.toList f.offset with
    | some a, some b => match vEq P d f.type a b, acc with
     | some r, some s => some (r && s)
     | _, _ => none
    | _, _ => none) (some true)
  | _, _, _ => none
theorem part_run {t : TypeId} {cs : Array Value} {off : Nat} {v : Value} (h : partV P t cs.toList off = some v) : (part t cs off).run P w = .ok v w := by
 unfold partV at h; cases ha : aggOf P t with
 | none => rw [ha] at h; cases h
 | some p =>
  obtain ⟨a, n⟩ := p; rw [ha] at h; obtain ⟨h1, h2⟩ := aggOf_run (w := w) ha
  cases a with
  | true =>
   simp only at h
   split at h
   ·rename_i hl
    cases h
    have hl' : off + n ≤ cs.size ∨ n = 0 := by
     rw [List.length_take, List.length_drop, Array.length_toList] at hl
     omega
    have he : cs.extract off (off + n) = ((cs.toList.drop off).take n).toArray := by
     apply Array.ext'
     simp [List.take_drop, Array.toList_extract]
    unfold part; simp only [Sem.run_bind, h1, h2, Result.andThen_ok, if_true, he, Sem.run_pure]
   ·cases h
  | false =>
   simp only at h
   have hx : cs[off]? = some v := by simpa using h
   unfold part; simp [Sem.run_bind, h1, Result.andThen_ok, hx, Sem.run_pure]
theorem vEq_run : ∀ (d : Nat) (t : TypeId) (x y : Value) (r : Bool), vEq P d t x y = some r → (Op.equalIn d t x y).run P w = .ok r w := by
 intro d
 induction d with
 | zero => intro t x y r h; cases h
 | succ d ih =>
  intro t x y r h; unfold vEq at h
  split at h
  ·rename_i a b hu
   cases h; simp only [Op.equalIn, Sem.run_bind, run_underlying' hu, Result.andThen_ok, Sem.run_pure]
  ·rename_i k a k' b hu
   split at h
   ·rename_i hk
    cases h; subst hk; simp only [Op.equalIn, Sem.run_bind, run_underlying' hu, Result.andThen_ok, Sem.run_pure, if_true]
   ·cases h
  ·rename_i a b hu
   cases h; simp only [Op.equalIn, Sem.run_bind, run_underlying' hu, Result.andThen_ok, Sem.run_pure]
  ·rename_i fs xs ys hu
   split at h
   ·cases h
   ·rename_i hp
    have hf : P.fieldsOf t = fs := by simp [Program.fieldsOf, hu]
    rw [run_equalIn_struct (P := P) w d t xs ys (by rw [hf]; exact hu) (by simpa using hp), hf]
    generalize fs.toList = l at h
    clear hu hf
    induction l generalizing r with
    | nil => simp only [List.foldr_nil] at h; cases h; simp [Op.eqFields]
    | cons f l ihl =>
     simp only [List.foldr_cons] at h
     split at h
     ·cases h
     ·rename_i hn
      split at h
      ·rename_i a b ha hb
       split at h
       ·rename_i r1 s1 h1 h2
        cases h; exact eqf_cons (by simpa using hn) (part_run ha) (part_run hb) (ih _ _ _ _ h1) (ihl _ h2)
       ·cases h
      ·cases h
  ·cases h
section
variable {ρ : En} {t t2 : TypeId} {x y : Operand} {d : Option Tmp} {ty : TypeId} {pos : String} {af : Array Edge} {g : Option (Nat × Bool)} {as bs : List Value} {r : Bool}
theorem guard_agg (hg : P.eqGuardType P.depth t = false) (op : BinOp) : (eqGuard op t x y (.agg as.toArray) (.agg bs.toArray)).run P w = .ok () w := by
 unfold eqGuard
 cases op <;> simp [Sem.run_bind, program, Sem.run, hg]
theorem rv_aeql (hg : P.eqGuardType P.depth t = false) (hx : ev ρ x = .agg as.toArray) (hy : ev ρ y = .agg bs.toArray) (h : vEq P Op.maxDepth t (.agg as.toArray) (.agg bs.toArray) = some r) :
 Rv P ⟨d, .binOp .eql t x y t2, ty, pos, af, g⟩ ρ (.bool r) := fun w => run_cmp hx hy (guard_agg hg _) (by
  simp only [binOp, Op.equal, Sem.run_bind, vEq_run _ _ _ _ _ h, Result.andThen_ok, Sem.run_pure])
theorem rv_aneq (hg : P.eqGuardType P.depth t = false) (hx : ev ρ x = .agg as.toArray) (hy : ev ρ y = .agg bs.toArray) (h : vEq P Op.maxDepth t (.agg as.toArray) (.agg bs.toArray) = some r) :
 Rv P ⟨d, .binOp .neq t x y t2, ty, pos, af, g⟩ ρ (.bool (!r)) := fun w => run_cmp hx hy (guard_agg hg _) (by
  simp only [binOp, Op.equal, Sem.run_bind, vEq_run _ _ _ _ _ h, Result.andThen_ok, Sem.run_pure])
end
section
variable {e : TypeId} {cs : List Value} {b o off : Nat} {ρ : En} {x : Operand} {d : Option Tmp} {ty : TypeId} {pos : String} {af : Array Edge} {g : Option (Nat × Bool)}
theorem rw_el1 {c : Value} (ha : aggOf P e = some (false, 1)) (hc : ∀ j c, cs[j]? = some c → w.cell? ⟨b, o + j, none⟩ = some c) (hr : cs[off]? = some c) (hx : ev ρ x = .pointer (some ⟨b, o + off, none⟩)) :
 Rw P ⟨d, .load e x, ty, pos, af, g⟩ ρ w c := rw_cell ha (hc _ _ hr) hx
end
end Go.Mg

namespace Go.Mg
open Go
variable {P : Program} {w : World} {α : Type} {k : Kd α} {S : Nat → Prop} {v u : Value} {xs : List α} {e base : Nat}
theorem Chk.take {cs : List Value} (h : Chk k S w cs xs) : ∀ n, Chk k S w (cs.take (n * k.sz)) (xs.take n) := by
 induction h with
 | nil => intro n; simpa using Chk.nil
 | @cons c cs x xs h1 _ ih =>
  intro n
  cases n with
  | zero => simpa using Chk.nil
  | succ n =>
   have hl := k.len h1; rw [List.take_succ_cons, List.take_append, List.take_of_length_le (by rw [hl, Nat.succ_mul]; omega)]; rw [show (n + 1) * k.sz - c.length = n * k.sz from by rw [hl, Nat.succ_mul]; omega]; exact .cons h1 (ih n)
theorem Chk.drop {cs : List Value} (h : Chk k S w cs xs) : ∀ n, Chk k S w (cs.drop (n * k.sz)) (xs.drop n) := by
 induction h with
 | nil => intro n; simpa using Chk.nil
 | @cons c cs x xs h1 h2 ih =>
  intro n
  cases n with
  | zero => simpa using Chk.cons h1 h2
  | succ n =>
   have hl := k.len h1; rw [List.drop_succ_cons, List.drop_append, List.drop_eq_nil_of_le (as := c) (by rw [hl, Nat.succ_mul]; omega), List.nil_append]; rw [show (n + 1) * k.sz - c.length = n * k.sz from by rw [hl, Nat.succ_mul]; omega]; exact ih n
theorem Chk.set {cs d : List Value} {y : α} (h : Chk k S w cs xs) {i : Nat} (hi : i < xs.length) (hd : k.rep S w d y) :
 Chk k S w (cs.take (i * k.sz) ++ d ++ cs.drop (i * k.sz + k.sz)) (xs.set i y) := by
 have h1 := h.take i; have h2 := h.drop (i + 1); rw [Nat.succ_mul] at h2; rw [List.set_eq_take_append_cons_drop, if_pos hi, List.append_assoc]; exact h1.append (.cons hd h2)
theorem rv_pre {A : Option Addr} {n c : Nat} {i : Int} {t by_ : Nat} (el : El P k t e by_) (h0 : 0 ≤ i) (h1 : i.toNat ≤ c) {ρ : En} {d : Option Tmp} {ty : TypeId} {pos : String} {af : Array Edge} {g : Option (Nat × Bool)} {x z : Operand} {kh : IntKind}
 (hx : ev ρ x = .slice A n c) (hz : ev ρ z = .int kh i) : Rv P ⟨d, .slice t x none (some z) none, ty, pos, af, g⟩ ρ (.slice (if c = 0 then A else A.map (·.add (0 * k.sz))) (i.toNat - 0) (c - 0)) := fun w' => by
 have hsz := el.toTy.size (w := w'); have e1 : (Instr.sliceBound (.int kh i) c .sliceAcap).run P w' = .ok i.toNat w' := run_sliceBound w' kh i c _ (by omega) (by omega)
 simp only [execOp, hx, hz, Option.map_some, Option.map_none, Instr.sliceAt, Instr.slice, underlying, program, Sem.run_bind, Sem.run, el.ht, Result.andThen_ok, Sem.run_pure, Instr.sliceBounds,
  if_true, Option.isSome_none, Bool.false_eq_true, if_false, e1, hsz]
theorem Ow.upto {i : Int} {ys : List α} (h : Ow k e S base w v xs) (hi : upto_ xs i = some ys) {t by_ : Nat} (el : El P k t e by_) :
 ∃ u, Ow k e S base w u ys ∧ (∀ b, Blk u b → Blk v b) ∧ ∀ {ρ : En} {d : Option Tmp} {ty : TypeId} {pos : String} {af : Array Edge} {g : Option (Nat × Bool)} {x z : Operand} {kh : IntKind},
  ev ρ x = v → ev ρ z = .int kh i → Rv P ⟨d, .slice t x none (some z) none, ty, pos, af, g⟩ ρ u := by
 unfold upto_ at hi
 split at hi
 case isFalse => cases hi
 rename_i hb
 cases hi; obtain ⟨cs, ⟨h1, h1'⟩, h2, h3, h4⟩ := h
 have hle : i.toNat ≤ xs.length := by omega
 rcases h1' with ⟨rfl, hn⟩ | ⟨g, cap, cur, rfl, hbg, hg, hnc, hcm, hcs, htk⟩
 ·have : xs = [] := List.eq_nil_of_length_eq_zero hn; subst this
  have hi0 : i = 0 := by simp at hb; omega
  subst hi0; exact ⟨.slice none 0 0, by simpa using Ow.nil k e S base w, fun b hb => hb, fun hx hz => rv_pre el (Int.le_refl _) (Nat.le_refl _) hx hz⟩
 ·refine ⟨.slice (some ⟨g, 0, none⟩) i.toNat cap, ⟨cs.take (i.toNat * k.sz), ⟨?_, .inr ⟨g, cap, cur, ?_, hbg, hg, by rw [List.length_take]; omega, hcm, hcs, ?_⟩⟩, h2.take _, ?_, fun b hb => h4 b hb⟩, fun b hb => hb, fun {ρ d ty pos af g0 x z kh} hx hz => ?_⟩
  ·rw [List.length_take, List.length_take, h1, Nat.min_eq_left (Nat.mul_le_mul_right _ hle), Nat.min_eq_left hle]
  ·rw [List.length_take, Nat.min_eq_left hle]
  ·rw [List.length_take, Nat.min_eq_left hle, ← htk, List.take_take, Nat.min_eq_left (Nat.mul_le_mul_right _ hle)]
  ·exact Nat.le_trans (by rw [List.length_take]; exact Nat.min_le_right _ _) h3
  ·have := rv_pre (d := d) (ty := ty) (pos := pos) (af := af) (g := g0) el hb.1 (by omega : i.toNat ≤ cap) hx hz
   have e1 : (if cap = 0 then (some ⟨g, 0, none⟩ : Option Addr) else (some (⟨g, 0, none⟩ : Addr)).map (·.add (0 * k.sz))) = some ⟨g, 0, none⟩ := by
    split
    ·rfl
    ·simp [Addr.add]
   rw [e1] at this; exact this
theorem take_splice {β : Type} (L ds : List β) (a m : Nat) (h : a + ds.length ≤ m) (hm : m ≤ L.length) :
 (L.take a ++ ds ++ L.drop (a + ds.length)).take m = (L.take m).take a ++ ds ++ (L.take m).drop (a + ds.length) := by
 have e1 : (L.take a).length = a := by rw [List.length_take]; omega
 have e2 : ((L.take m).take a).length = a := by rw [List.length_take, List.length_take]; omega
 apply List.ext_getElem?
 intro j; rw [List.getElem?_take]
 by_cases hj : j < m
 ·rw [if_pos hj]
  by_cases h1 : j < a
  ·rw [List.append_assoc, List.append_assoc, List.getElem?_append_left (by omega), List.getElem?_append_left (by omega), List.getElem?_take, List.getElem?_take, List.getElem?_take, if_pos h1, if_pos h1, if_pos hj]
  ·by_cases h2 : j < a + ds.length
   ·have hA : (L.take a ++ ds ++ L.drop (a + ds.length))[j]? = ds[j - a]? := by
     rw [List.append_assoc, List.getElem?_append_right (by omega), e1, List.getElem?_append_left (by omega)]
    have hB : ((L.take m).take a ++ ds ++ (L.take m).drop (a + ds.length))[j]? = ds[j - a]? := by
     rw [List.append_assoc, List.getElem?_append_right (by omega), e2, List.getElem?_append_left (by omega)]
    rw [hA, hB]
   ·have hA : (L.take a ++ ds ++ L.drop (a + ds.length))[j]? = L[j]? := by
     rw [List.getElem?_append_right (by rw [List.length_append]; omega), List.length_append, e1, List.getElem?_drop, show a + ds.length + (j - (a + ds.length)) = j from by omega]
    have hB : ((L.take m).take a ++ ds ++ (L.take m).drop (a + ds.length))[j]? = L[j]? := by
     rw [List.getElem?_append_right (by rw [List.length_append]; omega), List.length_append, e2, List.getElem?_drop, show a + ds.length + (j - (a + ds.length)) = j from by omega, List.getElem?_take, if_pos hj]
    rw [hA, hB]
 ·rw [if_neg hj, List.getElem?_eq_none]; rw [List.length_append, List.length_append, e2, List.length_drop, List.length_take]
  omega
theorem xw {by_ : Nat} {i : Int} {y : α} {z : α} {ρ : En} {d : Option Tmp} {ty : TypeId} {pos : String} {af : Array Edge} {g : Option (Nat × Bool)} {x q : Operand} {kk : Value → World → Prop}
 (el : Ty P k e by_) (ho : Ow k e S base w v xs) (hi : at_ xs i = some z) (hx : ev ρ x = .pointer (some ⟨sb v, so v + i.toNat * k.sz, none⟩)) (hq : ev ρ q = u) (hu : Sl k S w u y)
 (h : ∀ w', Ow k e S base w' v (xs.set i.toNat y) → Up (Blk v) w w' → kk undef w') : Does P ⟨d, .store e x q, ty, pos, af, g⟩ ρ w kk := by
 obtain ⟨h0, hl, _⟩ := at_some hi; obtain ⟨cs, ⟨h1, h1'⟩, h2, h3, h4⟩ := ho; obtain ⟨ds, hv, hr⟩ := hu; have hcells := k.val_cells hr; rw [← hv] at hcells; rcases h1' with ⟨rfl, hn⟩ | ⟨gb, cap, cur, rfl, hbg, hg, hnc, hcm, hcs, htk⟩
 ·omega
 ·have hdl := k.len hr
  have hil : i.toNat < xs.length := by omega
  have hfit : i.toNat * k.sz + k.sz ≤ xs.length * k.sz := by rw [← Nat.succ_mul]; exact Nat.mul_le_mul_right _ hil
  have hfit2 : xs.length * k.sz ≤ cap * k.sz := Nat.mul_le_mul_right _ hnc
  have hcl : cur.toList.length = cap * k.sz := by simpa using hcs
  have hst := run_storeCells_at P gb (i.toNat * k.sz) e ds 0 cur w hg (by rw [hdl, hcs]; omega) (k.one hr)
  have hrun : ∃ r : Array Value, r.toList = cur.toList.take (i.toNat * k.sz) ++ ds ++ cur.toList.drop (i.toNat * k.sz + k.sz) ∧ (execOp (ev ρ) ⟨d, .store e x q, ty, pos, af, g⟩).run P w = .ok .skip (w.setRow gb r) := by
   have hx' : ev ρ x = .pointer (some ⟨gb, i.toNat * k.sz, none⟩) := by rw [hx]; simp [sb, so]
   refine ⟨_, rfl, ?_⟩; simp only [Nat.add_zero, hdl] at hst; simp only [execOp, Instr.storeAt, Instr.sureAddr, hx', hq, Sem.run_bind, Sem.run_pure, Result.andThen_ok, storeVar, el.size, hcells]; simp only [List.size_toArray, hdl, ne_eq, not_true_eq_false, if_false]; simpa using congrArg (fun r => Result.andThen r fun _ w' => Result.ok Next.skip w') hst
  obtain ⟨r, hr1, hrun⟩ := hrun; unfold Does; rw [hrun]; have hset := h2.set hil hr; have up : Up (Blk (.slice (some ⟨gb, 0, none⟩) xs.length cap)) w (w.setRow gb r) := ⟨rfl, rfl, rfl, by simp, fun b _ hb => setRow_other w gb b r fun e => hb (by subst e; rfl)⟩; refine h _ ⟨cs.take (i.toNat * k.sz) ++ ds ++ cs.drop (i.toNat * k.sz + k.sz), ⟨?_, .inr ⟨gb, cap, r, by rw [List.length_set], hbg, setRow_heap w gb cur r e _ hg, by rw [List.length_set]; exact hnc, hcm, ?_, ?_⟩⟩, ?_, by rw [List.length_set]; exact h3, h4⟩ up
  ·rw [List.length_set, List.length_append, List.length_append, List.length_take, List.length_drop, hdl, h1]; omega
  ·rw [← Array.length_toList, hr1, List.length_append, List.length_append, List.length_take, List.length_drop, hdl, hcl]; omega
  ·rw [hr1, List.length_set, ← htk]; have := take_splice cur.toList ds (i.toNat * k.sz) (xs.length * k.sz) (by omega) (by omega); rw [hdl] at this; exact this
  ·exact hset.to (fun _ h => h) (up.sm fun b hb _ hB => h4 b hB hb)
theorem rv_suf {A : Option Addr} {n c : Nat} {i : Int} {t by_ : Nat} (el : El P k t e by_) (h0 : 0 ≤ i) (h1 : i.toNat ≤ n) (hc : n ≤ c) {ρ : En} {d : Option Tmp} {ty : TypeId} {pos : String} {af : Array Edge} {g : Option (Nat × Bool)} {x y : Operand} {kl : IntKind}
 (hx : ev ρ x = .slice A n c) (hy : ev ρ y = .int kl i) : Rv P ⟨d, .slice t x (some y) none none, ty, pos, af, g⟩ ρ (.slice (if c = i.toNat then A else A.map (·.add (i.toNat * k.sz))) (n - i.toNat) (c - i.toNat)) := fun w' => by
 have hsz := el.toTy.size (w := w'); have e2 : (Instr.sliceBound (.int kl i) n .sliceB).run P w' = .ok i.toNat w' := run_sliceBound w' kl i n _ (by omega) (by omega)
 simp only [execOp, hx, hy, Option.map_some, Option.map_none, Instr.sliceAt, Instr.slice, underlying, program, Sem.run_bind, Sem.run, el.ht, Result.andThen_ok, Sem.run_pure, Instr.sliceBounds,
  Option.isSome_none, Bool.false_eq_true, if_false, e2, hsz]
theorem dc_callV {ρ : En} {q : Operand} {d : Option Tmp} {ty : TypeId} {pos : String} {af : Array Edge} {g : Option (Nat × Bool)} {f : FuncId} {as : List Operand} {ts : Array TypeId} {vs : List Value} {kk : Value → World → Prop} (hq : ev ρ q = .func (.func f) #[] #[]) (hc : yi P f = true) (hv : as.map (ev ρ) = vs)
 (h : Calls P f vs.toArray w fun e w' => ∃ v, e = .returned v ∧ kk v w') :
 Does P ⟨d, .call { callee := .value q, args := as.toArray, argTypes := ts }, ty, pos, af, g⟩ ρ w kk := by
 have h0 := qp (P := P) (ρ := ρ) (d := d) (ty := ty) (pos := pos) (af := af) (g := g) (ts := ts) hc hv h
 have e : (execOp (ev ρ) ⟨d, .call { callee := .value q, args := as.toArray, argTypes := ts }, ty, pos, af, g⟩) = (execOp (ev ρ) ⟨d, .call { callee := .value (.func f), args := as.toArray, argTypes := ts }, ty, pos, af, g⟩) := by
  have e2 : ev ρ (.func f) = .func (.func f) #[] #[] := rfl; simp only [execOp, resolve, hq, e2]
 unfold Does at *; rw [e]; exact h0
end Go.Mg
