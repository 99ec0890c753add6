/- Rows: from a statement's arguments to the walks' words; Objects: a pointer to a struct that is the call's alone to turn; the blocks that it owns; Objects whose maps hold rows of their own (rows that are turned in place); Regions that draw their order: an operation that only reads may be taken first where whoever could come ahead of it leaves alone what it reads; Objects that turn, along a walk; copy, cap, overlaps: for a walk through the library's Insert. -/
import Derived.Test.YtganbpmicmbamaaGreatMgX1
import Derived.WalkKit
import Derived.ProofKit
import Derived.OpenShut
import Derived.ShutString
import Derived.ChangeOld
import Derived.Below
import Derived.Carry
import Derived.SizedLaws
import Derived.ChangeSlices
import Derived.Test.YtganbpmicmbamaaGreatMgX2
import Derived.Laws.CopyRow
import Derived.Lib.AppendZerosOnto
import Derived.Lib.Overlaps
namespace Go.Mg
open Go Go.ChangeShapes Go.WideShapes Go.ChangeAt Go.RowKit
def Opn {α : Type} (P : Program) (t : TypeId) (k : Kd α) (R : α → Prop) : Prop :=
 ∀ {H : Type} {enc : TypeId × Value → H} {W : World} {fuel : Nat} {cs : List Value} {d : DataW H} {ps : List MemPlace},
  DataW.trod enc P W 0 (fun _ => true) true fuel t cs = some (d, ps) → (∀ n ∈ d.weights P t, n ≤ reachBytes) →
  ∃ x, k.rep (fun b => b < W.heap.size) W cs x ∧ R x
def OkI (k : IntKind) : Int → Prop := fun x => (Lit.int k x).wf = true
def OkL {α : Type} (R : α → Prop) : List α → Prop := fun xs => xs.length ≤ lim ∧ ∀ x ∈ xs, R x
theorem opn_int {P : Program} {t : TypeId} {k : IntKind} (h : P.underlying t = some (.int k)) : Opn P t (kI k) (OkI k) := by
 intro H enc W fuel cs d ps hd _; obtain ⟨n, rfl, hx, hw⟩ := DataW.trod_int h hd; exact ⟨n, rfl, hw⟩
theorem weightsAll_mem {H : Type} {P : Program} {e : TypeId} : ∀ {ds : List (DataW H)} {d : DataW H}, d ∈ ds → ∀ n ∈ d.weights P e, n ∈ DataW.weightsAll P e ds := by
 intro ds
 induction ds with
 | nil => intro d hd; cases hd
 | cons x r ih =>
  intro d hd n hn; simp only [DataW.weightsAll, List.mem_append]; rcases List.mem_cons.1 hd with rfl | hd
  ·exact .inl hn
  ·exact .inr (ih hd n hn)
theorem list_pick {α : Type} {p : Nat → α → Prop} : ∀ n : Nat, (∀ i, i < n → ∃ x, p i x) → ∃ xs : List α, xs.length = n ∧ ∀ i x, xs[i]? = some x → p i x := by
 intro n
 induction n with
 | zero => intro _; exact ⟨[], rfl, fun i x h => by simp at h⟩
 | succ n ih =>
  intro h; obtain ⟨xs, hl, hx⟩ := ih fun i hi => h i (Nat.lt_succ_of_lt hi); obtain ⟨y, hy⟩ := h n (Nat.lt_succ_self n); refine ⟨xs ++ [y], by simp [hl], fun i x hi => ?_⟩; rcases Nat.lt_trichotomy i n with h1 | h1 | h1
  ·rw [List.getElem?_append_left (by omega)] at hi; exact hx i x hi
  ·subst h1; rw [List.getElem?_append_right (by omega), hl] at hi; simp at hi; subst hi; exact hy
  ·rw [List.getElem?_eq_none (by simp [hl]; omega)] at hi; cases hi
theorem opn_slice {α : Type} {P : Program} {t e : TypeId} {k : Kd α} {R : α → Prop} {sz : Nat} (h : P.underlying t = some (.slice e)) (hc : P.cellsOf e = sz) (hk : k.sz = sz) (hs : 0 < sz) (hb : 0 < P.bytesOf e) (hR : Opn P e k R) :
 Opn P t (kSl k) (OkL R) := by
 intro H enc W fuel cs d ps hd hz; rcases DataW.trod_slice h hd with ⟨rfl, hx⟩ | ⟨a, len, cap, elems, rest, n, _, rfl, hx, _, hl, hm, hlen, hel, hsp, hns⟩
 ·exact ⟨[], ⟨none, 0, rfl, Nat.le_refl _, Nat.zero_le _, .inl rfl⟩, Nat.zero_le _, fun x hx => by cases hx⟩
 ·obtain ⟨rfl, rfl⟩ := Prod.mk.inj hx
  have hw : (elems.length + rest.length) * P.bytesOf e ≤ reachBytes := by
   have := hz _ (by simp only [DataW.weights, h]; exact List.mem_cons_self); simpa using this
  have hlim : len ≤ lim := by
   have h1 : elems.length + rest.length ≤ (elems.length + rest.length) * P.bytesOf e := Nat.le_mul_of_pos_right _ hb
   have h2 : reachBytes ≤ lim := by decide
   omega
  have hone : ∀ i, i < len → ∃ x, (∃ cs, k.rep (fun b => b < W.heap.size) W cs x ∧ R x ∧ a.spot = none ∧ a.block < W.heap.size ∧ ∀ j c, cs[j]? = some c → W.cell? ⟨a.block, a.off + i * k.sz + j, none⟩ = some c) := by
   intro i hi; have h1 := hel i hi
   have hi' : i < elems.length := by omega
   rw [List.getElem?_eq_getElem hi', Option.bind_eq_some_iff] at h1; obtain ⟨cs, hcs, hcd⟩ := h1
   obtain ⟨x, hx, hRx⟩ := hR hcd (fun n hn => hz n (by
    simp only [DataW.weights, h]
    refine List.mem_cons_of_mem _ (List.mem_append.2 (.inl (weightsAll_mem (d := elems[i].1) (List.mem_map.2 ⟨_, List.getElem_mem hi', rfl⟩) n hn)))))
   obtain ⟨_, hcl, hce⟩ := World.cells?_some hcs; have hlt := World.cells?_block hcs (by omega); have hsz := k.len hx; refine ⟨x, cs, hx, hRx, ?_, by simpa [Addr.add] using (show a.block < W.heap.size by unfold Addr.add at hlt; split at hlt <;> exact hlt), ?_⟩
   ·have h0 := hel 0 (by omega); rw [List.getElem?_eq_getElem (by omega : 0 < elems.length), Option.bind_eq_some_iff] at h0; obtain ⟨cs0, hcs0, _⟩ := h0; obtain ⟨_, hcl0, hce0⟩ := World.cells?_some hcs0; have := hce0 0 (by omega); rw [List.getElem?_eq_getElem (by omega : 0 < cs0.length)] at this; simp only [Nat.zero_mul, Addr.add, if_true] at this; unfold World.cell? at this
    split at this
    ·split at this
     ·cases this
     ·rename_i hsp; simpa using hsp
    ·cases this
   ·intro j c hj; have hjl : j < cs.length := (List.getElem?_eq_some_iff.1 hj).1; have := hce j (by omega); rw [hj] at this; rw [← this, hc, ← hk]; have h0 := hel 0 (by omega); rw [List.getElem?_eq_getElem (by omega : 0 < elems.length), Option.bind_eq_some_iff] at h0; obtain ⟨cs0, hcs0, _⟩ := h0; obtain ⟨_, hcl0, hce0⟩ := World.cells?_some hcs0; have h0 := hce0 0 (by omega); rw [List.getElem?_eq_getElem (by omega : 0 < cs0.length)] at h0; simp only [Nat.zero_mul, Addr.add, if_true] at h0
    have hspot : a.spot = none := by
     unfold World.cell? at h0
     split at h0
     ·split at h0
      ·cases h0
      ·rename_i hsp; simpa using hsp
     ·cases h0
    obtain ⟨b, o, s⟩ := a; subst hspot
    congr 1
    unfold Addr.add
    split <;> split <;> simp_all <;> omega
  obtain ⟨xs, hxl, hxs⟩ := list_pick len hone; refine ⟨xs, ⟨some a, cap, by rw [hxl], by omega, by omega, ?_⟩, by omega, ?_⟩
  ·by_cases h0 : len = 0
   ·exact .inl (List.length_eq_zero_iff.1 (hxl.trans h0))
   ·obtain ⟨x, _, _, _, hspot, hblk, _⟩ := hone 0 (by omega); refine .inr ⟨a.block, a.off, by obtain ⟨b, o, s⟩ := a; cases hspot; rfl, hblk, fun i x hi => ?_⟩; obtain ⟨cs, hr, _, _, _, hcell⟩ := hxs i x hi; exact ⟨cs, hr, hcell⟩
  ·intro x hx; obtain ⟨i, hi, rfl⟩ := List.getElem_of_mem hx; obtain ⟨_, _, hRx, _⟩ := hxs i _ (List.getElem?_eq_getElem hi); exact hRx
theorem Opn.go {α : Type} {P : Program} {t : TypeId} {k : Kd α} {R : α → Prop} (o : Opn P t k R) {H : Type} {enc : TypeId × Value → H} {W : World} {v : Value} {d : DataW H} {ps : List MemPlace}
 (h : DataW.Trod enc P W 0 (fun _ => true) true t v d ps) (hz : ∀ n ∈ d.weights P t, n ≤ reachBytes) :
 ∃ x, k.rep (fun b => b < W.heap.size) W v.cells.toList x ∧ R x := by
 obtain ⟨fuel, hf⟩ := h; exact o hf hz
theorem sized_each {H : Type} {P : Program} {ts : List TypeId} {ds : List (DataW H)} {j : Nat} {t : TypeId} {d : DataW H} (h : (DataW.weightsEach P ts ds).all (· ≤ reachBytes) = true) (ht : ts[j]? = some t) (hd : ds[j]? = some d) :
 ∀ n ∈ d.weights P t, n ≤ reachBytes := fun n hn => by
 have := List.all_eq_true.1 h n (DataW.weights_mem_each ht hd n hn); simpa using this
theorem cx_below {S S1 : Nat → Prop} {w w1 : World} (h : Cx No S w S1 w1) : Below w.heap.size w w1 := h.up.below
theorem sb_all (w : World) : Sb (fun b => b < w.heap.size) w := fun _ hb => hb
theorem arg_slice {α : Type} {P : Program} {t : TypeId} {k : Kd α} {R : List α → Prop} (o : Opn P t (kSl k) R) {H : Type} {enc : TypeId × Value → H} {W : World} {a : Option Addr} {len cap : Nat} {d : DataW H} {ps : List MemPlace}
 (h : DataW.Trod enc P W 0 (fun _ => true) true t (.slice a len cap) d ps) (hz : ∀ n ∈ d.weights P t, n ≤ reachBytes) :
 ∃ xs, Sl (kSl k) (fun b => b < W.heap.size) W (.slice a len cap) xs ∧ R xs := by
 obtain ⟨xs, hr, hR⟩ := o.go h hz; refine ⟨xs, ⟨[.slice a len cap], rfl, ?_⟩, hR⟩; simpa [Value.cells] using hr
theorem opn_struct {P : Program} {t : TypeId} {fs : Array Field} (ht : P.underlying t = some (.struct fs)) {H : Type} {enc : TypeId × Value → H} {W : World} {fuel : Nat} {cs : List Value} {d : DataW H} {ps : List MemPlace}
 (hd : DataW.trod enc P W 0 (fun _ => true) true fuel t cs = some (d, ps)) (hz : ∀ n ∈ d.weights P t, n ≤ reachBytes) :
 cs.length = P.cellsOf t ∧ ∀ (i : Nat) (f : Field), fs[i]? = some f → ∃ (n : Nat) (d' : DataW H) (ps' : List MemPlace), DataW.trod enc P W 0 (fun _ => true) true n f.type ((cs.drop f.offset).take (P.cellsOf f.type)) = some (d', ps') ∧ ∀ n ∈ d'.weights P f.type, n ≤ reachBytes := by
 obtain ⟨xs, n, _, hx, hl, hlen, hf⟩ := DataW.trod_struct ht hd; obtain ⟨rfl, rfl⟩ := Prod.mk.inj hx; refine ⟨hl, fun i f hi => ?_⟩; have h1 := hf i f hi
 have hlt : i < xs.length := by rw [hlen]; exact (Array.getElem?_eq_some_iff.1 hi).1
 rw [List.getElem?_eq_getElem hlt] at h1; refine ⟨n, xs[i].1, xs[i].2, h1, fun m hm => hz m ?_⟩
 have h2 : DataW.weights P t (.agg (xs.map (·.1))) = DataW.weightsEach P (fs.toList.map (·.type)) (xs.map (·.1)) := by simp only [DataW.weights, ht]
 rw [h2]; exact DataW.weights_mem_each (j := i) (t := f.type) (d := xs[i].1) (by rw [List.getElem?_map]; simp [hi]) (by rw [List.getElem?_map, List.getElem?_eq_getElem hlt]; rfl) m hm
end Go.Mg

namespace Go.Mg
open Go
set_option linter.unusedVariables false
structure Fk (α : Type) where
 rep : (Nat → Prop) → World → Value → α → List Nat → Prop
 one : ∀ {S w c x fp}, rep S w c x fp → c.oneCell' = true
 lt : ∀ {S w c x fp}, rep S w c x fp → ∀ b ∈ fp, b < w.heap.size ∧ ¬ S b
 mono : ∀ {S S' : Nat → Prop} {w w' : World} {c x fp}, rep S w c x fp → (∀ b, S b → S' b) → (∀ b ∈ fp, ¬ S' b) → Sm S w w' → (∀ b ∈ fp, w'.heap[b]? = w.heap[b]?) → w.heap.size ≤ w'.heap.size → rep S' w' c x fp
def fSl {α : Type} (k : Kd α) (h1 : k.sz = 1) : Fk α where
 rep S w c x fp := k.rep S w [c] x ∧ fp = []
 one h := k.one h.1 _ (by simp)
 lt h := by obtain ⟨_, rfl⟩ := h; intro b hb; cases hb
 mono h hS _ hw _ _ := by obtain ⟨h, rfl⟩ := h; exact ⟨k.mono h hS hw, rfl⟩
inductive MR {κ β : Type} (R : Value → β → Prop) : List (κ × Value × Nat) → List (κ × β) → Prop
 | nil : MR R [] []
 | cons {a v n y L m} : R v y → MR R L m → MR R ((a, v, n) :: L) ((a, y) :: m)
theorem MR.imp {κ β : Type} {R R' : Value → β → Prop} {L : List (κ × Value × Nat)} {m : List (κ × β)} (h : MR R L m) (hR : ∀ v y, R v y → R' v y) : MR R' L m := by
 induction h with
 | nil => exact .nil
 | cons h1 _ ih => exact .cons (hR _ _ h1) ih
theorem MR.keys {κ β : Type} {R : Value → β → Prop} {L : List (κ × Value × Nat)} {m : List (κ × β)} (h : MR R L m) : L.map (·.1) = m.map (·.1) := by
 induction h with
 | nil => rfl
 | cons h1 _ ih => simp [ih]
theorem MR.length {κ β : Type} {R : Value → β → Prop} {L : List (κ × Value × Nat)} {m : List (κ × β)} (h : MR R L m) : L.length = m.length := by
 induction h with
 | nil => rfl
 | cons h1 _ ih => simp [ih]
def ye {κ β : Type} [DecidableEq κ] (k : κ) (m : List (κ × β)) : Option β := (m.find? fun x => decide (k = x.1)).map (·.2)
def mput {κ β : Type} [DecidableEq κ] (k : κ) (y : β) : List (κ × β) → List (κ × β)
 | [] => [(k, y)]
 | x :: m => if k = x.1 then (x.1, y) :: m else x :: mput k y m
def mrem {κ β : Type} [DecidableEq κ] (k : κ) (m : List (κ × β)) : List (κ × β) := m.filter fun x => !decide (k = x.1)
theorem MR.look {κ β : Type} [DecidableEq κ] {R : Value → β → Prop} {L : List (κ × Value × Nat)} {m : List (κ × β)} (h : MR R L m) (k : κ) :
 (ye k m = none ∧ Go.Mg.look k L = none) ∨ ∃ v y, ye k m = some y ∧ Go.Mg.look k L = some v ∧ R v y := by
 induction h with
 | nil => exact .inl ⟨rfl, rfl⟩
 | @cons a v n y L m h1 _ ih =>
  by_cases e : k = a
  ·exact .inr ⟨v, y, by simp [ye, e], by simp [Go.Mg.look, e], h1⟩
  ·have e1 : ye k ((a, y) :: m) = ye k m := by simp [ye, e]
   have e2 : Go.Mg.look k ((a, v, n) :: L) = Go.Mg.look k L := by simp [Go.Mg.look, e]
   rw [e1, e2]; exact ih
theorem MR.set {κ β : Type} [DecidableEq κ] {R : Value → β → Prop} {L : List (κ × Value × Nat)} {m : List (κ × β)} (h : MR R L m) (k : κ) {v : Value} {y : β} (hv : R v y) (c : Nat) : MR R (mset k v c L) (mput k y m) := by
 induction h with
 | nil => exact .cons hv .nil
 | @cons a u n z L m h1 h2 ih =>
  unfold mset mput
  by_cases e : k = a
  ·subst e; simp only [if_true]; exact .cons hv h2
  ·simp only [e, if_false]; exact .cons h1 ih
theorem MR.del {κ β : Type} [DecidableEq κ] {R : Value → β → Prop} {L : List (κ × Value × Nat)} {m : List (κ × β)} (h : MR R L m) (k : κ) : MR R (mdel k L) (mrem k m) := by
 induction h with
 | nil => exact .nil
 | @cons a u n z L m h1 h2 ih =>
  unfold mdel mrem at ih ⊢
  by_cases e : k = a
  ·simp [e] at ih ⊢; exact ih
  ·simp [e]; exact .cons h1 ih
def fMap {κ β : Type} [DecidableEq κ] {P : Program} {t : TypeId} (ky : Ky P t κ) (k : Kd β) : Fk (List (κ × β)) where
 rep S w c m fp := ∃ b L cl, c = .map (some b) ∧ fp = [b] ∧ ¬ S b ∧ Mp ky w b L cl ∧ MR (Sl k S w) L m
 one h := by obtain ⟨b, L, cl, rfl, _⟩ := h; rfl
 lt h := by
  obtain ⟨b, L, cl, rfl, rfl, hS, hM, _⟩ := h; intro x hx; simp at hx; subst hx; exact ⟨hM.lt, hS⟩
 mono h hS hS2 hw hf _ := by
  obtain ⟨b, L, cl, rfl, rfl, hn, hM, hR⟩ := h; exact ⟨b, L, cl, rfl, rfl, hS2 b (by simp), hM.to (hf b (by simp)), hR.imp fun v y h => h.up hS hw⟩
inductive Fs : List ((α : Type) × Fk α × α) → (Nat → Prop) → World → List Value → List Nat → Prop
 | nil {S w} : Fs [] S w [] []
 | cons {α k x l S w c cs fp fq} : Fk.rep k S w c x fp → Fs l S w cs fq → Fs (⟨α, k, x⟩ :: l) S w (c :: cs) (fp ++ fq)
def Ob (e : TypeId) (l : List ((α : Type) × Fk α × α)) (S : Nat → Prop) (w : World) (v : Value) (cs : List Value) (fp : List Nat) : Prop :=
 ∃ b fq, v = .pointer (some ⟨b, 0, none⟩) ∧ fp = b :: fq ∧ fp.Nodup ∧ ¬ S b ∧ Bk w b cs e ∧ Fs l S w cs fq
theorem Fs.lt {l : List ((α : Type) × Fk α × α)} {S : Nat → Prop} {w : World} {cs : List Value} {fp : List Nat} (h : Fs l S w cs fp) : ∀ b ∈ fp, b < w.heap.size ∧ ¬ S b := by
 induction h with
 | nil => intro b hb; cases hb
 | @cons α k x l S w c cs fp fq h1 _ ih =>
  intro b hb; rcases List.mem_append.1 hb with hb | hb
  ·exact k.lt h1 b hb
  ·exact ih b hb
theorem Fs.mono {l : List ((α : Type) × Fk α × α)} {S S' : Nat → Prop} {w w' : World} {cs : List Value} {fp : List Nat} (h : Fs l S w cs fp) (hS : ∀ b, S b → S' b) (hS2 : ∀ b ∈ fp, ¬ S' b) (hw : Sm S w w')
 (hf : ∀ b ∈ fp, w'.heap[b]? = w.heap[b]?) (hs : w.heap.size ≤ w'.heap.size) : Fs l S' w' cs fp := by
 induction h with
 | nil => exact .nil
 | @cons α k x l S w c cs fp fq h1 _ ih => exact .cons (k.mono h1 hS (fun b hb => hS2 b (List.mem_append.2 (.inl hb))) hw (fun b hb => hf b (List.mem_append.2 (.inl hb))) hs) (ih hS (fun b hb => hS2 b (List.mem_append.2 (.inr hb))) hw (fun b hb => hf b (List.mem_append.2 (.inr hb))) hs)
theorem Fs.at {l : List ((α : Type) × Fk α × α)} {S : Nat → Prop} {w : World} {cs : List Value} {fp : List Nat} (h : Fs l S w cs fp) : ∀ {i : Nat} {α : Type} {k : Fk α} {x : α}, l[i]? = some ⟨α, k, x⟩ →
 ∃ c fa fi fb, cs[i]? = some c ∧ fp = fa ++ fi ++ fb ∧ k.rep S w c x fi ∧
  ∀ {S' : Nat → Prop} {w' : World} {c' : Value} {x' : α} {fi' : List Nat}, k.rep S' w' c' x' fi' → (∀ b, S b → S' b) → (∀ b ∈ fa ++ fb, ¬ S' b) → Sm S w w' →
   (∀ b ∈ fa ++ fb, w'.heap[b]? = w.heap[b]?) → w.heap.size ≤ w'.heap.size → Fs (l.set i ⟨α, k, x'⟩) S' w' (cs.set i c') (fa ++ fi' ++ fb) := by
 induction h with
 | nil => intro i α k x hx; simp at hx
 | @cons β kk y l S w c cs fp fq h1 h2 ih =>
  intro i α k x hx
  cases i with
  | zero =>
   simp at hx; obtain ⟨rfl, hx⟩ := hx; simp at hx; obtain ⟨rfl, rfl⟩ := hx; refine ⟨c, [], fp, fq, rfl, by simp, h1, fun {S' w' c' x' fi'} h3 hS hS2 hw hf hs => ?_⟩; simp only [List.set_cons_zero, List.nil_append]; exact .cons h3 (h2.mono hS (fun b hb => hS2 b (by simpa using hb)) hw (fun b hb => hf b (by simpa using hb)) hs)
  | succ i =>
   obtain ⟨d, fa, fi, fb, e1, e2, e3, e4⟩ := ih (i := i) (by simpa using hx); refine ⟨d, fp ++ fa, fi, fb, by simpa using e1, by rw [e2]; simp [List.append_assoc], e3, fun {S' w' c' x' fi'} h3 hS hS2 hw hf hs => ?_⟩; simp only [List.set_cons_succ]
   have hin : ∀ b ∈ fa ++ fb, b ∈ fp ++ fa ++ fb := fun b hb => by
    simp only [List.mem_append] at hb ⊢; rcases hb with hb | hb
    ·exact .inl (.inr hb)
    ·exact .inr hb
   have := e4 h3 hS (fun b hb => hS2 b (hin b hb)) hw (fun b hb => hf b (hin b hb)) hs; rw [List.append_assoc, List.append_assoc, ← List.append_assoc fa]; exact .cons (kk.mono h1 hS (fun b hb => hS2 b (by simp [hb])) hw (fun b hb => hf b (by simp [hb])) hs) this
section
variable {e : TypeId} {l : List ((α : Type) × Fk α × α)} {S : Nat → Prop} {w w' : World} {v : Value} {cs : List Value} {fp : List Nat}
theorem Ob.lt (h : Ob e l S w v cs fp) : ∀ b ∈ fp, b < w.heap.size ∧ ¬ S b := by
 obtain ⟨b, fq, rfl, rfl, _, hS, hb, hf⟩ := h; intro x hx; rcases List.mem_cons.1 hx with rfl | hx
 ·exact ⟨(Array.getElem?_eq_some_iff.1 hb).1, hS⟩
 ·exact hf.lt x hx
theorem Ob.up' {S' F : Nat → Prop} (h : Ob e l S w v cs fp) (hu : Up F w w') (hS : ∀ b, S b → S' b) (hS2 : ∀ b ∈ fp, ¬ S' b) (hSF : ∀ b, S b → b < w.heap.size → ¬ F b) (hF : ∀ b ∈ fp, ¬ F b) : Ob e l S' w' v cs fp := by
 have hlt := h.lt; obtain ⟨b, fq, rfl, rfl, hn, hb, hk, hf⟩ := h; have hfr : ∀ x ∈ b :: fq, w'.heap[x]? = w.heap[x]? := fun x hx => hu.block x (hlt x hx).1 (hF x hx); refine ⟨b, fq, rfl, rfl, hn, hS2 b (by simp), ?_, hf.mono hS (fun x hx => hS2 x (by simp [hx])) (hu.sm hSF) (fun x hx => hfr x (by simp [hx])) hu.size⟩; have := hfr b (by simp); unfold Bk at hk ⊢; rw [this]; exact hk
theorem Ob.up {S' F : Nat → Prop} (h : Ob e l S w v cs fp) (hu : Up F w w') (hS : ∀ b, S b → S' b) (hS2 : ∀ b, S' b → S b ∨ w.heap.size ≤ b) (hSF : ∀ b, S b → b < w.heap.size → ¬ F b) (hF : ∀ b ∈ fp, ¬ F b) : Ob e l S' w' v cs fp :=
 h.up' hu hS (fun b hb hs => (hS2 b hs).elim (h.lt b hb).2 fun hl => by have := (h.lt b hb).1; omega) hSF hF
theorem Ob.or {T : Nat → Prop} (h : Ob e l S w v cs fp) (ht : ∀ b ∈ fp, ¬ T b) : Ob e l (Or S T) w v cs fp :=
 h.up' (Up.refl No _) (fun _ h => .inl h) (fun b hb hs => hs.elim (h.lt b hb).2 (ht b hb)) (fun _ _ _ h => h) fun _ _ h => h
def pb : Value → Nat
 | .pointer (some a) => a.block
 | _ => 0
theorem Ob.ptr (h : Ob e l S w v cs fp) : v = .pointer (some ⟨pb v, 0, none⟩) := by obtain ⟨b, fq, rfl, _⟩ := h; rfl
theorem Ob.cell (h : Ob e l S w v cs fp) {i : Nat} {α : Type} {k : Fk α} {x : α} (hi : l[i]? = some ⟨α, k, x⟩) : ∃ c fi, cs[i]? = some c ∧ (∀ b ∈ fi, b ∈ fp) ∧ k.rep S w c x fi ∧ w.cell? ⟨pb v, i, none⟩ = some c := by
 obtain ⟨b, fq, rfl, rfl, _, _, hk, hf⟩ := h; obtain ⟨c, fa, fi, fb, e1, e2, e3, _⟩ := hf.at hi; exact ⟨c, fi, e1, fun x hx => by rw [e2]; simp [hx], e3, (hk.cell i).trans e1⟩
theorem Ob.turn (h : Ob e l S w v cs fp) {i : Nat} {α : Type} {k : Fk α} {x : α} (hi : l[i]? = some ⟨α, k, x⟩) {c : Value} (hc : cs[i]? = some c) :
 ∃ fi, k.rep S w c x fi ∧ (∀ b ∈ fi, b ∈ fp) ∧ ∀ {w' : World} {x' : α}, k.rep S w' c x' fi → Up (fun b => b ∈ fi) w w' → Ob e (l.set i ⟨α, k, x'⟩) S w' v cs fp := by
 have hlt := h.lt; obtain ⟨b, fq, rfl, rfl, hn, hb, hk, hf⟩ := h; obtain ⟨c', fa, fi, fb, e1, e2, e3, e4⟩ := hf.at hi; rw [hc] at e1
 cases e1
 refine ⟨fi, e3, fun x hx => by rw [e2]; simp [hx], fun {w' x'} h' hu => ?_⟩
 have hbn : b ∉ fi := fun hx => by
  have := (List.nodup_cons.1 hn).1; exact this (by rw [e2]; simp [hx])
 have hab : ∀ x ∈ fa ++ fb, x ∉ fi := fun x hx hxi => by
  have := (List.nodup_cons.1 hn).2; rw [e2, List.append_assoc, List.nodup_append] at this; obtain ⟨_, h2, h3⟩ := this; rw [List.nodup_append] at h2; rcases List.mem_append.1 hx with hx | hx
  ·exact h3 x hx x (by simp [hxi]) rfl
  ·exact h2.2.2 x hxi x hx rfl
 have hsm : Sm S w w' := hu.sm fun x hx _ hxi => by
  have : x ∈ b :: fq := by rw [e2]; simp [hxi]
  exact (hlt x this).2 hx
 have := e4 h' (fun _ h => h) (fun x hx => (hlt x (by rw [e2]; simp at hx ⊢; rcases hx with hx | hx <;> simp [hx])).2) hsm (fun x hx => hu.block x (hlt x (by rw [e2]; simp at hx ⊢; rcases hx with hx | hx <;> simp [hx])).1 (hab x hx)) hu.size
 have hcs : cs.set i c = cs := by
  apply List.ext_getElem?
  intro j; rw [List.getElem?_set]
  split
  ·rename_i hij; subst hij; rw [if_pos (List.getElem?_eq_some_iff.1 hc).1, hc]
  ·rfl
 rw [hcs] at this; refine ⟨b, fq, rfl, rfl, hn, hb, ?_, by rw [e2]; exact this⟩; have := hu.block b (hlt b (by simp)).1 hbn; unfold Bk at hk ⊢; rw [this]; exact hk
theorem Ob.put (h : Ob e l S w v cs fp) {i : Nat} {α : Type} {k : Kd α} {h1 : k.sz = 1} {x x' : α} (hi : l[i]? = some ⟨α, fSl k h1, x⟩) {c' : Value} (hu : Up (One (pb v)) w w') (hr : k.rep S w [c'] x') (hb : Bk w' (pb v) (cs.set i c') e) :
 Ob e (l.set i ⟨α, fSl k h1, x'⟩) S w' v (cs.set i c') fp := by
 have hlt := h.lt; obtain ⟨b, fq, rfl, rfl, hn, hS, hk, hf⟩ := h; obtain ⟨c0, fa, fi, fb, e1, e2, e3, e4⟩ := hf.at hi; have hfi : fi = [] := e3.2; subst hfi
 have hsm : Sm S w w' := hu.sm fun x hx _ hxi => by
  have hxi : x = b := hxi; subst hxi; exact hS hx
 have := e4 (fi' := []) (w' := w') (S' := S) (c' := c') (x' := x') ⟨k.mono hr (fun _ h => h) hsm, rfl⟩ (fun _ h => h) (fun x hx => (hlt x (by rw [e2]; simp at hx ⊢; rcases hx with hx | hx <;> simp [hx])).2) hsm (fun x hx => hu.block x (hlt x (by rw [e2]; simp at hx ⊢; rcases hx with hx | hx <;> simp [hx])).1 fun hxb => by
  have hxb : x = b := hxb; subst hxb
  exact (List.nodup_cons.1 hn).1 (by rw [e2]; simpa using hx)) hu.size
 exact ⟨b, fq, rfl, rfl, hn, hS, hb, by rw [e2]; exact this⟩
end
section
variable {P : Program} {e te tm t : TypeId} {l : List ((α : Type) × Fk α × α)} {S : Nat → Prop} {w : World} {v u : Value} {cs : List Value} {fp : List Nat} {ρ : En} {d : Option Tmp} {ty : TypeId} {pos : String} {af : Array Edge} {g : Option (Nat × Bool)} {x y z : Operand} {kk : Value → World → Prop}
theorem yd (h : Ob e l S w v cs fp) {i : Nat} {c : Value} (ha : aggOf P te = some (false, 1)) (hc : cs[i]? = some c) (hx : ev ρ x = .pointer (some ⟨pb v, i, none⟩)) : Rw P ⟨d, .load te x, ty, pos, af, g⟩ ρ w c := by
 obtain ⟨b, fq, rfl, rfl, hn, hS, hk, hf⟩ := h; exact rw_cell ha ((hk.cell i).trans hc) hx
theorem dc_ofield (h : Ob e l S w v cs fp) {i : Nat} {α : Type} {k : Kd α} {h1 : k.sz = 1} {a a' : α} (hi : l[i]? = some ⟨α, fSl k h1, a⟩) (ha : aggOf P te = some (false, 1)) (hx : ev ρ x = .pointer (some ⟨pb v, i, none⟩)) (hy : ev ρ y = u)
 (hu : k.rep S w [u] a') (hk : ∀ w', Ob e (l.set i ⟨α, fSl k h1, a'⟩) S w' v (cs.set i u) fp → Up (fun b => b ∈ fp) w w' → kk undef w') : Does P ⟨d, .store te x y, ty, pos, af, g⟩ ρ w kk := by
 have h0 := h; obtain ⟨b, fq, rfl, rfl, hn, hS, hbk, hf⟩ := h; obtain ⟨c0, fa, fi, fb, e1, _⟩ := hf.at hi; have hlt : i < cs.length := (List.getElem?_eq_some_iff.1 e1).1; have hone := k.one hu u (by simp)
 have hset : cs.take i ++ [u] ++ cs.drop (i + 1) = cs.set i u := by rw [List.set_eq_take_append_cons_drop, if_pos hlt]; simp
 refine dc_store (vs := [u]) (cs := cs) (e0 := e) ha hbk hx (by rw [hy]; exact cells_one hone) (fun c hc => by simp at hc; subst hc; exact hone) rfl (Nat.ble_eq_true_of_le (by omega)) hset fun w' up _ hb' => ?_; exact hk w' (h0.put hi up hu hb') (up.mono fun x _ hx => by have hx : x = b := hx; subst hx; simp)
theorem dc_omset {κ β : Type} [DecidableEq κ] {ky : Ky P t κ} {k : Kd β} (h : Ob e l S w v cs fp) {i : Nat} {m : List (κ × β)} (hi : l[i]? = some ⟨_, fMap ky k, m⟩) {c : Value} (hc : cs[i]? = some c) (ht : P.underlying tm = some (.map t te)) {a : κ} {b' : β}
 (hx : ev ρ x = c) (hy : ev ρ y = ky.enc a) (hz : ev ρ z = u) (hu : Sl k S w u b') (hk : ∀ w', Ob e (l.set i ⟨_, fMap ky k, mput a b' m⟩) S w' v cs fp → Up (fun b => b ∈ fp) w w' → kk undef w') :
 Does P ⟨d, .mapUpdate tm x y z, ty, pos, af, g⟩ ρ w kk := by
 obtain ⟨fi, hr, hsub, hturn⟩ := h.turn hi hc; obtain ⟨b, L, cl, rfl, rfl, hS, hM, hR⟩ := hr; refine dc_mset hM ht hx hy hz fun w' c' hM' up => ?_
 have hsm : Sm S w w' := up.sm fun q hq _ hqb => by have hqb : q = b := hqb; rw [hqb] at hq; exact hS hq
 refine hk w' (hturn ⟨b, _, c', rfl, rfl, hS, hM', (hR.set a hu cl).imp fun v y hv => hv.to hsm⟩ (up.mono fun x _ hx => by have hx : x = b := hx; subst hx; simp)) (up.mono fun x _ hx => by have hx : x = b := hx; subst hx; exact hsub _ (by simp))
theorem dc_omdel {κ β : Type} [DecidableEq κ] {ky : Ky P t κ} {k : Kd β} {tk : TypeId} (h : Ob e l S w v cs fp) {i : Nat} {m : List (κ × β)} (hi : l[i]? = some ⟨_, fMap ky k, m⟩) {c : Value} (hc : cs[i]? = some c) (ht : P.underlying tm = some (.map t te)) {a : κ}
 (hx : ev ρ x = c) (hy : ev ρ y = ky.enc a) (hk : ∀ w', Ob e (l.set i ⟨_, fMap ky k, mrem a m⟩) S w' v cs fp → Up (fun b => b ∈ fp) w w' → kk (.tuple #[]) w') :
 Does P ⟨d, .call { callee := .builtin .delete, args := #[x, y], argTypes := #[tm, tk] }, ty, pos, af, g⟩ ρ w kk := by
 obtain ⟨fi, hr, hsub, hturn⟩ := h.turn hi hc; obtain ⟨b, L, cl, rfl, rfl, hS, hM, hR⟩ := hr; refine dc_mdel hM ht hx hy fun w' hM' up => ?_
 have hsm : Sm S w w' := up.sm fun q hq _ hqb => by have hqb : q = b := hqb; rw [hqb] at hq; exact hS hq
 refine hk w' (hturn ⟨b, _, cl, rfl, rfl, hS, hM', (hR.del a).imp fun v y hv => hv.to hsm⟩ (up.mono fun x _ hx => by have hx : x = b := hx; subst hx; simp)) (up.mono fun x _ hx => by have hx : x = b := hx; subst hx; exact hsub _ (by simp))
end
section
variable {P : Program} {e te tm t : TypeId} {l : List ((α : Type) × Fk α × α)} {S : Nat → Prop} {w : World} {v u : Value} {cs : List Value} {fp : List Nat} {ρ : En} {d : Option Tmp} {ty : TypeId} {pos : String} {af : Array Edge} {g : Option (Nat × Bool)} {x y z : Operand} {kk : Value → World → Prop}
theorem dc_mkmap {κ β : Type} [DecidableEq κ] (ky : Ky P t κ) (k : Kd β) (hS : Sb S w) (h : ∀ c b w', w.heap.size ≤ b → (fMap ky k).rep S w' c [] [b] → Up No w w' → kk c w') :
 Does P ⟨d, .makeMap tm none, ty, pos, af, g⟩ ρ w kk := by
 have hrun : (execOp (ev ρ) ⟨d, .makeMap tm none, ty, pos, af, g⟩).run P w = .ok (.value (.map (some w.heap.size))) (w.alloc (.map #[] 0)) := by
  simp [execOp, Instr.makeMap, newObj, Sem.run_bind, Sem.run, Result.andThen_ok]
 unfold Does; rw [hrun]; refine h _ w.heap.size _ (Nat.le_refl _) ⟨w.heap.size, [], 0, rfl, rfl, fun hs => ?_, ⟨?_, .nil, .nil, fun x hx => by cases hx⟩, .nil⟩ (Up.alloc _ _ _)
 ·have := hS _ hs; omega
 ·rw [heap_alloc_new]; rfl
theorem dc_obox {fq : List Nat} (hf : Fs l S w cs fq) (hn : fq.Nodup) (hS : Sb S w) (hx : (ev ρ x).cells = cs.toArray) (h : ∀ v w', Ob e l S w' v cs (pb v :: fq) → w.heap.size ≤ pb v → Up No w w' → kk v w') :
 Does P ⟨d, .box e x, ty, pos, af, g⟩ ρ w kk := by
 refine dc_box (cs := cs) hx fun b w' hb hlt up hbk => ?_; have hfl := hf.lt; refine h _ w' ⟨b, fq, rfl, rfl, List.nodup_cons.2 ⟨fun hm => ?_, hn⟩, fun hs => ?_, hbk, hf.mono (fun _ h => h) (fun x hx => (hfl x hx).2) up.sm0 (fun x hx => up.block x (hfl x hx).1 fun hf => hf) up.size⟩ hb up
 ·have := (hfl b hm).1; omega
 ·have := hS _ hs; omega
end
def Obo {T : Type} (e : TypeId) (fs : T → List ((α : Type) × Fk α × α)) (S : Nat → Prop) (w : World) (v : Value) (x : Option T) (cs : List Value) (fp : List Nat) : Prop :=
 match x with
 | none => v = .pointer none ∧ fp = [] ∧ cs = []
 | some x => Ob e (fs x) S w v cs fp
theorem Obo.up {T : Type} {e : TypeId} {fs : T → List ((α : Type) × Fk α × α)} {S S' F : Nat → Prop} {w w' : World} {v : Value} {x : Option T} {cs : List Value} {fp : List Nat} (h : Obo e fs S w v x cs fp) (hu : Up F w w') (hS : ∀ b, S b → S' b) (hS2 : ∀ b, S' b → S b ∨ w.heap.size ≤ b) (hSF : ∀ b, S b → b < w.heap.size → ¬ F b) (hF : ∀ b ∈ fp, ¬ F b) : Obo e fs S' w' v x cs fp := by
 cases x with
 | none => exact h
 | some x => exact Ob.up (show Ob e (fs x) S w v cs fp from h) hu hS hS2 hSF hF
theorem Obo.or {T : Type} {e : TypeId} {fs : T → List ((α : Type) × Fk α × α)} {S R : Nat → Prop} {w : World} {v : Value} {x : Option T} {cs : List Value} {fp : List Nat} (h : Obo e fs S w v x cs fp) (ht : ∀ b ∈ fp, ¬ R b) : Obo e fs (Or S R) w v x cs fp := by
 cases x with
 | none => exact h
 | some x => exact Ob.or (show Ob e (fs x) S w v cs fp from h) ht
theorem Obo.lt {T : Type} {e : TypeId} {fs : T → List ((α : Type) × Fk α × α)} {S : Nat → Prop} {w : World} {v : Value} {x : Option T} {cs : List Value} {fp : List Nat} (h : Obo e fs S w v x cs fp) : ∀ b ∈ fp, b < w.heap.size ∧ ¬ S b := by
 cases x with
 | none => obtain ⟨_, rfl, _⟩ := h; intro b hb; cases hb
 | some x => exact Ob.lt (show Ob e (fs x) S w v cs fp from h)
theorem Obo.nil_iff {T : Type} {e : TypeId} {fs : T → List ((α : Type) × Fk α × α)} {S : Nat → Prop} {w : World} {v : Value} {x : Option T} {cs : List Value} {fp : List Nat} (h : Obo e fs S w v x cs fp) : v = .pointer none ∧ x = none ∨ ∃ y, x = some y ∧ Ob e (fs y) S w v cs fp := by
 cases x with
 | none => exact .inl ⟨h.1, rfl⟩
 | some y => exact .inr ⟨y, rfl, h⟩
section
variable {P : Program} {t t2 a : TypeId} {ρ : En} {d : Option Tmp} {ty : TypeId} {pos : String} {af : Array Edge} {g : Option (Nat × Bool)} {x y : Operand} {v : Value}
theorem run_nileq {w : World} (ht : P.underlying t = some (.pointer a)) : (Op.equal t (.pointer none) (.pointer none)).run P w = .ok true w := by
 obtain ⟨n, hn⟩ : ∃ n, Op.maxDepth = n + 1 := ⟨_, rfl⟩; unfold Op.equal; rw [hn]; simp only [Op.equalIn, Sem.run_bind, run_underlying ht, Result.andThen_ok, Sem.run_pure]
 rfl
theorem run_nilne {w : World} {q : Addr} (ht : P.underlying t = some (.pointer a)) : (Op.equal t (.pointer (some q)) (.pointer none)).run P w = .ok false w := by
 obtain ⟨n, hn⟩ : ∃ n, Op.maxDepth = n + 1 := ⟨_, rfl⟩; unfold Op.equal; rw [hn]; simp only [Op.equalIn, Sem.run_bind, run_underlying ht, Result.andThen_ok, Sem.run_pure]
theorem guard_ptr {w : World} {op : BinOp} {p q : Option Addr} : (eqGuard op t x y (.pointer p) (.pointer q)).run P w = .ok () w := by
 unfold eqGuard
 cases op <;> simp
theorem rv_nileq {b : Bool} (ht : P.underlying t = some (.pointer a)) (hx : ev ρ x = v) (hy : ev ρ y = .pointer none) (hv : v = .pointer none ∧ b = true ∨ v = .pointer (some ⟨pb v, 0, none⟩) ∧ b = false) : Rv P ⟨d, .binOp .eql t x y t2, ty, pos, af, g⟩ ρ (.bool b) := fun w => by
 rcases hv with ⟨rfl, rfl⟩ | ⟨hv, rfl⟩
 ·exact run_cmp hx hy guard_ptr (by simp only [binOp, Sem.run_bind, run_nileq ht, Result.andThen_ok, Sem.run_pure])
 ·rw [hv] at hx; exact run_cmp hx hy guard_ptr (by simp only [binOp, Sem.run_bind, run_nilne ht, Result.andThen_ok, Sem.run_pure])
theorem qt (hx : ev ρ x = v) (hv : v = .pointer (some ⟨pb v, 0, none⟩)) : Rv P ⟨d, .nilCheck x, ty, pos, af, g⟩ ρ v := fun w => by
 rw [hv] at hx ⊢; exact rv_nilCheck hx w
end
section
variable {e : TypeId} {S S1 : Nat → Prop} {w w1 : World} {v u : Value} {cs : List Value} {fp : List Nat}
theorem Ob.nw {l : List ((α : Type) × Fk α × α)} (h : Ob e l S w v cs fp) (hu : Up No w w1) : Ob e l S w1 v cs fp := h.up hu (fun _ h => h) (fun _ h => .inl h) (fun _ _ _ h => h) fun _ _ h => h
theorem Ob.cx {l : List ((α : Type) × Fk α × α)} (h : Ob e l S w v cs fp) (c : Cx No S w S1 w1) : Ob e l S1 w1 v cs fp := h.up c.up c.ge.le c.ge.ge (fun _ _ _ h => h) fun _ _ h => h
theorem Ob.wr {l : List ((α : Type) × Fk α × α)} (h : Ob e l S w v cs fp) (hu : Up (Blk u) w w1) (hn : ∀ b, Blk u b → ¬ S b) (hf : ∀ b ∈ fp, ¬ Blk u b) : Ob e l S w1 v cs fp := h.up hu (fun _ h => h) (fun _ h => .inl h) (fun b hb _ hu => hn b hu hb) hf
variable {T : Type} {fs : T → List ((α : Type) × Fk α × α)} {x : Option T}
theorem Obo.nw (h : Obo e fs S w v x cs fp) (hu : Up No w w1) : Obo e fs S w1 v x cs fp := h.up hu (fun _ h => h) (fun _ h => .inl h) (fun _ _ _ h => h) fun _ _ h => h
theorem Obo.cx (h : Obo e fs S w v x cs fp) (c : Cx No S w S1 w1) : Obo e fs S1 w1 v x cs fp := h.up c.up c.ge.le c.ge.ge (fun _ _ _ h => h) fun _ _ h => h
theorem Obo.wr (h : Obo e fs S w v x cs fp) (hu : Up (Blk u) w w1) (hn : ∀ b, Blk u b → ¬ S b) (hf : ∀ b ∈ fp, ¬ Blk u b) : Obo e fs S w1 v x cs fp := h.up hu (fun _ h => h) (fun _ h => .inl h) (fun b hb _ hu => hn b hu hb) hf
theorem Obo.ne (h : Obo e fs S w v x cs fp) : v = .pointer none ∧ x.isNone = true ∨ v = .pointer (some ⟨pb v, 0, none⟩) ∧ x.isNone = false := by
 cases x with
 | none => exact .inl ⟨h.1, rfl⟩
 | some y => exact .inr ⟨Ob.ptr (show Ob e (fs y) S w v cs fp from h), rfl⟩
theorem Ob.sc {l : List ((α : Type) × Fk α × α)} {α : Type} {enc : α → Value} {h1 : ∀ x, (enc x).oneCell' = true} {h2 : (kSc enc h1).sz = 1} {a : α} (h : Ob e l S w v cs fp) {i : Nat} (hi : l[i]? = some ⟨α, fSl (kSc enc h1) h2, a⟩) : cs[i]? = some (enc a) := by
 obtain ⟨c, fi, h3, _, h4, _⟩ := h.cell hi; have h5 : [c] = [enc a] := h4.1; simp at h5; rw [h3, h5]
theorem Ob.sl {l : List ((α : Type) × Fk α × α)} {α : Type} {k : Kd α} {h2 : (kSl k).sz = 1} {a : List α} (h : Ob e l S w v cs fp) {i : Nat} (hi : l[i]? = some ⟨_, fSl (kSl k) h2, a⟩) : ∃ c, cs[i]? = some c ∧ Sl (kSl k) S w c a := by
 obtain ⟨c, fi, h3, _, h4, _⟩ := h.cell hi; exact ⟨c, h3, [c], rfl, h4.1⟩
theorem Ob.at {l : List ((α : Type) × Fk α × α)} {α : Type} {k : Fk α} {a : α} (h : Ob e l S w v cs fp) {i : Nat} (hi : l[i]? = some ⟨α, k, a⟩) : ∃ c, cs[i]? = some c := by
 obtain ⟨c, fi, h3, _⟩ := h.cell hi; exact ⟨c, h3⟩
end
end Go.Mg

namespace Go.Mg
open Go
set_option linter.unusedVariables false
def bl (v : Value) : List Nat := match v.ownBlock with
 | some b => [b]
 | none => []
theorem mem_bl {v : Value} {b : Nat} : b ∈ bl v ↔ Blk v b := by
 unfold bl Blk
 cases v.ownBlock with
 | none => simp
 | some x => simp [eq_comm]
theorem bl_nodup (v : Value) : (bl v).Nodup := by unfold bl; cases v.ownBlock <;> simp
def rows {κ : Type} (L : List (κ × Value × Nat)) : List Nat := L.flatMap fun x => bl x.2.1
def fMapO {κ β : Type} [DecidableEq κ] {P : Program} {t : TypeId} (ky : Ky P t κ) (k : Kd β) (e : TypeId) : Fk (List (κ × List β)) where
 rep S w c m fp := ∃ b L cl, c = .map (some b) ∧ fp = b :: rows L ∧ ¬ S b ∧ Mp ky w b L cl ∧ MR (fun v xs => Ow k e S 0 w v xs) L m
 one h := by obtain ⟨b, L, cl, rfl, _⟩ := h; rfl
 lt h := by
  obtain ⟨b, L, cl, rfl, rfl, hS, hM, hR⟩ := h; intro x hx; rcases List.mem_cons.1 hx with rfl | hx
  ·exact ⟨hM.lt, hS⟩
  ·clear hM
   induction hR with
   | nil => cases hx
   | @cons a v n y L m h1 _ ih =>
    unfold rows at hx ih; rw [List.flatMap_cons] at hx; rcases List.mem_append.1 hx with hx | hx
    ·exact ⟨(h1.lt x (mem_bl.1 hx)).2, h1.not x (mem_bl.1 hx)⟩
    ·exact ih (by simp [hx]) hx
 mono := fun {S S' w w' c x fp} h hS hS2 hw hf hs => by
  obtain ⟨b, L, cl, rfl, rfl, hn, hM, hR⟩ := h; have hS3 : ∀ x ∈ rows L, ¬ S' x := fun x hx => hS2 x (by simp [hx]); refine ⟨b, L, cl, rfl, rfl, hS2 b (by simp), hM.to (hf b (by simp)), ?_⟩
  ·have hf' : ∀ x ∈ rows L, w'.heap[x]? = w.heap[x]? := fun x hx => hf x (by simp [hx]); clear hM hf hS2
   induction hR with
   | nil => exact .nil
   | @cons a v n y L m h1 _ ih =>
    have hcons : ∀ x, x ∈ rows L → x ∈ rows ((a, v, n) :: L) := fun x hx => by unfold rows at hx ⊢; rw [List.flatMap_cons]; simp [hx]
    refine .cons ?_ (ih (fun x hx => hS3 x (hcons x hx)) fun x hx => hf' x (hcons x hx)); obtain ⟨cs, g1, g2, g3, g4⟩ := h1; refine ⟨cs, ⟨g1.1, ?_⟩, g2.to hS hw, g3, fun b hb => hS3 b (by unfold rows; rw [List.flatMap_cons]; exact List.mem_append.2 (.inl (mem_bl.2 hb)))⟩
    ·rcases g1.2 with hn | ⟨g, cap, cur, rfl, hb, hg, rest⟩
     ·exact .inl hn
     ·refine .inr ⟨g, cap, cur, rfl, hb, ?_, rest⟩; rw [hf' g (by unfold rows; rw [List.flatMap_cons]; simp [bl, Value.ownBlock])]; exact hg
theorem Ob.turnN {e : TypeId} {l : List ((α : Type) × Fk α × α)} {S : Nat → Prop} {w : World} {v : Value} {cs : List Value} {fp : List Nat} (h : Ob e l S w v cs fp) {i : Nat} {α : Type} {k : Fk α} {x : α} (hi : l[i]? = some ⟨α, k, x⟩) {c : Value} (hc : cs[i]? = some c) :
 ∃ fi, k.rep S w c x fi ∧ (∀ b ∈ fi, b ∈ fp) ∧ fi.Nodup ∧ pb v ∉ fi ∧ ∀ {w' : World} {x' : α} {fi' : List Nat}, k.rep S w' c x' fi' → Up (fun b => b ∈ fi) w w' → fi'.Nodup → (∀ b ∈ fi', b ∈ fi ∨ b ∉ fp) →
  ∃ fp', Ob e (l.set i ⟨α, k, x'⟩) S w' v cs fp' ∧ ∀ b ∈ fp', b ∈ fp ∨ b ∈ fi' := by
 have hlt := h.lt; obtain ⟨b, fq, rfl, rfl, hn, hb, hk, hf⟩ := h; obtain ⟨c', fa, fi, fb, e1, e2, e3, e4⟩ := hf.at hi; rw [hc] at e1
 cases e1
 have hn1 := (List.nodup_cons.1 hn).1; have hn2 := (List.nodup_cons.1 hn).2; rw [e2, List.append_assoc, List.nodup_append] at hn2; obtain ⟨na, nib, nd⟩ := hn2; rw [List.nodup_append] at nib; refine ⟨fi, e3, fun x hx => by rw [e2]; simp [hx], nib.1, fun hx => hn1 (by rw [e2]; simp [show b ∈ fi from hx]), fun {w' x' fi'} h' hu hnd hsub => ?_⟩; have hbn : b ∉ fi := fun hx => hn1 (by rw [e2]; simp [hx])
 have hab : ∀ x ∈ fa ++ fb, x ∉ fi := fun x hx hxi => by
  rcases List.mem_append.1 hx with hx | hx
  ·exact nd x hx x (by simp [hxi]) rfl
  ·exact nib.2.2 x hxi x hx rfl
 have hin : ∀ x ∈ fa ++ fb, x ∈ b :: fq := fun x hx => by rw [e2]; simp at hx ⊢; rcases hx with hx | hx <;> simp [hx]
 have hsm : Sm S w w' := hu.sm fun x hx _ hxi => by
  have : x ∈ b :: fq := by rw [e2]; simp [hxi]
  exact (hlt x this).2 hx
 have := e4 h' (fun _ h => h) (fun x hx => (hlt x (hin x hx)).2) hsm (fun x hx => hu.block x (hlt x (hin x hx)).1 (hab x hx)) hu.size
 have hcs : cs.set i c = cs := by
  apply List.ext_getElem?
  intro j; rw [List.getElem?_set]
  split
  ·rename_i hij; subst hij; rw [if_pos (List.getElem?_eq_some_iff.1 hc).1, hc]
  ·rfl
 rw [hcs] at this
 have old : ∀ x ∈ fi', ∀ y ∈ b :: (fa ++ fb), x ≠ y := fun x hx y hy e => by
  subst e; rcases hsub x hx with h1 | h1
  ·rcases List.mem_cons.1 hy with rfl | hy
   ·exact hbn h1
   ·exact hab x hy h1
  ·have : x ∈ b :: fq := by
    rcases List.mem_cons.1 hy with rfl | hy
    ·simp
    ·exact hin x hy
   exact h1 this
 refine ⟨b :: (fa ++ fi' ++ fb), ⟨b, _, rfl, rfl, ?_, hb, ?_, this⟩, fun x hx => ?_⟩
 ·refine List.nodup_cons.2 ⟨fun hm => ?_, ?_⟩
  ·simp only [List.mem_append] at hm; rcases hm with (hm | hm) | hm
   ·exact hn1 (by rw [e2]; simp [hm])
   ·exact old b hm b (by simp) rfl
   ·exact hn1 (by rw [e2]; simp [hm])
  ·rw [List.append_assoc]; refine List.nodup_append.2 ⟨na, List.nodup_append.2 ⟨hnd, nib.2.1, fun x hx y hy e => old x hx y (by simp [hy]) e⟩, fun x hx y hy e => ?_⟩; rcases List.mem_append.1 hy with hy | hy
   ·exact old y hy x (by simp [hx]) e.symm
   ·exact nd x hx y (by simp [hy]) e
 ·have := hu.block b (hlt b (by simp)).1 hbn; unfold Bk at hk ⊢; rw [this]; exact hk
 ·simp only [List.mem_cons, List.mem_append] at hx; rcases hx with rfl | (hx | hx) | hx
  ·exact .inl (by simp)
  ·exact .inl (hin x (by simp [hx]))
  ·exact .inr hx
  ·exact .inl (hin x (by simp [hx]))
theorem mem_rows {κ : Type} {L : List (κ × Value × Nat)} {b : Nat} : b ∈ rows L ↔ ∃ x ∈ L, Blk x.2.1 b := by
 unfold rows; rw [List.mem_flatMap]; exact ⟨fun ⟨x, h1, h2⟩ => ⟨x, h1, mem_bl.1 h2⟩, fun ⟨x, h1, h2⟩ => ⟨x, h1, mem_bl.2 h2⟩⟩
theorem MR.set' {κ β : Type} [DecidableEq κ] {R R' : Value → β → Prop} {L : List (κ × Value × Nat)} {m : List (κ × β)} (h : MR R L m) (k : κ) {v : Value} {y : β} (hn : (L.map (·.1)).Nodup)
 (himp : ∀ x ∈ L, k ≠ x.1 → ∀ y, R x.2.1 y → R' x.2.1 y) (hv : R' v y) (c : Nat) : MR R' (mset k v c L) (mput k y m) := by
 induction h with
 | nil => exact .cons hv .nil
 | @cons a u n z L m h1 h2 ih =>
  simp only [List.map_cons, List.nodup_cons] at hn; unfold mset mput
  by_cases e : k = a
  ·subst e; simp only [if_true]; refine .cons hv ?_; have : ∀ x ∈ L, k ≠ x.1 := fun x hx e => hn.1 (List.mem_map.2 ⟨x, hx, e.symm⟩); have himp' : ∀ x ∈ L, ∀ y, R x.2.1 y → R' x.2.1 y := fun x hx => himp x (by simp [hx]) (this x hx); clear himp ih hn this h1
   induction h2 with
   | nil => exact .nil
   | @cons a3 v3 n3 y3 L3 m3 h3 _ ih2 => exact .cons (himp' (a3, v3, n3) List.mem_cons_self _ h3) (ih2 fun x hx => himp' x (List.mem_cons_of_mem _ hx))
  ·simp only [e, if_false]; exact .cons (himp (a, u, n) List.mem_cons_self e _ h1) (ih hn.2 fun x hx => himp x (List.mem_cons_of_mem _ hx))
theorem mset_rows {κ : Type} [DecidableEq κ] (k : κ) (u : Value) (c : Nat) : ∀ {L : List (κ × Value × Nat)} {b : Nat}, (L.map (·.1)).Nodup → b ∈ rows (mset k u c L) → Blk u b ∨ ∃ x ∈ L, k ≠ x.1 ∧ Blk x.2.1 b
 | [], b, _, h => by
  obtain ⟨x, hx, hb⟩ := mem_rows.1 h; simp [mset] at hx; subst hx; exact .inl hb
 | y :: L, b, hn, h => by
  simp only [List.map_cons, List.nodup_cons] at hn; unfold mset at h
  by_cases e : k = y.1
  ·rw [if_pos e] at h; obtain ⟨x, hx, hb⟩ := mem_rows.1 h; rcases List.mem_cons.1 hx with rfl | hx
   ·exact .inl hb
   ·exact .inr ⟨x, by simp [hx], fun e2 => hn.1 (List.mem_map.2 ⟨x, hx, by rw [← e2, e]⟩), hb⟩
  ·rw [if_neg e] at h; obtain ⟨x, hx, hb⟩ := mem_rows.1 h; rcases List.mem_cons.1 hx with rfl | hx
   ·exact .inr ⟨x, by simp, e, hb⟩
   ·rcases mset_rows k u c hn.2 (mem_rows.2 ⟨x, hx, hb⟩) with h | ⟨z, h1, h2, h3⟩
    ·exact .inl h
    ·exact .inr ⟨z, by simp [h1], h2, h3⟩
theorem mset_rows_nodup {κ : Type} [DecidableEq κ] (k : κ) (u : Value) (c : Nat) : ∀ {L : List (κ × Value × Nat)}, (L.map (·.1)).Nodup → (rows L).Nodup → (∀ b, Blk u b → ∀ x ∈ L, k ≠ x.1 → ¬ Blk x.2.1 b) → (rows (mset k u c L)).Nodup
 | [], _, _, _ => by simpa [mset, rows] using bl_nodup u
 | y :: L, hn, hr, hd => by
  have hn0 := hn; simp only [List.map_cons, List.nodup_cons] at hn; unfold rows at hr; rw [List.flatMap_cons, List.nodup_append] at hr; obtain ⟨r1, r2, r3⟩ := hr; unfold mset
  by_cases e : k = y.1
  ·rw [if_pos e]; unfold rows; rw [List.flatMap_cons, List.nodup_append]; refine ⟨bl_nodup u, r2, fun a ha b hb e2 => ?_⟩; subst e2; obtain ⟨x, hx, hxb⟩ := mem_rows.1 (show a ∈ rows L from hb); exact hd a (mem_bl.1 ha) x (by simp [hx]) (fun e2 => hn.1 (List.mem_map.2 ⟨x, hx, by rw [← e2, e]⟩)) hxb
  ·rw [if_neg e]; unfold rows; rw [List.flatMap_cons, List.nodup_append]; refine ⟨r1, mset_rows_nodup k u c hn.2 r2 fun b hb x hx => hd b hb x (by simp [hx]), fun a ha b hb e2 => ?_⟩; subst e2; rcases mset_rows k u c hn.2 (show a ∈ rows (mset k u c L) from hb) with h | ⟨x, h1, h2, h3⟩
   ·exact hd a h y (by simp) e (mem_bl.1 ha)
   ·exact r3 a ha a (mem_rows.2 ⟨x, h1, h3⟩) rfl
theorem look_mem {κ : Type} [DecidableEq κ] {k : κ} {v : Value} {L : List (κ × Value × Nat)} (h : look k L = some v) : ∃ x ∈ L, k = x.1 ∧ x.2.1 = v := by
 unfold look at h; rw [Option.map_eq_some_iff] at h; obtain ⟨x, hx, hv⟩ := h; exact ⟨x, List.mem_of_find?_eq_some hx, by simpa using List.find?_some hx, hv⟩
section
variable {P : Program} {e te tm t : TypeId} {l : List ((α : Type) × Fk α × α)} {S : Nat → Prop} {w : World} {v : Value} {cs : List Value} {fp : List Nat} {kk : Value → World → Prop}
theorem Ob.lend {κ β : Type} [DecidableEq κ] {ky : Ky P t κ} {k : Kd β} {er : TypeId} (h : Ob e l S w v cs fp) {i : Nat} {m : List (κ × List β)} (hi : l[i]? = some ⟨_, fMapO ky k er, m⟩) {c : Value} (hc : cs[i]? = some c) (ht : P.underlying tm = some (.map t te))
 (hz : ∀ w, (zeroValue te).run P w = .ok (.slice none 0 0) w) (a : κ) :
 ∃ r, Ow k er S 0 w r ((ye a m).getD []) ∧ (∀ b, Blk r b → b ∈ fp) ∧
  (∀ {ρ : En} {d : Option Tmp} {ty : TypeId} {pos : String} {af : Array Edge} {g : Option (Nat × Bool)} {x y : Operand}, ev ρ x = c → ev ρ y = ky.enc a → Rw P ⟨d, .lookup tm x y false, ty, pos, af, g⟩ ρ w r) ∧
  ∀ {w1 : World} {u : Value} {xs : List β}, Up (Blk r) w w1 → Ow k er S 0 w1 u xs → (∀ b, Blk u b → Blk r b ∨ b ∉ fp) →
   ∀ {ρ : En} {d : Option Tmp} {ty : TypeId} {pos : String} {af : Array Edge} {g : Option (Nat × Bool)} {x y z : Operand} {kk : Value → World → Prop}, ev ρ x = c → ev ρ y = ky.enc a → ev ρ z = u →
    (∀ w' fp', Ob e (l.set i ⟨_, fMapO ky k er, mput a xs m⟩) S w' v cs fp' → (∀ b ∈ fp', b ∈ fp ∨ Blk u b) → Up (fun b => b ∈ fp) w w' → kk undef w') →
    Does P ⟨d, .mapUpdate tm x y z, ty, pos, af, g⟩ ρ w1 kk := by
 obtain ⟨fi, hr, hsub, hnd, _, hturn⟩ := h.turnN hi hc; obtain ⟨b, L, cl, rfl, rfl, hS, hM, hR⟩ := hr; have hbr := (List.nodup_cons.1 hnd).1; have hrn := (List.nodup_cons.1 hnd).2
 have hlk : ∃ r, (look a L).getD (.slice none 0 0) = r ∧ Ow k er S 0 w r ((ye a m).getD []) ∧ ∀ q, Blk r q → ∃ x ∈ L, a = x.1 ∧ Blk x.2.1 q := by
  rcases hR.look a with ⟨h1, h2⟩ | ⟨v1, y1, h1, h2, h3⟩
  ·exact ⟨_, by rw [h2]; first | done | rfl, by rw [h1]; exact Ow.nil _ _ _ _ _, fun q hq => by simp [Blk, Value.ownBlock] at hq⟩
  ·obtain ⟨x, hx, hk, hv⟩ := look_mem h2; exact ⟨v1, by rw [h2]; rfl, by rw [h1]; exact h3, fun q hq => ⟨x, hx, hk, by rw [hv]; exact hq⟩⟩
 obtain ⟨r, hlr, hor, hrb⟩ := hlk
 have hrows : ∀ q, Blk r q → q ∈ rows L := fun q hq => by obtain ⟨x, hx, _, hb⟩ := hrb q hq; exact mem_rows.2 ⟨x, hx, hb⟩
 refine ⟨r, hor, fun q hq => hsub q (by simp [hrows q hq]), fun hx hy => rw_look hM ht (hz w) hx hy hlr, fun {w1 u xs} up hu hub {ρ d ty pos af g x y z kk} hx hy hzz hk => ?_⟩; have hbn : ¬ Blk r b := fun hq => hbr (hrows b hq); have hM1 := hM.to (up.block b hM.lt hbn)
 have keyed : ∀ {x q}, x ∈ L → a ≠ x.1 → Blk x.2.1 q → ¬ Blk r q := fun {x q} hx hne hq hqr => by
  obtain ⟨z, hz1, hz2, hz3⟩ := hrb q hqr
  -- two entries with one block are one
  have : ∀ {L : List (κ × Value × Nat)}, (rows L).Nodup → (L.map (·.1)).Nodup → x ∈ L → z ∈ L → x = z := by
   intro L
   induction L with
   | nil => intro _ _ hx; cases hx
   | cons y L ih =>
    intro hr hn hx hz; unfold rows at hr; rw [List.flatMap_cons, List.nodup_append] at hr; simp only [List.map_cons, List.nodup_cons] at hn; rcases List.mem_cons.1 hx with hx1 | hx1
    ·rcases List.mem_cons.1 hz with hz4 | hz4
     ·rw [hx1, hz4]
     ·exact absurd rfl (hr.2.2 q (by rw [← hx1]; exact mem_bl.2 hq) q (mem_rows.2 ⟨z, hz4, hz3⟩))
    ·rcases List.mem_cons.1 hz with hz4 | hz4
     ·exact absurd rfl (hr.2.2 q (by rw [← hz4]; exact mem_bl.2 hz3) q (mem_rows.2 ⟨x, hx1, hq⟩))
     ·exact ih hr.2.1 hn.2 hx1 hz4
  have := this hrn hM.keys hx hz1; subst this; exact hne hz2
 refine dc_mset hM1 ht hx hy hzz fun w' c' hM' up2 => ?_; have hbl : b < w.heap.size := hM.lt
 have upAll : Up (fun q => q ∈ b :: rows L) w w' := (up.mono fun q _ hq => by simp [hrows q hq]).then up2 fun q _ hq => by have hq : q = b := hq; simp [hq]
 have hSb : Sm S w1 w' := up2.sm fun q hq _ hqb => by have hqb : q = b := hqb; rw [hqb] at hq; exact hS hq
 have hSr : Sm S w w1 := up.sm fun q hq _ hqr => hor.not q hqr hq
 have hub' : ∀ q, Blk u q → q ≠ b := fun q hq e => by
  subst e; rcases hub q hq with h1 | h1
  ·exact hbn h1
  ·exact h1 (hsub q (by simp))
 have hR' : MR (fun v xs => Ow k er S 0 w' v xs) (mset a u cl L) (mput a xs m) := by
  refine hR.set' a hM.keys (fun x hx hne y hy => ?_) ?_ cl
  ·have h1 : Ow k er S 0 w1 x.2.1 y := hy.to up (fun q hq _ hqr => hor.not q hqr hq) fun q hq hqr => keyed hx hne hq hqr
   exact h1.to up2 (fun q hq _ hqb => by have hqb : q = b := hqb; rw [hqb] at hq; exact hS hq) fun q hq hqb => by
    have hqb : q = b := hqb; rw [hqb] at hq; exact hbr (mem_rows.2 ⟨x, hx, hq⟩)
  ·exact hu.to up2 (fun q hq _ hqb => by have hqb : q = b := hqb; rw [hqb] at hq; exact hS hq) fun q hq hqb => hub' q hq hqb
 have hsubN : ∀ q ∈ b :: rows (mset a u cl L), q ∈ b :: rows L ∨ q ∉ fp := fun q hq => by
  rcases List.mem_cons.1 hq with rfl | hq
  ·exact .inl (by simp)
  ·rcases mset_rows a u cl hM.keys hq with h1 | ⟨x, h1, _, h3⟩
   ·rcases hub q h1 with h2 | h2
    ·exact .inl (by simp [hrows q h2])
    ·exact .inr h2
   ·exact .inl (by simp [mem_rows.2 ⟨x, h1, h3⟩])
 have hndN : (b :: rows (mset a u cl L)).Nodup := by
  refine List.nodup_cons.2 ⟨fun hq => ?_, mset_rows_nodup a u cl hM.keys hrn fun q hq x hx hne hxq => ?_⟩
  ·rcases mset_rows a u cl hM.keys hq with h1 | ⟨x, h1, _, h3⟩
   ·exact hub' b h1 rfl
   ·exact hbr (mem_rows.2 ⟨x, h1, h3⟩)
  ·rcases hub q hq with h1 | h1
   ·exact keyed hx hne hxq h1
   ·exact h1 (hsub q (by simp [mem_rows.2 ⟨x, hx, hxq⟩]))
 obtain ⟨fp', ho, hfp⟩ := hturn (x' := mput a xs m) (fi' := b :: rows (mset a u cl L)) ⟨b, _, c', rfl, rfl, hS, hM', hR'⟩ upAll hndN hsubN; refine hk w' fp' ho (fun q hq => ?_) (upAll.mono fun q _ hq => hsub q hq); rcases hfp q hq with h1 | h1
 ·exact .inl h1
 ·rcases List.mem_cons.1 h1 with rfl | h1
  ·exact .inl (hsub _ (by simp))
  ·rcases mset_rows a u cl hM.keys h1 with h2 | ⟨x, h2, _, h3⟩
   ·exact .inr h2
   ·exact .inl (hsub q (by simp [mem_rows.2 ⟨x, h2, h3⟩]))
end
end Go.Mg

namespace Go.Mg
open Go
set_option linter.unusedVariables false
section
variable {P : Program} {ops : Array Oper} {Q : Exit → Act → World → Prop} {md : Region.Mode} {S : Nat → World → World → Prop}
def wpAnyS (P : Program) (md : Region.Mode) (ops : Array Oper) (Q : Exit → Act → World → Prop) (S : Nat → World → World → Prop) : Nat → Array Bool → Act → World → Prop
 | 0, listed, a, w => Region.ready md ops listed = [] ∧ Q .normal a w
 | n + 1, listed, a, w => (Region.ready md ops listed = [] → Q .normal a w) ∧
  ∀ i ∈ Region.ready md ops listed, wpOp P ops Q i (fun a' w' => S i w w' ∧ wpAnyS P md ops Q S n (listed.setIfInBounds i true) a' w') a w
theorem wpAny_of_S : ∀ (n : Nat) (listed : Array Bool) (a : Act) (w : World), wpAnyS P md ops Q S n listed a w → wpAny P md ops Q n listed a w
 | 0, _, _, _, h => h
 | n + 1, _, _, _, h => ⟨h.1, fun i hi => wpOp_mono (fun a' w' h' => wpAny_of_S n _ a' w' h'.2) (h.2 i hi)⟩
theorem wpAnyS_first {i : Nat} {oi : Oper} {v : Value} {R : World → Prop} (hi : ops[i]? = some oi) (hsel : ∀ (j : Nat) (o : Oper) cs b, ops[j]? = some o → o.op ≠ .select cs b)
 (hQ : ∀ c a w, Q (.panic c) (a.put oi.dst v) w → Q (.panic c) a w) (hSi : ∀ w, S i w w)
 (hR : ∀ j oj, ops[j]? = some oj → j ≠ i → (∀ e ∈ oj.after, Region.binds md e = true → e.on ≠ i) → (∀ e ∈ oi.after, Region.binds md e = true → e.on ≠ j) → ∀ w w', R w → S j w w' → R w') :
 ∀ (n : Nat) (listed : Array Bool) (a : Act) (w : World),
  (∀ j oj, ops[j]? = some oj → j ≠ i → listed.getD j true = false → (∀ e ∈ oj.after, Region.binds md e = true → e.on ≠ i) → oi.apart ops oj = true) →
  i ∈ Region.ready md ops listed → YieldsIf P ops R oi v a → R w →
  wpAnyS P md ops Q S n (listed.setIfInBounds i true) (a.put oi.dst v) w → wpAnyS P md ops Q S (n + 1) listed a w := by
 intro n
 induction n with
 | zero =>
  intro listed a w _ hr hy hw H; refine ⟨fun h => (by rw [h] at hr; cases hr), fun j hj => ?_⟩
  by_cases hji : j = i
  ·subst hji; exact hy.wpOp hi hw ⟨hSi w, H⟩
  ·have := ready_mono hj hji; rw [H.1] at this
   cases this
 | succ n ih =>
  intro listed a w hfree hr hy hw H; refine ⟨fun h => (by rw [h] at hr; cases hr), fun j hj => ?_⟩
  by_cases hji : j = i
  ·subst hji; exact hy.wpOp hi hw ⟨hSi w, H⟩
  ·have h1 := H.2 j (ready_mono hj hji); obtain ⟨hjun, oj, hoj, hall⟩ := mem_ready.1 hj
   have hnot : ∀ e ∈ oj.after, Region.binds md e = true → e.on ≠ i := fun e he hb heq => by
    have h1 := hall e he hb; have h0 := (mem_ready.1 hr).1; rw [heq] at h1; rcases Nat.lt_or_ge i listed.size with h' | h'
    ·simp [h'] at h0 h1; rw [h0] at h1; cases h1
    ·simp [Array.getElem?_eq_none h'] at h1
   have hnot2 : ∀ e ∈ oi.after, Region.binds md e = true → e.on ≠ j := fun e he hb heq => by
    obtain ⟨_, o2, ho2, hall2⟩ := mem_ready.1 hr; rw [hi] at ho2; cases ho2; have h1 := hall2 e he hb; rw [heq] at h1; rcases Nat.lt_or_ge j listed.size with h' | h'
    ·simp [h'] at hjun h1; rw [hjun] at h1; cases h1
    ·simp [Array.getElem?_eq_none h'] at h1
   have h2 := wpOp_putIf hoj (hfree j oj hoj hji hjun hnot) (fun cs b => hsel i oi cs b hi) (fun cs b => hsel j oj cs b hoj) hQ hy h1
   have hfree' : ∀ k ok, ops[k]? = some ok → k ≠ i → (listed.setIfInBounds j true).getD k true = false →
    (∀ e ∈ ok.after, Region.binds md e = true → e.on ≠ i) → oi.apart ops ok = true := fun k ok hk hki hun hno => by
    refine hfree k ok hk hki ?_ hno
    by_cases hjk : j = k
    ·subst hjk; exact hjun
    ·rw [getD_set_ne true hjk] at hun; exact hun
   refine wpOp_mono (fun a' w' h3 => ⟨h3.2.1, ih (listed.setIfInBounds j true) a' w' hfree' (ready_mono hr (Ne.symm hji)) h3.1 (hR j oj hoj hji hnot hnot2 w w' hw h3.2.1) ?_⟩) h2; rw [Array.setIfInBounds_comm _ _ hji]; exact h3.2.2
end
variable {P : Program} {N : Nat} {Q : Ps} {ρ : En} {w : World} {qn qr : En → World → Prop} {qx : List (Nat × (En → World → Prop))}
inductive Ot
 | done
 | one (i : Nat) (q : Bool) (k : Ot)
 | two (i j : Nat) (a b : Ot)
def Ot.len : Ot → Nat
 | .done => 0
 | .one _ _ k => k.len + 1
 | .two _ _ a _ => a.len + 1
def cls (U : List (Nat × List Nat)) (i : Nat) : List Nat := match U with
 | [] => []
 | (j, l) :: U => bif Nat.beq i j then l else cls U i
def subB (a b : List Nat) : Bool := a.all fun c => b.any fun d => Nat.beq c d
def isAct (T : List (Nat × List Nat)) (i : Nat) : Bool := T.any fun x => Nat.beq i x.1
def readOK (ops : Array Oper) (U T : List (Nat × List Nat)) (i : Nat) : Bool :=
 !isAct T i && ((List.range ops.size).all fun j => !isAct T j || Nat.beq j i || (match ops[j]? with
  | none => true
  | some o => (o.after.any fun e => Region.binds .any e && Nat.beq e.on i) || (match ops[i]? with
   | none => false
   | some oi => oi.after.any fun e => Region.binds .any e && Nat.beq e.on j) || subB (cls U i) (cls T j)))
def otOK (ops : Array Oper) (U T : List (Nat × List Nat)) : Ot → Array Bool → Bool
 | .done, listed => (Region.ready .any ops listed).isEmpty
 | .one i true k, listed => Region.free .any ops listed i && (Region.ready .any ops listed).contains i && readOK ops U T i && otOK ops U T k (listed.setIfInBounds i true)
 | .one i false k, listed => (Region.ready .any ops listed == [i]) && isAct T i && otOK ops U T k (listed.setIfInBounds i true)
 | .two i j a b, listed => (Region.ready .any ops listed == [i, j]) && isAct T i && isAct T j && Nat.beq a.len b.len && otOK ops U T a (listed.setIfInBounds i true) && otOK ops U T b (listed.setIfInBounds j true)
def Kept (Cl : Nat → Nat → Prop) (w0 : World) : List Nat → World → Prop
 | [], _ => True
 | c :: l, w => Sm (Cl c) w0 w ∧ Kept Cl w0 l w
theorem Kept.sub {Cl : Nat → Nat → Prop} {w0 w : World} {a b : List Nat} (h : subB a b = true) (hb : Kept Cl w0 b w) : Kept Cl w0 a w := by
 have hm : ∀ {l : List Nat}, Kept Cl w0 l w → ∀ c ∈ l, Sm (Cl c) w0 w := by
  intro l
  induction l with
  | nil => intro _ c hc; cases hc
  | cons d l ih =>
   intro h c hc; rcases List.mem_cons.1 hc with rfl | hc
   ·exact h.1
   ·exact ih h.2 c hc
 have h := List.all_eq_true.1 h
 induction a with
 | nil => trivial
 | cons c a ih =>
  refine ⟨?_, ih (List.all_eq_true.2 fun x hx => h x (List.mem_cons_of_mem _ hx)) fun x hx => h x (List.mem_cons_of_mem _ hx)⟩; obtain ⟨d, hd, he⟩ := List.any_eq_true.1 (h c List.mem_cons_self); have := Nat.eq_of_beq_eq_true he; subst this; exact hm hb _ hd
def StpT (P : Program) (ops : Array Oper) (C : World → Prop) (i : Nat) (ρ : En) (w : World) (k : En → World → Prop) : Prop := match ops[i]? with
 | none => False
 | some o => bif wantedE ops ρ o then Does P o ρ w fun v w' => C w' ∧ k (put ρ o.dst v) w' else C w ∧ k (put ρ o.dst undef) w
def MT (P : Program) (ops : Array Oper) (U T : List (Nat × List Nat)) (Cl : Nat → Nat → Prop) (w0 : World) (K : En → World → Prop) : Ot → En → World → Prop
 | .done, ρ, w => K ρ w
 | .one i true k, ρ, w => match ops[i]? with
  | none => False
  | some o => Kept Cl w0 (cls U i) w ∧ bif wantedE ops ρ o then ∃ v, (∀ w', Kept Cl w0 (cls U i) w' → (execOp (ev ρ) o).run P w' = .ok (.value v) w') ∧ MT P ops U T Cl w0 K k (put ρ o.dst v) w
   else MT P ops U T Cl w0 K k (put ρ o.dst undef) w
 | .one i false k, ρ, w => StpT P ops (Kept Cl w0 (cls T i)) i ρ w (MT P ops U T Cl w0 K k)
 | .two i j a b, ρ, w => StpT P ops (Kept Cl w0 (cls T i)) i ρ w (MT P ops U T Cl w0 K a) ∧ StpT P ops (Kept Cl w0 (cls T j)) j ρ w (MT P ops U T Cl w0 K b)
theorem wpOp_of_StpT {ops : Array Oper} {C : World → Prop} (hd : dstOk N ops = true) {Q' : Exit → Act → World → Prop} {i : Nat} {S : Nat → World → World → Prop} (hC : ∀ w w', C w' → S i w w') {n : Nat} {listed : Array Bool} {k : En → World → Prop} {ρ : En} {a : Act} {w : World} (ha : Ag a N ρ)
 (h : StpT P ops C i ρ w k) (hk : ∀ ρ a w, Ag a N ρ → k ρ w → wpAnyS P .any ops Q' S n listed a w) :
 wpOp P ops Q' i (fun a' w' => S i w w' ∧ wpAnyS P .any ops Q' S n listed a' w') a w := by
 unfold StpT at h; cases ho : ops[i]? with
 | none => rw [ho] at h; exact h.elim
 | some o =>
  rw [ho] at h; dsimp only at h
  have hmem : o ∈ ops.toList := by
   rw [Array.getElem?_eq_some_iff] at ho; obtain ⟨hlt, he⟩ := ho; rw [← he]; simp
  have hdo : ∀ d, o.dst = some d → d < N := fun d e => by
   have := List.all_eq_true.1 hd o hmem; rw [e] at this; simpa using this
  unfold wpOp; rw [ho]; dsimp only; rw [wanted_of hd ha o]; cases hw : wantedE ops ρ o with
  | true =>
   rw [hw] at h; simp only [cond_true] at h; rw [if_pos rfl]; exact .inl (Does.wp ha hdo (fun v w' hk' => ⟨hC _ _ hk'.1, hk _ _ _ (ha.put o.dst hdo v) hk'.2⟩) h)
  | false =>
   rw [hw] at h; simp only [cond_false] at h; rw [if_neg (by simp)]; exact ⟨hC _ _ h.1, hk _ _ _ (ha.put o.dst hdo undef) h.2⟩
def TS (Cl : Nat → Nat → Prop) (w0 : World) (T : List (Nat × List Nat)) (i : Nat) (w w' : World) : Prop := bif isAct T i then Kept Cl w0 (cls T i) w' else w' = w
theorem anyS_of_MT {ops : Array Oper} {U T : List (Nat × List Nat)} {Cl : Nat → Nat → Prop} {w0 : World} {K : En → World → Prop} (hd : dstOk N ops = true) (hsel : Region.noSelect ops = true) {Q' : Exit → Act → World → Prop}
 (hp : ∀ c a w, ¬ Q' (.panic c) a w) (hQ : ∀ ρ' a' w', Ag a' N ρ' → K ρ' w' → Q' .normal a' w') :
 ∀ (σ : Ot) (listed : Array Bool), otOK ops U T σ listed = true → ∀ (ρ : En) (a : Act) (w : World), Ag a N ρ → MT P ops U T Cl w0 K σ ρ w →
  wpAnyS P .any ops Q' (TS Cl w0 T) σ.len listed a w
 | .done, listed, hm, ρ, a, w, ha, h => ⟨by simpa [otOK] using hm, hQ _ _ _ ha h⟩
 | .one i true k, listed, hm, ρ, a, w, ha, h => by
  unfold MT at h; cases ho : ops[i]? with
  | none => rw [ho] at h; exact h.elim
  | some o =>
   rw [ho] at h; dsimp only at h
   have hmem : o ∈ ops.toList := by
    rw [Array.getElem?_eq_some_iff] at ho; obtain ⟨hlt, he⟩ := ho; rw [← he]; simp
   have hdo : ∀ d, o.dst = some d → d < N := fun d e => by
    have := List.all_eq_true.1 hd o hmem; rw [e] at this; simpa using this
   simp only [otOK, Bool.and_eq_true] at hm; obtain ⟨⟨⟨hf, hr⟩, hro⟩, hm'⟩ := hm; simp only [readOK, Bool.and_eq_true] at hro; obtain ⟨hTi, hall⟩ := hro
   have hTi : isAct T i = false := by simpa using hTi
   have hall := List.all_eq_true.1 hall
   have hR : ∀ j oj, ops[j]? = some oj → j ≠ i → (∀ e ∈ oj.after, Region.binds .any e = true → e.on ≠ i) → (∀ e ∈ o.after, Region.binds .any e = true → e.on ≠ j) → ∀ w w', Kept Cl w0 (cls U i) w → TS Cl w0 T j w w' → Kept Cl w0 (cls U i) w' := by
    intro j oj hj hji hno hno2 w w' hkw hk; have hlt : j < ops.size := (Array.getElem?_eq_some_iff.1 hj).1; have := hall j (List.mem_range.2 hlt); rw [hj, ho] at this; dsimp only at this; simp only [Bool.or_eq_true] at this; unfold TS at hk; cases ha : isAct T j with
    | false => rw [ha, cond_false] at hk; rw [hk]; exact hkw
    | true =>
    rw [ha, cond_true] at hk; rw [ha] at this; rcases this with (h1 | h1) | (h1 | h1) | h1
    ·cases h1
    ·exact absurd (Nat.eq_of_beq_eq_true h1) hji
    ·obtain ⟨n, hn, he⟩ := Array.any_eq_true.1 h1; simp only [Bool.and_eq_true] at he; exact absurd (Nat.eq_of_beq_eq_true he.2) (hno _ (Array.getElem_mem hn) he.1)
    ·obtain ⟨n, hn, he⟩ := Array.any_eq_true.1 h1; simp only [Bool.and_eq_true] at he; exact absurd (Nat.eq_of_beq_eq_true he.2) (hno2 _ (Array.getElem_mem hn) he.1)
    ·exact Kept.sub h1 hk
   obtain ⟨hKw, h⟩ := h; cases hw : wantedE ops ρ o with
   | true =>
    rw [hw] at h; simp only [cond_true] at h; obtain ⟨v, hv, hk⟩ := h
    exact wpAnyS_first (R := Kept Cl w0 (cls U i)) ho (Region.noSelect_spec hsel) (fun c a w hq => (hp _ _ _ hq).elim) (fun w => by unfold TS; rw [hTi]; rfl) hR _ _ _ _ (Region.free_spec ho hf) (by simpa using hr)
     (.inl ⟨by rw [wanted_of hd ha o, hw], by rw [ha.eval]; exact hv⟩) hKw (anyS_of_MT hd hsel hp hQ k _ hm' _ _ _ (ha.put o.dst hdo v) hk)
   | false =>
    rw [hw] at h; simp only [cond_false] at h
    exact wpAnyS_first (R := Kept Cl w0 (cls U i)) ho (Region.noSelect_spec hsel) (fun c a w hq => (hp _ _ _ hq).elim) (fun w => by unfold TS; rw [hTi]; rfl) hR _ _ _ _ (Region.free_spec ho hf) (by simpa using hr)
     (.inr ⟨by rw [wanted_of hd ha o, hw], rfl⟩) hKw (anyS_of_MT hd hsel hp hQ k _ hm' _ _ _ (ha.put o.dst hdo undef) h)
 | .one i false k, listed, hm, ρ, a, w, ha, h => by
  simp only [otOK, Bool.and_eq_true] at hm; obtain ⟨⟨hr, hai⟩, hm'⟩ := hm
  have hr : Region.ready .any ops listed = [i] := by simpa using hr
  refine ⟨fun h0 => (by rw [hr] at h0; cases h0), fun j hj => ?_⟩; rw [hr] at hj
  obtain rfl : j = i := by simpa using hj
  exact wpOp_of_StpT (S := TS Cl w0 T) hd (fun _ _ h => by unfold TS; rw [hai]; exact h) ha h fun ρ a w ha h => anyS_of_MT hd hsel hp hQ k _ hm' ρ a w ha h
 | .two i j x y, listed, hm, ρ, a, w, ha, h => by
  simp only [otOK, Bool.and_eq_true] at hm; obtain ⟨⟨⟨⟨⟨hr, hai⟩, haj⟩, hl⟩, hm1⟩, hm2⟩ := hm; have hl := Nat.eq_of_beq_eq_true hl
  have hr : Region.ready .any ops listed = [i, j] := by simpa using hr
  refine ⟨fun h0 => (by rw [hr] at h0; cases h0), fun q hq => ?_⟩; rw [hr] at hq; simp only [List.mem_cons, List.not_mem_nil, or_false] at hq
  by_cases hqi : q = i
  ·subst hqi; exact wpOp_of_StpT (S := TS Cl w0 T) hd (fun _ _ h => by unfold TS; rw [hai]; exact h) ha h.1 fun ρ a w ha h => anyS_of_MT hd hsel hp hQ x _ hm1 ρ a w ha h
  ·obtain rfl : q = j := hq.resolve_left hqi; have := wpOp_of_StpT (Q' := Q') (S := TS Cl w0 T) (n := y.len) (listed := listed.setIfInBounds q true) hd (fun _ _ h => by unfold TS; rw [haj]; exact h) ha h.2 fun ρ a w ha h => anyS_of_MT hd hsel hp hQ y _ hm2 ρ a w ha h; rw [← hl] at this; exact this
theorem cw_drawT {id : Nat} {l : List Oper} (σ : Ot) (U T : List (Nat × List Nat)) (hf : P.follows .mixedOrders = true)
 (hσ : (Region.noSelect l.toArray && Nat.beq σ.len l.length && otOK l.toArray U T σ (Array.replicate l.length false)) = true)
 (h : ∀ w1, Up No w w1 → ∃ Cl : Nat → Nat → Prop, MT P l.toArray U T Cl w1 qn σ ρ w1) : CW P N (.region id l.toArray true) ⟨qn, qr, qx⟩ ρ w := fun hk a ha => by
 obtain ⟨Cl, h⟩ := h w.drew (Up.drew _ _); simp only [Bool.and_eq_true] at hσ; obtain ⟨⟨h1, h2⟩, h3⟩ := hσ; have hlen := Nat.eq_of_beq_eq_true h2; have := anyS_of_MT (P := P) (N := N) (Q' := fun e a' w' => ∃ ρ', Ag a' N ρ' ∧ (Ps.mk qn qr qx).ok e ρ' w') (K := qn) hk h1 (fun c a w ⟨ρ', _, hq⟩ => hq) (fun ρ' a' w' hg hq => ⟨ρ', hg, hq⟩) σ _ h3 ρ a w.drew ha h; refine wp_region_any hf (wpAny_of_S (S := TS Cl w.drew T) _ _ _ _ ?_); rw [hlen] at this; simpa using this
section
variable {ops : Array Oper} {U T : List (Nat × List Nat)} {Cl : Nat → Nat → Prop} {w0 : World} {K : En → World → Prop} {σ τ : Ot} {i j : Nat} {o oj : Oper} {v : Value} {d : Option Tmp} {op : Op} {ty : TypeId} {pos : String} {af : Array Edge}
theorem MT.vv (ho : ops[i]? = some o) (hU : cls U i = []) (hw : wantedE ops ρ o = true) (h : Rv P o ρ v) (k : MT P ops U T Cl w0 K σ (put ρ o.dst v) w) : MT P ops U T Cl w0 K (.one i true σ) ρ w := by
 unfold MT; rw [ho]; dsimp only; rw [hU, hw, cond_true]; exact ⟨trivial, v, fun w' _ => h w', k⟩
theorem MT.r {l : List Nat} (ho : ops[i]? = some o) (hU : cls U i = l) (hw : wantedE ops ρ o = true) (hk : Kept Cl w0 l w) (h : ∀ w', Kept Cl w0 l w' → Rw P o ρ w' v) (k : MT P ops U T Cl w0 K σ (put ρ o.dst v) w) : MT P ops U T Cl w0 K (.one i true σ) ρ w := by
 unfold MT; rw [ho]; dsimp only; rw [hU, hw, cond_true]; exact ⟨hk, v, h, k⟩
theorem MT.n {l : List Nat} (ho : ops[i]? = some o) (hU : cls U i = l) (hw : wantedE ops ρ o = false) (hk : Kept Cl w0 l w) (k : MT P ops U T Cl w0 K σ (put ρ o.dst undef) w) : MT P ops U T Cl w0 K (.one i true σ) ρ w := by
 unfold MT; rw [ho]; dsimp only; rw [hU, hw, cond_false]; exact ⟨hk, k⟩
theorem MT.c {l : List Nat} (ho : ops[i]? = some o) (hT : cls T i = l) (hw : wantedE ops ρ o = true) (h : Does P o ρ w fun v w' => Kept Cl w0 l w' ∧ MT P ops U T Cl w0 K σ (put ρ o.dst v) w') : MT P ops U T Cl w0 K (.one i false σ) ρ w := by
 unfold MT StpT; rw [ho]; dsimp only; rw [hT, hw, cond_true]; exact h
theorem MT.m {l : List Nat} (ho : ops[i]? = some o) (hT : cls T i = l) (hw : wantedE ops ρ o = false) (hk : Kept Cl w0 l w) (k : MT P ops U T Cl w0 K σ (put ρ o.dst undef) w) : MT P ops U T Cl w0 K (.one i false σ) ρ w := by
 unfold MT StpT; rw [ho]; dsimp only; rw [hT, hw, cond_false]; exact ⟨hk, k⟩
theorem MT.e (k : K ρ w) : MT P ops U T Cl w0 K .done ρ w := k
theorem MT.two (h1 : MT P ops U T Cl w0 K (.one i false σ) ρ w) (h2 : MT P ops U T Cl w0 K (.one j false τ) ρ w) : MT P ops U T Cl w0 K (.two i j σ τ) ρ w := ⟨h1, h2⟩
theorem mtv (ho : ops[i]? = some ⟨d, op, ty, pos, af, none⟩) (hU : cls U i = []) (h : Rv P ⟨d, op, ty, pos, af, none⟩ ρ v) (k : MT P ops U T Cl w0 K σ (put ρ d v) w) : MT P ops U T Cl w0 K (.one i true σ) ρ w := MT.vv ho hU rfl h k
theorem mtr {l : List Nat} (ho : ops[i]? = some ⟨d, op, ty, pos, af, none⟩) (hU : cls U i = l) (hk : Kept Cl w0 l w) (h : ∀ w', Kept Cl w0 l w' → Rw P ⟨d, op, ty, pos, af, none⟩ ρ w' v) (k : MT P ops U T Cl w0 K σ (put ρ d v) w) : MT P ops U T Cl w0 K (.one i true σ) ρ w := MT.r ho hU rfl hk h k
theorem mtc {l : List Nat} (ho : ops[i]? = some ⟨d, op, ty, pos, af, none⟩) (hT : cls T i = l) (h : Does P ⟨d, op, ty, pos, af, none⟩ ρ w fun v w' => Kept Cl w0 l w' ∧ MT P ops U T Cl w0 K σ (put ρ d v) w') : MT P ops U T Cl w0 K (.one i false σ) ρ w := MT.c ho hT rfl h
end
theorem ya {id : Nat} {l : List Oper} (σ : Ot) (U T : List (Nat × List Nat)) (Cl : Nat → Nat → Prop) (hf : P.follows .mixedOrders = true)
 (hσ : (Region.noSelect l.toArray && Nat.beq σ.len l.length && otOK l.toArray U T σ (Array.replicate l.length false)) = true)
 (h : ∀ w1, Up No w w1 → MT P l.toArray U T Cl w1 qn σ ρ w1) : CW P N (.region id l.toArray true) ⟨qn, qr, qx⟩ ρ w := cw_drawT σ U T hf hσ fun w1 u => ⟨Cl, h w1 u⟩
end Go.Mg

namespace Go.Mg
open Go
set_option linter.unusedVariables false
section
variable {F S S1 : Nat → Prop} {w w1 : World} {v : Value}
theorem Sl.cf {α : Type} {k : Kd α} {x : α} (h : Sl k S w v x) (c : Cx F S w S1 w1) (hF : ∀ b, F b → ¬ S b) : Sl k S1 w1 v x := h.up c.ge.le (c.up.sm fun b hb _ hf => hF b hf hb)
theorem Ow.cf {α : Type} {k : Kd α} {e : TypeId} {base : Nat} {xs : List α} (h : Ow k e S base w v xs) (c : Cx F S w S1 w1) (hF : ∀ b, F b → ¬ S b) (ha : ∀ b, Blk v b → ¬ F b) : Ow k e S1 base w1 v xs := h.up c.up c.ge.le c.ge.ge (fun b hb _ hf => hF b hf hb) ha
theorem Ob.cf {e : TypeId} {l : List ((α : Type) × Fk α × α)} {cs : List Value} {fp : List Nat} (h : Ob e l S w v cs fp) (c : Cx F S w S1 w1) (hF : ∀ b, F b → ¬ S b) (ha : ∀ b, b ∈ fp → ¬ F b) : Ob e l S1 w1 v cs fp := h.up c.up c.ge.le c.ge.ge (fun b hb _ hf => hF b hf hb) ha
theorem Obo.cf {T : Type} {fs : T → List ((α : Type) × Fk α × α)} {x : Option T} {e : TypeId} {cs : List Value} {fp : List Nat} (h : Obo e fs S w v x cs fp) (c : Cx F S w S1 w1) (hF : ∀ b, F b → ¬ S b) (ha : ∀ b, b ∈ fp → ¬ F b) : Obo e fs S1 w1 v x cs fp := h.up c.up c.ge.le c.ge.ge (fun b hb _ hf => hF b hf hb) ha
theorem Bs.cf {b : Nat} {cs : List Value} {e : TypeId} (h : Bs S w b cs e) (c : Cx F S w S1 w1) (hF : ∀ b, F b → ¬ S b) : Bs S1 w1 b cs e := ⟨c.ge.le b h.1, h.2.to c.up fun hf => hF b hf h.1⟩
theorem Cx.ofUp (hS : Sb S w) (u : Up F w w1) : Cx F S w S w1 := (Cx.refl hS).upd u fun _ _ h => h
theorem yc {A A' B : Nat → Prop} {n : Nat} (h : ∀ b, A b → ¬ B b) (hs : ∀ b, A' b → A b ∨ n ≤ b) (hB : ∀ b, B b → b < n) : ∀ b, A' b → ¬ B b := fun b h1 h2 => by
 rcases hs b h1 with h3 | h3
 ·exact h b h3 h2
 ·have := hB b h2; omega
theorem xe {A B : Nat → Prop} {n : Nat} (hs : ∀ b, A b → n ≤ b) (hB : ∀ b, B b → b < n) : ∀ b, A b → ¬ B b := fun b h1 h2 => by have := hs b h1; have := hB b h2; omega
theorem ap_nil {B : Nat → Prop} : ∀ b, Blk (.slice none 0 0) b → ¬ B b := fun b h => by simp [Blk, Value.ownBlock] at h
theorem qk {A B : Nat → Prop} (h : ∀ b, A b → ¬ B b) : ∀ b, B b → ¬ A b := fun b h1 h2 => h b h2 h1
theorem Sm.wrC {T G : Nat → Prop} {a b c : World} (h : Sm T a b) (k : Up G b c) (hs : a.heap.size ≤ b.heap.size) (hG : ∀ b, G b → ¬ T b) : Sm T a c := h.trans (T := T) (k.sm fun b hb _ hf => hG b hf hb) hs fun _ h => h
end
theorem xx {P : Program} {e te : TypeId} {l : List ((α : Type) × Fk α × α)} {S : Nat → Prop} {w w' : World} {v : Value} {cs : List Value} {fp : List Nat} {ρ : En} {d : Option Tmp} {ty : TypeId} {pos : String} {af : Array Edge} {g : Option (Nat × Bool)} {x : Operand}
 (h : Ob e l S w v cs fp) (hw : Sm (One (pb v)) w w') {i : Nat} {c : Value} (ha : aggOf P te = some (false, 1)) (hc : cs[i]? = some c) (hx : ev ρ x = .pointer (some ⟨pb v, i, none⟩)) : Rw P ⟨d, .load te x, ty, pos, af, g⟩ ρ w' c := by
 have hl := h.lt; obtain ⟨b, fq, rfl, rfl, hn, hS, hk, hf⟩ := h; exact rw_cell ha (cell_same ((hk.cell i).trans hc) fun hb => hw b rfl hb) hx
theorem Ob.rep {e : TypeId} {l : List ((α : Type) × Fk α × α)} {S : Nat → Prop} {w : World} {v : Value} {cs : List Value} {fp : List Nat} (h : Ob e l S w v cs fp) {i : Nat} {α : Type} {k : Fk α} {x : α} (hi : l[i]? = some ⟨α, k, x⟩) {c : Value} (hc : cs[i]? = some c) :
 ∃ fi, k.rep S w c x fi ∧ ∀ b ∈ fi, b ∈ fp := by
 obtain ⟨c', fi, h1, h2, h3, _⟩ := h.cell hi; rw [hc] at h1; cases h1; exact ⟨fi, h3, h2⟩
theorem Rw.does {P : Program} {o : Oper} {ρ : En} {w : World} {v : Value} {k : Value → World → Prop} (h : Rw P o ρ w v) (hk : k v w) : Does P o ρ w k := by
 unfold Rw at h; unfold Does; rw [h]; exact hk
def mb : Value → Nat
 | .map (some b) => b
 | _ => 0
theorem run_zeroValue {P : Program} {te : TypeId} {z : Value} (h : (P.info? te).bind (·.zero) = some z) (w : World) : (zeroValue te).run P w = .ok z w := by
 rw [Option.bind_eq_some_iff] at h; obtain ⟨i, hi, hz⟩ := h; simp [zeroValue, typeInfo, hi, hz, Sem.run_bind, Sem.run, program, Result.andThen_ok, Sem.run_pure]
theorem Cx.ofp {F G S0 S : Nat → Prop} {w0 w w1 : World} (C : Cx F S0 w0 S w) (u : Up G w w1) (hs : ∀ b, G b → F b ∨ w0.heap.size ≤ b) : Cx F S0 w0 S w1 :=
 C.upd u fun b hb hg => (hs b hg).resolve_right (Nat.not_le_of_lt hb)
theorem Cx.ofc {F G S0 S S1 : Nat → Prop} {w0 w w1 : World} (C : Cx F S0 w0 S w) (c : Cx G S w S1 w1) (hs : ∀ b, G b → F b ∨ w0.heap.size ≤ b) : Cx F S0 w0 S1 w1 :=
 C.then c fun b hb hg => (hs b hg).resolve_right (Nat.not_le_of_lt hb)
def Flat {α : Type} (k : Kd α) : Prop := ∀ (S S' : Nat → Prop) (w w' : World) (cs : List Value) (x : α), k.rep S w cs x → k.rep S' w' cs x
theorem flat_sc {α : Type} {enc : α → Value} {h : ∀ x, (enc x).oneCell' = true} : Flat (kSc enc h) := fun _ _ _ _ _ _ h => h
theorem Chk.flat {α : Type} {k : Kd α} (hk : Flat k) {S S' : Nat → Prop} {w w' : World} {cs : List Value} {xs : List α} (h : Chk k S w cs xs) : Chk k S' w' cs xs := by
 induction h with
 | nil => exact .nil
 | cons h1 _ ih => exact .cons (hk _ _ _ _ _ _ h1) ih
theorem Ow.flat {α : Type} {k : Kd α} (hk : Flat k) {e : TypeId} {S S' : Nat → Prop} {base : Nat} {w : World} {v : Value} {xs : List α} (h : Ow k e S' base w v xs) (hS : ∀ b, S b → S' b) : Ow k e S base w v xs := by
 obtain ⟨cs, h1, h2, h3, h4⟩ := h; exact ⟨cs, h1, h2.flat hk, h3, fun b hb hs => h4 b hb (hS b hs)⟩
theorem Ow.sbO {α : Type} {k : Kd α} {e : TypeId} {S : Nat → Prop} {base : Nat} {w : World} {v : Value} {xs : List α} (h : Ow k e S base w v xs) (hS : Sb S w) : Sb (Or S (Blk v)) w := fun b hb => hb.elim (hS b) fun hb => (h.lt b hb).2
section
variable {P : Program} {e te tm t : TypeId} {S : Nat → Prop} {w w' : World} {v u c : Value} {fp : List Nat} {kk : Value → World → Prop} {κ β : Type} [DecidableEq κ] {ky : Ky P t κ} {k : Kd β} {m : List (κ × β)}
theorem rep_look (h : (fMap ky k).rep S w c m fp) (ht : P.underlying tm = some (.map t te)) {zv : Value} {y0 : β} (hz : (P.info? te).bind (·.zero) = some zv) (hz0 : Sl k S w zv y0) (a : κ) :
 ∃ r, Sl k S w r ((ye a m).getD y0) ∧ ∀ {w' : World}, Sm (One (mb c)) w w' → ∀ {ρ : En} {d : Option Tmp} {ty : TypeId} {pos : String} {af : Array Edge} {g : Option (Nat × Bool)} {x y : Operand}, ev ρ x = c → ev ρ y = ky.enc a →
  Rw P ⟨d, .lookup tm x y false, ty, pos, af, g⟩ ρ w' r ∧ Rw P ⟨d, .lookup tm x y true, ty, pos, af, g⟩ ρ w' (.tuple #[r, .bool (ye a m).isSome]) := by
 obtain ⟨b, L, cl, rfl, rfl, _, hM, hR⟩ := h; rcases hR.look a with ⟨h1, h2⟩ | ⟨v1, y1, h1, h2, h3⟩
 ·refine ⟨zv, by rw [h1]; exact hz0, fun {w'} hw => ?_⟩; intro ρ d ty pos af g x y hx hy; have hM' := hM.to (hw b rfl hM.lt); exact ⟨rw_look hM' ht (run_zeroValue hz _) hx hy (by rw [h2]; rfl), rw_lookOk hM' ht (run_zeroValue hz _) hx hy (by rw [h2]; rfl) (by rw [h1, h2]; rfl)⟩
 ·refine ⟨v1, by rw [h1]; exact h3, fun {w'} hw => ?_⟩; intro ρ d ty pos af g x y hx hy; have hM' := hM.to (hw b rfl hM.lt); exact ⟨rw_look hM' ht (run_zeroValue hz _) hx hy (by rw [h2]; rfl), rw_lookOk hM' ht (run_zeroValue hz _) hx hy (by rw [h2]; rfl) (by rw [h1, h2]; rfl)⟩
theorem rep_mlen (h : (fMap ky k).rep S w c m fp) (ht : P.underlying tm = some (.map t te)) {w' : World} (hw : Sm (One (mb c)) w w') {ρ : En} {d : Option Tmp} {ty : TypeId} {pos : String} {af : Array Edge} {g : Option (Nat × Bool)} {x : Operand} (hx : ev ρ x = c) :
 Rw P ⟨d, .call { callee := .builtin .len, args := #[x], argTypes := #[tm] }, ty, pos, af, g⟩ ρ w' (.int .i64 m.length) := by
 obtain ⟨b, L, cl, rfl, rfl, _, hM, hR⟩ := h; rw [← hR.length]; exact rw_mlen (hM.to (hw b rfl hM.lt)) ht hx
theorem dc_mkmapO (ky : Ky P t κ) (k : Kd β) (er : TypeId) {ρ : En} {d : Option Tmp} {ty : TypeId} {pos : String} {af : Array Edge} {g : Option (Nat × Bool)} (hS : Sb S w) (h : ∀ c b w', w.heap.size ≤ b → (fMapO ky k er).rep S w' c [] [b] → Up No w w' → kk c w') :
 Does P ⟨d, .makeMap tm none, ty, pos, af, g⟩ ρ w kk :=
 dc_mkmap ky k hS fun c b w' hb hr hu => h c b w' hb (by
  obtain ⟨b', L, cl, rfl, hfp, hS', hM, hR⟩ := hr; simp at hfp; subst hfp; cases hR
  exact ⟨b, [], cl, rfl, rfl, hS', hM, .nil⟩) hu
theorem Ob.lendU {l : List ((α : Type) × Fk α × α)} {cs : List Value} (h : Ob e l S w v cs fp) {er : TypeId} {i : Nat} {m : List (κ × List β)} (hi : l[i]? = some ⟨_, fMapO ky k er, m⟩) (hc : cs[i]? = some c) (ht : P.underlying tm = some (.map t te))
 (hz : (P.info? te).bind (·.zero) = some (.slice none 0 0)) (a : κ) :
 ∃ r, Ow k er S 0 w r ((ye a m).getD []) ∧ (∀ b, Blk r b → b ∈ fp ∧ b ≠ pb v ∧ b ≠ mb c) ∧
  (∀ {w' : World}, Sm (One (mb c)) w w' → ∀ {ρ : En} {d : Option Tmp} {ty : TypeId} {pos : String} {af : Array Edge} {g : Option (Nat × Bool)} {x y : Operand}, ev ρ x = c → ev ρ y = ky.enc a → Rw P ⟨d, .lookup tm x y false, ty, pos, af, g⟩ ρ w' r) ∧
  ∀ {S0 : Nat → Prop} {w0 : World}, Ob e l S0 w0 v cs fp → Sm (One (mb c)) w w0 → ∀ {w1 : World} {u : Value} {xs : List β}, Up (Blk r) w0 w1 → Ow k er S0 0 w1 u xs → (∀ b, Blk u b → Blk r b ∨ b ∉ fp) →
   ∀ {ρ : En} {d : Option Tmp} {ty : TypeId} {pos : String} {af : Array Edge} {g : Option (Nat × Bool)} {x y z : Operand} {kk : Value → World → Prop}, ev ρ x = c → ev ρ y = ky.enc a → ev ρ z = u →
    (∀ w' fp', Ob e (l.set i ⟨_, fMapO ky k er, mput a xs m⟩) S0 w' v cs fp' → (∀ b ∈ fp', b ∈ fp ∨ Blk u b) → Up (fun b => b ∈ fp) w0 w' → kk undef w') →
    Does P ⟨d, .mapUpdate tm x y z, ty, pos, af, g⟩ ρ w1 kk := by
 have h0 := h; obtain ⟨r, hr1, hr2, hr3, hr4⟩ := h.lend hi hc ht (run_zeroValue hz) a; obtain ⟨fi, hr, hsub, hnd, hpb, _⟩ := h.turnN hi hc; obtain ⟨b, L, cl, rfl, rfl, hS, hM, hR⟩ := hr
 have hrow : ∀ q, Blk r q → q ∈ rows L := fun q hq => by
  have hlk : (look a L).getD (.slice none 0 0) = r := by
   have h1 := hr3 (ρ := fun n => bif Nat.beq n 0 then .map (some b) else ky.enc a) (d := none) (ty := 0) (pos := "") (af := #[]) (g := none) (x := .tmp 0) (y := .tmp 1) rfl rfl; have h2 := rw_look (ρ := fun n => bif Nat.beq n 0 then .map (some b) else ky.enc a) (d := none) (ty := 0) (pos := "") (af := #[]) (g := none) (x := .tmp 0) (y := .tmp 1) hM ht (run_zeroValue hz w) rfl rfl rfl; unfold Rw at h1 h2; rw [h1] at h2; cases h2
   rfl
  cases hl : look a L with
  | none => rw [hl] at hlk; simp at hlk; subst hlk; simp [Blk, Value.ownBlock] at hq
  | some v1 =>
   rw [hl] at hlk; simp at hlk; subst hlk; obtain ⟨x, hx, _, hv⟩ := look_mem hl; exact mem_rows.2 ⟨x, hx, by rw [hv]; exact hq⟩
 exact ⟨r, hr1, fun q hq => ⟨hr2 q hq, fun e => hpb (by rw [← e]; simp [hrow q hq]), fun e => by
  have e : q = b := e; rw [e] at hq
  exact (List.nodup_cons.1 hnd).1 (hrow b hq)⟩, fun {w'} hw {ρ d ty pos af g x y} hx hy => by
   have := hr3 (ρ := ρ) (d := d) (ty := ty) (pos := pos) (af := af) (g := g) hx hy; have h2 := rw_look (P := P) (ρ := ρ) (d := d) (ty := ty) (pos := pos) (af := af) (g := g) hM ht (run_zeroValue hz w) hx hy rfl; unfold Rw at this h2; rw [this] at h2; cases h2
   exact rw_look (hM.to (hw b rfl hM.lt)) ht (run_zeroValue hz w') hx hy rfl, fun {S0 w0} hO hw => by
   obtain ⟨r0, hq1, hq2, hq3, hq4⟩ := hO.lend hi hc ht (run_zeroValue hz) a
   have e1 : r0 = r := by
    have h1 := hq3 (ρ := fun n => bif Nat.beq n 0 then .map (some b) else ky.enc a) (d := none) (ty := 0) (pos := "") (af := #[]) (g := none) (x := .tmp 0) (y := .tmp 1) rfl rfl; have h2 := rw_look (ρ := fun n => bif Nat.beq n 0 then .map (some b) else ky.enc a) (d := none) (ty := 0) (pos := "") (af := #[]) (g := none) (x := .tmp 0) (y := .tmp 1) (hM.to (hw b rfl hM.lt)) ht (run_zeroValue hz w0) rfl rfl rfl; have h3 := hr3 (ρ := fun n => bif Nat.beq n 0 then .map (some b) else ky.enc a) (d := none) (ty := 0) (pos := "") (af := #[]) (g := none) (x := .tmp 0) (y := .tmp 1) rfl rfl; have h4 := rw_look (ρ := fun n => bif Nat.beq n 0 then .map (some b) else ky.enc a) (d := none) (ty := 0) (pos := "") (af := #[]) (g := none) (x := .tmp 0) (y := .tmp 1) hM ht (run_zeroValue hz w) rfl rfl rfl; unfold Rw at h1 h2 h3 h4; rw [h1] at h2; rw [h3] at h4; cases h2; cases h4
    rfl
   rw [← e1]
   exact @hq4⟩
end
def Mo {α : Type} (k : Fk α) (S : Nat → Prop) (w : World) (v : Value) (x : α) (fp : List Nat) : Prop := k.rep S w v x fp ∧ fp.Nodup
section
variable {α : Type} {k : Fk α} {F S S1 : Nat → Prop} {w w1 : World} {v u : Value} {x : α} {fp : List Nat}
theorem Mo.lt (h : Mo k S w v x fp) : ∀ b ∈ fp, b < w.heap.size ∧ ¬ S b := k.lt h.1
theorem Mo.up' (h : Mo k S w v x fp) (hu : Up F w w1) (hS : ∀ b, S b → S1 b) (hS2 : ∀ b ∈ fp, ¬ S1 b) (hSF : ∀ b, S b → b < w.heap.size → ¬ F b) (hF : ∀ b ∈ fp, ¬ F b) : Mo k S1 w1 v x fp :=
 ⟨k.mono h.1 hS hS2 (hu.sm hSF) (fun b hb => hu.block b (h.lt b hb).1 (hF b hb)) hu.size, h.2⟩
theorem Mo.up (h : Mo k S w v x fp) (hu : Up F w w1) (hS : ∀ b, S b → S1 b) (hS2 : ∀ b, S1 b → S b ∨ w.heap.size ≤ b) (hSF : ∀ b, S b → b < w.heap.size → ¬ F b) (hF : ∀ b ∈ fp, ¬ F b) : Mo k S1 w1 v x fp :=
 h.up' hu hS (fun b hb hs => (hS2 b hs).elim (h.lt b hb).2 fun hl => by have := (h.lt b hb).1; omega) hSF hF
theorem Mo.cells {κ β : Type} [DecidableEq κ] {P : Program} {t : TypeId} {ky : Ky P t κ} {k : Kd β} {m : List (κ × β)} (h : Mo (fMap ky k) S w v m fp) : ∃ b, v = .map b := by
 obtain ⟨⟨b, _, _, rfl, _⟩, _⟩ := h; exact ⟨_, rfl⟩
theorem Mo.cellsO {κ β : Type} [DecidableEq κ] {P : Program} {t : TypeId} {ky : Ky P t κ} {k : Kd β} {er : TypeId} {m : List (κ × List β)} (h : Mo (fMapO ky k er) S w v m fp) : ∃ b, v = .map b := by
 obtain ⟨⟨b, _, _, rfl, _⟩, _⟩ := h; exact ⟨_, rfl⟩
theorem Mo.nw (h : Mo k S w v x fp) (hu : Up No w w1) : Mo k S w1 v x fp := h.up hu (fun _ h => h) (fun _ h => .inl h) (fun _ _ _ h => h) fun _ _ h => h
end
section
variable {P : Program} {te tm t : TypeId} {S : Nat → Prop} {w w' : World} {u c : Value} {fp : List Nat} {kk : Value → World → Prop} {κ β : Type} [DecidableEq κ] {ky : Ky P t κ} {k : Kd β} {m : List (κ × β)} {ρ : En} {d : Option Tmp} {ty : TypeId} {pos : String} {af : Array Edge} {g : Option (Nat × Bool)} {x y z : Operand}
end
section
variable {P : Program} {e te tm t : TypeId} {l : List ((α : Type) × Fk α × α)} {S : Nat → Prop} {w : World} {v c : Value} {cs : List Value} {fp : List Nat} {kk : Value → World → Prop} {κ β : Type} [DecidableEq κ] {ky : Ky P t κ} {k : Kd β} {er : TypeId}
theorem MR.imp' {κ β : Type} {R R' : Value → β → Prop} {L : List (κ × Value × Nat)} {m : List (κ × β)} (h : MR R L m) (hR : ∀ x ∈ L, ∀ y, R x.2.1 y → R' x.2.1 y) : MR R' L m := by
 induction h with
 | nil => exact .nil
 | @cons a v n y L m h1 _ ih => exact .cons (hR (a, v, n) List.mem_cons_self _ h1) (ih fun x hx => hR x (List.mem_cons_of_mem _ hx))
theorem mdel_rows {a : κ} {L : List (κ × Value × Nat)} : (rows (mdel a L)).Sublist (rows L) := by
 induction L with
 | nil => exact List.Sublist.refl _
 | cons x L ih =>
  unfold mdel at ih ⊢; rw [List.filter_cons]
  split
  ·unfold rows at ih ⊢; rw [List.flatMap_cons, List.flatMap_cons]; exact (List.Sublist.refl _).append ih
  ·have : (rows L).Sublist (rows (x :: L)) := by unfold rows; rw [List.flatMap_cons]; exact List.sublist_append_right _ _
   exact ih.trans this
theorem dc_omdelO {tk : TypeId} {ρ : En} {d : Option Tmp} {ty : TypeId} {pos : String} {af : Array Edge} {g : Option (Nat × Bool)} {x y : Operand} (h : Ob e l S w v cs fp) {i : Nat} {m : List (κ × List β)} (hi : l[i]? = some ⟨_, fMapO ky k er, m⟩) (hc : cs[i]? = some c) (ht : P.underlying tm = some (.map t te)) {a : κ}
 (hx : ev ρ x = c) (hy : ev ρ y = ky.enc a) (hk : ∀ w' fp', Ob e (l.set i ⟨_, fMapO ky k er, mrem a m⟩) S w' v cs fp' → (∀ b ∈ fp', b ∈ fp) → Up (fun b => b ∈ fp) w w' → kk (.tuple #[]) w') :
 Does P ⟨d, .call { callee := .builtin .delete, args := #[x, y], argTypes := #[tm, tk] }, ty, pos, af, g⟩ ρ w kk := by
 obtain ⟨fi, hr, hsub, hnd, hpb, hturn⟩ := h.turnN hi hc; obtain ⟨b, L, cl, rfl, rfl, hS, hM, hR⟩ := hr; refine dc_mdel hM ht hx hy fun w' hM' up => ?_
 have hsm : Sm S w w' := up.sm fun q hq _ hqb => by have hqb : q = b := hqb; rw [hqb] at hq; exact hS hq
 have hbr := (List.nodup_cons.1 hnd).1
 have hR' : MR (fun v xs => Ow k er S 0 w' v xs) (mdel a L) (mrem a m) := by
  refine MR.imp' (hR.del a) fun x hx y hy => ?_
  exact hy.to up (fun q hq _ hqb => by have hqb : q = b := hqb; rw [hqb] at hq; exact hS hq) fun q hq hqb => by
   have hqb : q = b := hqb; rw [hqb] at hq; exact hbr (mem_rows.2 ⟨x, (mdel_sub a L).subset hx, hq⟩)
 obtain ⟨fp', ho, hfp⟩ := hturn (w' := w') (x' := mrem a m) (fi' := b :: rows (mdel a L)) ⟨b, _, cl, rfl, rfl, hS, hM', hR'⟩ (up.mono fun q _ hq => by have hq : q = b := hq; simp [hq])
  (List.nodup_cons.2 ⟨fun hm => hbr (mdel_rows.subset hm), (List.nodup_cons.1 hnd).2.sublist mdel_rows⟩) fun q hq => .inl (by
   rcases List.mem_cons.1 hq with rfl | hq
   ·simp
   ·exact List.mem_cons_of_mem _ (mdel_rows.subset hq))
 refine hk w' fp' ho (fun q hq => (hfp q hq).elim id fun hq => ?_) (up.mono fun q _ hq => by have hq : q = b := hq; rw [hq]; exact hsub b (by simp)); rcases List.mem_cons.1 hq with rfl | hq
 ·exact hsub _ (by simp)
 ·exact hsub q (List.mem_cons_of_mem _ (mdel_rows.subset hq))
end
def keys_ (l : List Int) : Option (List Int) := if l.length * 8 ≤ lim then some (l.mergeSort fun x y => decide (x ≤ y)) else none
theorem keys_some {l r : List Int} (h : keys_ l = some r) : l.length * 8 ≤ lim ∧ (l.mergeSort fun x y => decide (x ≤ y)) = r := by
 unfold keys_ at h
 split at h
 ·rename_i hb; exact ⟨hb, Option.some.inj h⟩
 ·cases h
theorem keys_perm {l m : List Int} (h : l.Perm m) : (l.mergeSort fun x y => decide (x ≤ y)) = m.mergeSort fun x y => decide (x ≤ y) := by
 have t : ∀ a b c : Int, decide (a ≤ b) = true → decide (b ≤ c) = true → decide (a ≤ c) = true := fun a b c h1 h2 => by simp at *; omega
 have tot : ∀ a b : Int, (decide (a ≤ b) || decide (b ≤ a)) = true := fun a b => by simp; omega
 refine List.Perm.eq_of_pairwise (le := fun x y => decide (x ≤ y) = true) (fun a b _ _ h1 h2 => by simp at h1 h2; omega) (List.pairwise_mergeSort t tot l) (List.pairwise_mergeSort t tot m) ?_; exact (List.mergeSort_perm l _).trans (h.trans (List.mergeSort_perm m _).symm)
section
variable {w : World} {α : Type} {r b c : Nat} {L rem : List (α × Value × Nat)} {lst : Option (α × Value × Nat)}
theorem It.born {P : Program} {t : TypeId} [DecidableEq α] {ky : Ky P t α} (h : It w r b L c rem lst) {w' : World} (hM : Mp ky w' b L c) : (rem.map (·.2.2)).Nodup := hM.born.sublist (h.sub.map _)
theorem filter_erase {e : α × Value × Nat} : ∀ {rem : List (α × Value × Nat)}, e ∈ rem → (rem.map (·.2.2)).Nodup → (e :: rem.filter fun z => !decide (e.2.2 = z.2.2)).Perm rem
 | x :: rem, he, hn => by
  simp only [List.map_cons, List.nodup_cons] at hn; rcases List.mem_cons.1 he with rfl | he
  ·have : (rem.filter fun z => !decide (e.2.2 = z.2.2)) = rem := List.filter_eq_self.2 fun z hz => by
    have : e.2.2 ≠ z.2.2 := fun h => hn.1 (List.mem_map.2 ⟨z, hz, h.symm⟩); simp [this]
   simp [this]
  ·have hne : ¬ e.2.2 = x.2.2 := fun h => hn.1 (List.mem_map.2 ⟨e, he, h⟩); have ih := filter_erase he hn.2; rw [List.filter_cons, if_pos (by simp [hne])]; exact (List.Perm.swap _ _ _).trans (ih.cons x)
theorem rest_lt {e : α × Value × Nat} (he : e ∈ rem) : (rem.filter fun z => !decide (e.2.2 = z.2.2)).length < rem.length := by
 rcases Nat.lt_or_ge (rem.filter fun z => !decide (e.2.2 = z.2.2)).length rem.length with h | h
 ·exact h
 ·have := List.filter_sublist.eq_of_length_le h; have h2 := List.filter_eq_self.1 this e he; simp at h2
theorem keys_step {e : α × Value × Nat} {ks : List α} (he : e ∈ rem) (hn : (rem.map (·.2.2)).Nodup) : (ks ++ [e.1] ++ (rem.filter fun z => !decide (e.2.2 = z.2.2)).map (·.1)).Perm (ks ++ rem.map (·.1)) := by
 rw [List.append_assoc]; have := (filter_erase he hn).map (·.1); exact List.Perm.append_left ks this
end
theorem yx {P : Program} {α : Type} {k : Kd α} {S : Nat → Prop} {w : World} {e by_ base : Nat} {zs : List Value} {x0 : α} {ρ : En} {d : Option Tmp} {ty : TypeId} {pos : String} {af : Array Edge} {g : Option (Nat × Bool)} {kk : Value → World → Prop} (el : Ty P k e by_) (hz : zeroOf P e = some zs) (hr : ∀ w, k.rep S w zs x0) (hbase : base ≤ w.heap.size) (hS : Sb S w)
 (h : ∀ b w', Ow k e S base w' (.slice (some ⟨b, 0, none⟩) 1 1) [x0] → (∀ q, Blk (.slice (some ⟨b, 0, none⟩) 1 1) q → w.heap.size ≤ q) → Up No w w' → kk (.pointer (some ⟨b, 0, none⟩)) w') :
 Does P ⟨d, .alloc e, ty, pos, af, g⟩ ρ w kk :=
 dc_alloc hz fun b w' h1 h2 up hb => h b w' (by
  have hl := k.len (hr w'); refine ⟨zs, ⟨by simp [hl], .inr ⟨b, 1, zs.toArray, rfl, by omega, hb, by simp, by simp [maxLen], by simp [hl], by simp [← hl]⟩⟩, by simpa using Chk.cons (hr w') (Chk.nil (k := k) (S := S) (w := w')), by simp [lim], fun q hq hs => ?_⟩; have hq : b = q := Option.some.inj hq; have := hS q hs
  omega) (fun q hq => by have hq : b = q := Option.some.inj hq; omega) up
end Go.Mg

namespace Go.Mg
open Go
set_option linter.unusedVariables false
section
variable {P : Program} {ρ : En} {w : World} {d : Option Tmp} {ty : TypeId} {pos : String} {af : Array Edge} {g0 : Option (Nat × Bool)} {kk : Value → World → Prop} {x y : Operand} {t t2 : TypeId}
theorem run_copy_rowK (w : World) (dT sT ty elem : TypeId) (g o dLen dCap : Nat) (a : Addr) (sLen sCap : Nat) (cur : Array Value) (t : TypeId) (cs : List Value) (sz : Nat)
 (hu : P.underlying dT = some (.slice elem)) (hs : (P.info? elem).map (·.size) = some sz) (hg : w.heap[g]? = some (.cells cur t (0, 0))) (hn : cs.length = Nat.min sLen dLen * sz)
 (hsrc : ∀ j v, cs[j]? = some v → w.cell? (a.add j) = some v) (hfit : o + cs.length ≤ cur.size) (h1 : ∀ v ∈ cs, v.oneCell' = true) :
 (Builtin.copy_ #[dT, sT] ty #[.slice (some ⟨g, o, none⟩) dLen dCap, .slice (some a) sLen sCap]).run P w = .ok (goInt (Nat.min sLen dLen)) (w.setRow g (cur.toList.take o ++ cs ++ cur.toList.drop (o + cs.length)).toArray) := by
 have hl := run_loadCells_list (P := P) w a cs hsrc; have hst := run_storeCells_at P g o t cs 0 cur w hg (by simpa using hfit) h1; cases hq : P.info? elem with
 | none => simp [hq] at hs
 | some i =>
  have hi : i.size = sz := by simpa [hq] using hs
  simp [Builtin.copy_, run_underlying hu, Builtin.lenOf, Builtin.firstCells, sizeOf, typeInfo, hq, hi, ← hn, hl, hst]
theorem dc_copyR {elem sz g o dl dc sl sc : Nat} {a : Addr} {cur : Array Value} {et : TypeId} {cs : List Value} (hu : P.underlying t = some (.slice elem)) (hs : (P.info? elem).map (·.size) = some sz) (hg : w.heap[g]? = some (.cells cur et (0, 0)))
 (hx : ev ρ x = .slice (some ⟨g, o, none⟩) dl dc) (hy : ev ρ y = .slice (some a) sl sc) (hn : cs.length = Nat.min sl dl * sz) (hsrc : ∀ j v, cs[j]? = some v → w.cell? (a.add j) = some v) (hfit : o + cs.length ≤ cur.size) (h1 : ∀ v ∈ cs, v.oneCell' = true)
 (h : kk (goInt (Nat.min sl dl)) (w.setRow g (cur.toList.take o ++ cs ++ cur.toList.drop (o + cs.length)).toArray)) :
 Does P ⟨d, .call { callee := .builtin .copy, args := #[x, y], argTypes := #[t, t2] }, ty, pos, af, g0⟩ ρ w kk := by
 have := run_copy_rowK (P := P) w t t2 ty elem g o dl dc a sl sc cur et cs sz hu hs hg hn hsrc hfit h1; unfold Does; simp only [execOp, resolve, invoke, builtin, Sem.run_bind, Sem.run_pure, Result.andThen_ok, List.map_toArray, List.map_cons, List.map_nil, hx, hy, this]; exact h
theorem rv_cap {e : TypeId} {A : Option Addr} {n c : Nat} (ht : P.underlying t = some (.slice e)) (hx : ev ρ x = .slice A n c) : Rv P ⟨d, .call { callee := .builtin .cap, args := #[x], argTypes := #[t] }, ty, pos, af, g0⟩ ρ (.int .i64 (c : Int)) := fun w => by
 have : (Builtin.cap_ #[t] ty #[.slice A n c]).run P w = .ok (goInt c) w := by simp [Builtin.cap_, run_underlying ht]
 simp only [execOp, resolve, invoke, builtin, Sem.run_bind, Sem.run_pure, Result.andThen_ok, List.map_toArray, List.map_cons, List.map_nil, hx, this]
 rfl
theorem dc_ext {f : FuncId} {as : List Operand} {ts : Array TypeId} {vs : List Value} {r : Value} {w' : World} (hv : as.map (ev ρ) = vs) (hr : (callFunc f vs.toArray).run P w = .ok (.value r) w') (h : kk r w') :
 Does P ⟨d, .call { callee := .value (.func f), args := as.toArray, argTypes := ts }, ty, pos, af, g0⟩ ρ w kk := by
 subst hv
 have hrun : (execOp (ev ρ) ⟨d, .call { callee := .value (.func f), args := as.toArray, argTypes := ts }, ty, pos, af, g0⟩).run P w = .ok (.value r) w' := by
  simp only [execOp, resolve, ev, Deferred.ofValue, Sem.run_bind, Sem.run_pure, Result.andThen_ok, invoke, List.map_toArray]; simpa using hr
 unfold Does; rw [hrun]; exact h
theorem dc_append_zeros {tn e : TypeId} {inf : TypeInfo} {z : Value} {kq kn : IntKind} {base : Option Addr} {n c m : Nat} {olds : List Value} (ht : P.underlying t = some (.slice e)) (htn : P.underlying tn = some (.int kn)) (hi : P.info? e = some inf) (hz : inf.zero = some z)
 (hold : (Builtin.firstCells inf.size n (.slice base n c)).run P w.drew = .ok olds.toArray w.drew) (h0 : 0 < m) (hs : 0 < inf.size) (hg : c < n + m) (h63 : ((n + m : Nat) : Int) ≤ 9223372036854775807) (h48 : m * inf.bytes ≤ 281474976710656)
 (hfit : Builtin.nextslicecap (n + m) c * inf.bytes ≤ 281474976710656) (hx : ev ρ x = .slice base n c) (hy : ev ρ y = .int kq (m : Int))
 (h : kk (.slice (some ⟨w.heap.size, 0, none⟩) (n + m) (grownCap w (n + m) c e)) (w.drew.alloc (.cells (olds.toArray ++ Builtin.zeroCells z.cells m ++ Builtin.zeroCells z.cells (grownCap w (n + m) c e - (n + m))) e))) :
 Does P ⟨d, .call { callee := .builtin .append, args := #[x, y], argTypes := #[t, tn] }, ty, pos, af, g0⟩ ρ w kk := by
 have := Lib.run_append_grow_zeros (P := P) w t tn ty e inf z kq kn ht htn hi hz base n c olds hold m h0 hs hg h63 h48 hfit; unfold Does; simp only [execOp, resolve, invoke, builtin, Sem.run_bind, Sem.run_pure, Result.andThen_ok, List.map_toArray, List.map_cons, List.map_nil, hx, hy, this]; exact h
end
section
variable {P : Program} {ρ : En} {w : World} {d : Option Tmp} {ty : TypeId} {pos : String} {af : Array Edge} {g0 : Option (Nat × Bool)} {x y z : Operand} {α : Type} {k : Kd α} {t e by_ : TypeId} {g n c i : Nat} {kl : IntKind}
theorem rv_preG (el : El P k t e by_) (hi : i ≤ c) (hx : ev ρ x = .slice (some ⟨g, 0, none⟩) n c) (hz : ev ρ z = .int kl (i : Int)) : Rv P ⟨d, .slice t x none (some z) none, ty, pos, af, g0⟩ ρ (.slice (some ⟨g, 0, none⟩) i c) := by
 have := rv_pre (d := d) (ty := ty) (pos := pos) (af := af) (g := g0) (i := (i : Int)) el (by omega) (by simpa using hi) hx hz
 have e1 : (if c = 0 then (some ⟨g, 0, none⟩ : Option Addr) else (some (⟨g, 0, none⟩ : Addr)).map (·.add (0 * k.sz))) = some ⟨g, 0, none⟩ := by
  split
  ·rfl
  ·simp [Addr.add]
 rw [e1] at this; simpa using this
theorem rv_sufG (el : El P k t e by_) (hi : i ≤ n) (hn : n ≤ c) (hc : i < c) (hx : ev ρ x = .slice (some ⟨g, 0, none⟩) n c) (hy : ev ρ y = .int kl (i : Int)) : Rv P ⟨d, .slice t x (some y) none none, ty, pos, af, g0⟩ ρ (.slice (some ⟨g, i * k.sz, none⟩) (n - i) (c - i)) := by
 have := rv_suf (d := d) (ty := ty) (pos := pos) (af := af) (g := g0) (i := (i : Int)) el (by omega) (by simpa using hi) hn hx hy; simp only [Int.toNat_natCast] at this; rw [if_neg (by omega), Option.map_some, addr_add, Nat.zero_add] at this; exact this
theorem zeroCells_len (z : Array Value) (n : Nat) : (Builtin.zeroCells z n).toList.length = n * z.size := by simp [Builtin.zeroCells]
end
def insert_ {α : Type} (by_ : Nat) (xs : List α) (i : Int) (ys : List α) : Option (List α) :=
 match ys with
 | [y] => if 0 ≤ i ∧ i ≤ (xs.length : Int) ∧ (xs.length + 1) * by_ ≤ lim then some (xs.take i.toNat ++ [y] ++ xs.drop i.toNat) else none
 | _ => none
theorem insert_some {α : Type} {by_ : Nat} {xs ys r : List α} {i : Int} (h : insert_ by_ xs i ys = some r) : ∃ y, ys = [y] ∧ 0 ≤ i ∧ i ≤ (xs.length : Int) ∧ (xs.length + 1) * by_ ≤ lim ∧ xs.take i.toNat ++ [y] ++ xs.drop i.toNat = r := by
 unfold insert_ at h
 split at h
 ·split at h
  ·rename_i y hb
   exact ⟨y, rfl, hb.1, hb.2.1, hb.2.2, Option.some.inj h⟩
  ·cases h
 ·cases h
theorem up_setRow {w : World} {g : Nat} {cs : Array Value} : Up (One g) w (w.setRow g cs) := ⟨rfl, rfl, rfl, by simp [World.setRow], fun k hk hn => by
 have hne : g ≠ k := fun e => hn e.symm
 simp only [World.setRow, Array.getElem?_modify, if_neg hne]⟩
section
variable {α : Type} {k : Kd α} {S : Nat → Prop} {w : World} {v : Value} {xs : List α} {e base : Nat}
theorem Ow.row {g n c : Nat} (h : Ow k e S base w (.slice (some ⟨g, 0, none⟩) n c) xs) : ∃ cs cur, n = xs.length ∧ w.heap[g]? = some (.cells cur e (0, 0)) ∧ n ≤ c ∧ c ≤ maxLen ∧ cur.size = c * k.sz ∧ cur.toList.take (n * k.sz) = cs ∧ Chk k S w cs xs ∧ base ≤ g ∧ ¬ S g ∧ g < w.heap.size := by
 have hlt := h.lt g rfl; obtain ⟨cs, ⟨h1, h1'⟩, h2, h3, h4⟩ := h; rcases h1' with ⟨hv, _⟩ | ⟨g', cap, cur, hv, hbg, hg, hnc, hcm, hcs, htk⟩
 ·cases hv
 ·cases hv; exact ⟨cs, cur, rfl, hg, hnc, hcm, hcs, htk, h2, hbg, h4 g rfl, hlt.2⟩
theorem Ow.mkRow {g c : Nat} {cs : List Value} {cur : Array Value} (hg : w.heap[g]? = some (.cells cur e (0, 0))) (hnc : xs.length ≤ c) (hcm : c ≤ maxLen) (hcs : cur.size = c * k.sz) (htk : cur.toList.take (xs.length * k.sz) = cs) (h2 : Chk k S w cs xs) (hb : base ≤ g) (hS : ¬ S g) (hl : xs.length ≤ Mg.lim) :
 Ow k e S base w (.slice (some ⟨g, 0, none⟩) xs.length c) xs :=
 ⟨cs, ⟨h2.len, .inr ⟨g, c, cur, rfl, hb, hg, hnc, hcm, hcs, htk⟩⟩, h2, hl, fun b hb hs => by simp [Value.ownBlock] at hb; subst hb; exact hS hs⟩
theorem Ow.single {p : α} (hpos : 0 < k.sz) (h : Ow k e S base w v [p]) : ∃ g c pc cur, v = .slice (some ⟨g, 0, none⟩) 1 c ∧ w.heap[g]? = some (.cells cur e (0, 0)) ∧ 0 < cur.size ∧ k.rep S w pc p ∧ (∀ j u, pc[j]? = some u → w.cell? ⟨g, j, none⟩ = some u) := by
 obtain ⟨cs, h1, h2, h3, h4⟩ := h; rcases h1.2 with ⟨rfl, hn⟩ | ⟨g', cap, cur, rfl, hbg, hg, hnc, hcm, hcs, htk⟩
 ·simp at hn
 ·cases h2 with
  | cons hr hn =>
   cases hn
   rename_i c
   refine ⟨g', cap, c, cur, rfl, hg, ?_, hr, fun j u hj => ?_⟩
   ·rw [hcs]; simp at hnc; exact Nat.mul_pos (by omega) hpos
   ·exact ownsRow_cell h1 j u (by simpa using hj)
theorem splice_lists (cs pc Z : List Value) (a sz : Nat) (hpc : pc.length = sz) (ha : a ≤ cs.length) :
 let csd := cs.drop a
 let cur1 := (cs ++ Z).take (a + sz) ++ csd ++ (cs ++ Z).drop (a + sz + csd.length)
 a + sz + csd.length ≤ (cs ++ Z).length →
 (cur1.take a ++ pc ++ cur1.drop (a + pc.length)).length = (cs ++ Z).length ∧ (cur1.take a ++ pc ++ cur1.drop (a + pc.length)).take (cs.length + sz) = cs.take a ++ pc ++ cs.drop a := by
 intro csd cur1 hle; have hcsd : csd.length = cs.length - a := List.length_drop ..
 have l1 : ((cs ++ Z).take (a + sz)).length = a + sz := by rw [List.length_take]; omega
 have t1 : cur1.take a = cs.take a := by
  show (((cs ++ Z).take (a + sz) ++ csd) ++ _).take a = _
  rw [List.append_assoc, List.take_append_of_le_length (by omega), List.take_take, Nat.min_eq_left (by omega), List.take_append_of_le_length ha]
 have d1 : cur1.drop (a + pc.length) = csd ++ (cs ++ Z).drop (a + sz + csd.length) := by
  show (((cs ++ Z).take (a + sz) ++ csd) ++ _).drop (a + pc.length) = _
  rw [List.append_assoc, hpc, List.drop_append, l1, Nat.sub_self, List.drop_eq_nil_of_le (by omega)]; simp
 have lt : (cs.take a).length = a := by rw [List.length_take]; omega
 rw [t1, d1]
 constructor
 ·simp only [List.length_append, lt, hpc, List.length_drop] at hle ⊢
  omega
 ·rw [← List.append_assoc, List.take_append_of_le_length (by simp only [List.length_append, lt, hpc, hcsd]; omega), List.take_of_length_le (by simp only [List.length_append, lt, hpc, hcsd]; omega)]
theorem splice_lists2 (o pc csd Z : List Value) (sz : Nat) (hpc : pc.length = sz) (hZ : sz + csd.length ≤ Z.length) :
 let cur1 := (o ++ Z).take o.length ++ pc ++ (o ++ Z).drop (o.length + pc.length)
 (cur1.take (o.length + sz) ++ csd ++ cur1.drop (o.length + sz + csd.length)).length = (o ++ Z).length ∧ (cur1.take (o.length + sz) ++ csd ++ cur1.drop (o.length + sz + csd.length)).take (o.length + sz + csd.length) = o ++ pc ++ csd := by
 intro cur1
 have e1 : cur1 = o ++ pc ++ Z.drop sz := by
  show (o ++ Z).take o.length ++ pc ++ (o ++ Z).drop (o.length + pc.length) = _
  rw [List.take_left, hpc, List.drop_append, List.drop_eq_nil_of_le (by omega)]; simp
 rw [e1]
 have t1 : (o ++ pc ++ Z.drop sz).take (o.length + sz) = o ++ pc := by
  rw [List.take_append_of_le_length (by simp [hpc]), List.take_of_length_le (by simp [hpc])]
 rw [t1]
 constructor
 ·simp only [List.length_append, List.length_drop, hpc]
  omega
 ·rw [List.take_append_of_le_length (by simp [hpc]; omega), List.take_of_length_le (by simp [hpc]; omega)]
end
section
variable {P : Program} {ρ : En} {w : World} {d : Option Tmp} {ty : TypeId} {pos : String} {af : Array Edge} {g : Option (Nat × Bool)} {kk : Value → World → Prop}
theorem dc_callC {q : Operand} {f : FuncId} {as : List Operand} {ts : Array TypeId} {vs cs : List Value} (hq : ev ρ q = .func (.func f) #[] cs.toArray) (hc : yi P f = true) (hv : as.map (ev ρ) = vs)
 (h : Calls P f (vs ++ cs).toArray w fun e w' => ∃ v, e = .returned v ∧ kk v w') :
 Does P ⟨d, .call { callee := .value q, args := as.toArray, argTypes := ts }, ty, pos, af, g⟩ ρ w kk := by
 subst hv; unfold yi at hc; cases hf : P.funcs[f]? with
 | none => rw [hf] at hc; cases hc
 | some fn =>
  rw [hf] at hc; simp only [Bool.and_eq_true, bne_iff_ne, ne_eq] at hc; obtain ⟨h1, h2⟩ := hc
  have hbn : fn.body.isNone = false := by cases hb : fn.body with
   | none => rw [hb] at h2; cases h2
   | some _ => rfl
  have hrun : (execOp (ev ρ) ⟨d, .call { callee := .value q, args := as.toArray, argTypes := ts }, ty, pos, af, g⟩).run P w = .ok (.enter f (as.map (ev ρ) ++ cs).toArray) w := by
   simp only [execOp, resolve, hq, Deferred.ofValue, Sem.run_bind, Sem.run_pure, Result.andThen_ok, invoke, callFunc, program, Sem.run, hf, hbn, List.map_toArray]; simp [h1]
  unfold Does; rw [hrun]; exact h
theorem rv_mkfn {f : FuncId} {cs : List Operand} {vs : List Value} (h : cs.map (ev ρ) = vs) : Rv P ⟨d, .makeFunc (.func f) #[] cs.toArray, ty, pos, af, g⟩ ρ (.func (.func f) #[] vs.toArray) := fun w => by
 subst h; simp [execOp, Instr.makeFunc, Sem.run_bind, Sem.run_pure, Result.andThen_ok]
theorem Sl.flat {α : Type} {k : Kd α} (hk : Flat k) {S S' : Nat → Prop} {w w' : World} {v : Value} {x : α} (h : Sl k S w v x) : Sl k S' w' v x := by
 obtain ⟨cs, hv, hr⟩ := h; exact ⟨cs, hv, hk _ _ _ _ _ _ hr⟩
end
def yr {α : Type} (p : α → Option Bool) : List α → Int → Option Int
 | [], _ => some (-1)
 | x :: xs, i => (p x).bind fun b => bif b then some i else yr p xs (i + 1)
theorem Ob.cells1 {e : TypeId} {l : List ((α : Type) × Fk α × α)} {S : Nat → Prop} {w : World} {v : Value} {cs : List Value} {fp : List Nat} (h : Ob e l S w v cs fp) : v.cells = [v].toArray := by
 obtain ⟨b, fq, rfl, _⟩ := h; rfl
theorem Obo.cells1 {T : Type} {e : TypeId} {fs : T → List ((α : Type) × Fk α × α)} {S : Nat → Prop} {w : World} {v : Value} {x : Option T} {cs : List Value} {fp : List Nat} (h : Obo e fs S w v x cs fp) : v.cells = [v].toArray := by
 rcases h.nil_iff with ⟨rfl, _⟩ | ⟨y, _, h⟩
 ·rfl
 ·exact h.cells1
theorem Ow.cellsO {α : Type} {k : Kd α} {e : TypeId} {S : Nat → Prop} {base : Nat} {w : World} {v : Value} {xs : List α} {u : α} {i : Int} (h : Ow k e S base w v xs) (hi : at_ xs i = some u) :
 ∃ cs, k.rep S w cs u ∧ ∀ w', Sm (Or S (Blk v)) w w' → ∀ j c, cs[j]? = some c → w'.cell? ⟨sb v, so v + i.toNat * k.sz + j, none⟩ = some c := by
 obtain ⟨h0, h1, h2⟩ := at_some hi; obtain ⟨cs, hh, hc, hl, hn⟩ := h; have ho := hh; rcases hh.2 with ⟨rfl, hz⟩ | ⟨g, cap, cur, rfl, hb, hg, _⟩
 ·have : xs = [] := List.eq_nil_of_length_eq_zero hz; subst this; simp at h2
 ·obtain ⟨c, hr, hj⟩ := hc.at i.toNat u h2; refine ⟨c, hr, fun w' hw j x hx => ?_⟩; have := ownsRow_cell ho (i.toNat * k.sz + j) x (hj j x hx)
  have e1 : (⟨sb (.slice (some ⟨g, 0, none⟩) xs.length cap), so (.slice (some ⟨g, 0, none⟩) xs.length cap) + i.toNat * k.sz + j, none⟩ : Addr) = ⟨g, i.toNat * k.sz + j, none⟩ := by simp [sb, so]
  rw [e1]; exact cell_same this fun hlt => hw g (.inr rfl) hlt
theorem yg {P : Program} {α : Type} {k : Kd α} {e by_ : TypeId} {S : Nat → Prop} {base : Nat} {w : World} {v : Value} {xs : List α} {u : α} {i : Int} (el : Ty P k e by_) (h : Ow k e S base w v xs) (hi : at_ xs i = some u) :
 ∃ r, Sl k S w r u ∧ ∀ w', Sm (Or S (Blk v)) w w' → ∀ {ρ : En} {d : Option Tmp} {ty : TypeId} {pos : String} {af : Array Edge} {g : Option (Nat × Bool)} {x : Operand},
  ev ρ x = .pointer (some ⟨sb v, so v + i.toNat * k.sz, none⟩) → Rw P ⟨d, .load e x, ty, pos, af, g⟩ ρ w' r := by
 obtain ⟨cs, hr, hc⟩ := h.cellsO hi; refine ⟨k.val cs, ⟨cs, rfl, hr⟩, fun w' hw ρ d ty pos af g x hx => ?_⟩; unfold Rw; simp only [execOp, Instr.loadAt, Instr.sureAddr, hx, Sem.run_bind, Sem.run_pure, Result.andThen_ok]; rw [run_loadTy el (k.len hr) rfl (hc w' hw)]
 rfl
end Go.Mg
