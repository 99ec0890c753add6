/- Objects: a pointer to a struct that is the call's alone to turn; the blocks that it owns. -/
import Derived.Test.YtbkkobbjmhgkjaaDoorMgM
import Derived.Test.YtbkkobbjmhgkjaaDoorMgO
namespace Go.Mg
open Go
set_option linter.unusedVariables false

/-- A kind of field: how one cell stands for a datum, by sealed blocks of S and by blocks of its own (fp). -/
structure Fk (α : Type) where
  rep : (Nat → Prop) → World → Value → α → List Nat → Prop
  one : ∀ {S w c x fp}, rep S w c x fp → c.oneCell' = true
  lt : ∀ {S w c x fp}, rep S w c x fp → ∀ b ∈ fp, b < w.heap.size ∧ ¬ S b
  mono : ∀ {S S' : Nat → Prop} {w w' : World} {c x fp}, rep S w c x fp → (∀ b, S b → S' b) → (∀ b ∈ fp, ¬ S' b) → Sm S w w' → (∀ b ∈ fp, w'.heap[b]? = w.heap[b]?) → w.heap.size ≤ w'.heap.size → rep S' w' c x fp

/-- A number, a bool, a string; a slice that is sealed: any kind of one cell. -/
def fSl {α : Type} (k : Kd α) (h1 : k.sz = 1) : Fk α where
  rep S w c x fp := k.rep S w [c] x ∧ fp = []
  one h := k.one h.1 _ (by simp)
  lt h := by obtain ⟨_, rfl⟩ := h; intro b hb; cases hb
  mono h hS _ hw _ _ := by obtain ⟨h, rfl⟩ := h; exact ⟨k.mono h hS hw, rfl⟩

/-- Entries stand for pairs. -/
inductive MR {κ β : Type} (R : Value → β → Prop) : List (κ × Value × Nat) → List (κ × β) → Prop
  | nil : MR R [] []
  | cons {a v n y L m} : R v y → MR R L m → MR R ((a, v, n) :: L) ((a, y) :: m)

theorem MR.imp {κ β : Type} {R R' : Value → β → Prop} {L : List (κ × Value × Nat)} {m : List (κ × β)} (h : MR R L m) (hR : ∀ v y, R v y → R' v y) : MR R' L m := by
  induction h with
  | nil => exact .nil
  | cons h1 _ ih => exact .cons (hR _ _ h1) ih
theorem MR.keys {κ β : Type} {R : Value → β → Prop} {L : List (κ × Value × Nat)} {m : List (κ × β)} (h : MR R L m) : L.map (·.1) = m.map (·.1) := by
  induction h with
  | nil => rfl
  | cons h1 _ ih => simp [ih]
theorem MR.length {κ β : Type} {R : Value → β → Prop} {L : List (κ × Value × Nat)} {m : List (κ × β)} (h : MR R L m) : L.length = m.length := by
  induction h with
  | nil => rfl
  | cons h1 _ ih => simp [ih]

/-- What a map of data holds at a key. -/
def mget {κ β : Type} [DecidableEq κ] (k : κ) (m : List (κ × β)) : Option β := (m.find? fun x => decide (k = x.1)).map (·.2)
/-- The map with a datum at a key. -/
def mput {κ β : Type} [DecidableEq κ] (k : κ) (y : β) : List (κ × β) → List (κ × β)
  | [] => [(k, y)]
  | x :: m => if k = x.1 then (x.1, y) :: m else x :: mput k y m
/-- The map without a key. -/
def mrem {κ β : Type} [DecidableEq κ] (k : κ) (m : List (κ × β)) : List (κ × β) := m.filter fun x => !decide (k = x.1)

theorem MR.look {κ β : Type} [DecidableEq κ] {R : Value → β → Prop} {L : List (κ × Value × Nat)} {m : List (κ × β)} (h : MR R L m) (k : κ) :
    (mget k m = none ∧ Go.Mg.look k L = none) ∨ ∃ v y, mget k m = some y ∧ Go.Mg.look k L = some v ∧ R v y := by
  induction h with
  | nil => exact .inl ⟨rfl, rfl⟩
  | @cons a v n y L m h1 _ ih =>
    by_cases e : k = a
    · exact .inr ⟨v, y, by simp [mget, e], by simp [Go.Mg.look, e], h1⟩
    · have e1 : mget k ((a, y) :: m) = mget k m := by simp [mget, e]
      have e2 : Go.Mg.look k ((a, v, n) :: L) = Go.Mg.look k L := by simp [Go.Mg.look, e]
      rw [e1, e2]
      exact ih
theorem MR.set {κ β : Type} [DecidableEq κ] {R : Value → β → Prop} {L : List (κ × Value × Nat)} {m : List (κ × β)} (h : MR R L m) (k : κ) {v : Value} {y : β} (hv : R v y) (c : Nat) : MR R (mset k v c L) (mput k y m) := by
  induction h with
  | nil => exact .cons hv .nil
  | @cons a u n z L m h1 h2 ih =>
    unfold mset mput
    by_cases e : k = a
    · subst e
      simp only [if_true]
      exact .cons hv h2
    · simp only [e, if_false]
      exact .cons h1 ih
theorem MR.del {κ β : Type} [DecidableEq κ] {R : Value → β → Prop} {L : List (κ × Value × Nat)} {m : List (κ × β)} (h : MR R L m) (k : κ) : MR R (mdel k L) (mrem k m) := by
  induction h with
  | nil => exact .nil
  | @cons a u n z L m h1 h2 ih =>
    unfold mdel mrem at ih ⊢
    by_cases e : k = a
    · simp [e] at ih ⊢
      exact ih
    · simp [e]
      exact .cons h1 ih

/-- A map whose elements are sealed. -/
def fMap {κ β : Type} [DecidableEq κ] {P : Program} {t : TypeId} (ky : Ky P t κ) (k : Kd β) : Fk (List (κ × β)) where
  rep S w c m fp := ∃ b L cl, c = .map (some b) ∧ fp = [b] ∧ ¬ S b ∧ Mp ky w b L cl ∧ MR (Sl k S w) L m
  one h := by obtain ⟨b, L, cl, rfl, _⟩ := h; rfl
  lt h := by
    obtain ⟨b, L, cl, rfl, rfl, hS, hM, _⟩ := h
    intro x hx
    simp at hx
    subst hx
    exact ⟨hM.lt, hS⟩
  mono h hS hS2 hw hf _ := by
    obtain ⟨b, L, cl, rfl, rfl, hn, hM, hR⟩ := h
    exact ⟨b, L, cl, rfl, rfl, hS2 b (by simp), hM.to (hf b (by simp)), hR.imp fun v y h => h.up hS hw⟩

/-- Fields, one after the other. -/
inductive Fs : List ((α : Type) × Fk α × α) → (Nat → Prop) → World → List Value → List Nat → Prop
  | nil {S w} : Fs [] S w [] []
  | cons {α k x l S w c cs fp fq} : Fk.rep k S w c x fp → Fs l S w cs fq → Fs (⟨α, k, x⟩ :: l) S w (c :: cs) (fp ++ fq)

/-- A pointer to an object of type e, whose fields are l, in the cells cs; fp are its own blocks. -/
def Ob (e : TypeId) (l : List ((α : Type) × Fk α × α)) (S : Nat → Prop) (w : World) (v : Value) (cs : List Value) (fp : List Nat) : Prop :=
  ∃ b fq, v = .pointer (some ⟨b, 0, none⟩) ∧ fp = b :: fq ∧ fp.Nodup ∧ ¬ S b ∧ Bk w b cs e ∧ Fs l S w cs fq

theorem Fs.lt {l : List ((α : Type) × Fk α × α)} {S : Nat → Prop} {w : World} {cs : List Value} {fp : List Nat} (h : Fs l S w cs fp) : ∀ b ∈ fp, b < w.heap.size ∧ ¬ S b := by
  induction h with
  | nil => intro b hb; cases hb
  | @cons α k x l S w c cs fp fq h1 _ ih =>
    intro b hb
    rcases List.mem_append.1 hb with hb | hb
    · exact k.lt h1 b hb
    · exact ih b hb
theorem Fs.one {l : List ((α : Type) × Fk α × α)} {S : Nat → Prop} {w : World} {cs : List Value} {fp : List Nat} (h : Fs l S w cs fp) : ∀ c ∈ cs, c.oneCell' = true := by
  induction h with
  | nil => intro b hb; cases hb
  | @cons α k x l S w c cs fp fq h1 _ ih =>
    intro b hb
    rcases List.mem_cons.1 hb with rfl | hb
    · exact k.one h1
    · exact ih b hb
theorem Fs.mono {l : List ((α : Type) × Fk α × α)} {S S' : Nat → Prop} {w w' : World} {cs : List Value} {fp : List Nat} (h : Fs l S w cs fp) (hS : ∀ b, S b → S' b) (hS2 : ∀ b ∈ fp, ¬ S' b) (hw : Sm S w w')
    (hf : ∀ b ∈ fp, w'.heap[b]? = w.heap[b]?) (hs : w.heap.size ≤ w'.heap.size) : Fs l S' w' cs fp := by
  induction h with
  | nil => exact .nil
  | @cons α k x l S w c cs fp fq h1 _ ih => exact .cons (k.mono h1 hS (fun b hb => hS2 b (List.mem_append.2 (.inl hb))) hw (fun b hb => hf b (List.mem_append.2 (.inl hb))) hs) (ih hS (fun b hb => hS2 b (List.mem_append.2 (.inr hb))) hw (fun b hb => hf b (List.mem_append.2 (.inr hb))) hs)

/-- Field i, taken out, and put back with what it is then. -/
theorem Fs.at {l : List ((α : Type) × Fk α × α)} {S : Nat → Prop} {w : World} {cs : List Value} {fp : List Nat} (h : Fs l S w cs fp) : ∀ {i : Nat} {α : Type} {k : Fk α} {x : α}, l[i]? = some ⟨α, k, x⟩ →
    ∃ c fa fi fb, cs[i]? = some c ∧ fp = fa ++ fi ++ fb ∧ k.rep S w c x fi ∧
      ∀ {S' : Nat → Prop} {w' : World} {c' : Value} {x' : α} {fi' : List Nat}, k.rep S' w' c' x' fi' → (∀ b, S b → S' b) → (∀ b ∈ fa ++ fb, ¬ S' b) → Sm S w w' →
        (∀ b ∈ fa ++ fb, w'.heap[b]? = w.heap[b]?) → w.heap.size ≤ w'.heap.size → Fs (l.set i ⟨α, k, x'⟩) S' w' (cs.set i c') (fa ++ fi' ++ fb) := by
  induction h with
  | nil => intro i α k x hx; simp at hx
  | @cons β kk y l S w c cs fp fq h1 h2 ih =>
    intro i α k x hx
    cases i with
    | zero =>
      simp at hx
      obtain ⟨rfl, hx⟩ := hx
      simp at hx
      obtain ⟨rfl, rfl⟩ := hx
      refine ⟨c, [], fp, fq, rfl, by simp, h1, fun {S' w' c' x' fi'} h3 hS hS2 hw hf hs => ?_⟩
      simp only [List.set_cons_zero, List.nil_append]
      exact .cons h3 (h2.mono hS (fun b hb => hS2 b (by simpa using hb)) hw (fun b hb => hf b (by simpa using hb)) hs)
    | succ i =>
      obtain ⟨d, fa, fi, fb, e1, e2, e3, e4⟩ := ih (i := i) (by simpa using hx)
      refine ⟨d, fp ++ fa, fi, fb, by simpa using e1, by rw [e2]; simp [List.append_assoc], e3, fun {S' w' c' x' fi'} h3 hS hS2 hw hf hs => ?_⟩
      simp only [List.set_cons_succ]
      have hin : ∀ b ∈ fa ++ fb, b ∈ fp ++ fa ++ fb := fun b hb => by
        simp only [List.mem_append] at hb ⊢
        rcases hb with hb | hb
        · exact .inl (.inr hb)
        · exact .inr hb
      have := e4 h3 hS (fun b hb => hS2 b (hin b hb)) hw (fun b hb => hf b (hin b hb)) hs
      rw [List.append_assoc, List.append_assoc, ← List.append_assoc fa]
      exact .cons (kk.mono h1 hS (fun b hb => hS2 b (by simp [hb])) hw (fun b hb => hf b (by simp [hb])) hs) this

section
variable {e : TypeId} {l : List ((α : Type) × Fk α × α)} {S : Nat → Prop} {w w' : World} {v : Value} {cs : List Value} {fp : List Nat}
theorem Ob.lt (h : Ob e l S w v cs fp) : ∀ b ∈ fp, b < w.heap.size ∧ ¬ S b := by
  obtain ⟨b, fq, rfl, rfl, _, hS, hb, hf⟩ := h
  intro x hx
  rcases List.mem_cons.1 hx with rfl | hx
  · exact ⟨(Array.getElem?_eq_some_iff.1 hb).1, hS⟩
  · exact hf.lt x hx
/-- It stays where its blocks are not written. -/
theorem Ob.up' {S' F : Nat → Prop} (h : Ob e l S w v cs fp) (hu : Up F w w') (hS : ∀ b, S b → S' b) (hS2 : ∀ b ∈ fp, ¬ S' b) (hSF : ∀ b, S b → b < w.heap.size → ¬ F b) (hF : ∀ b ∈ fp, ¬ F b) : Ob e l S' w' v cs fp := by
  have hlt := h.lt
  obtain ⟨b, fq, rfl, rfl, hn, hb, hk, hf⟩ := h
  have hfr : ∀ x ∈ b :: fq, w'.heap[x]? = w.heap[x]? := fun x hx => hu.block x (hlt x hx).1 (hF x hx)
  refine ⟨b, fq, rfl, rfl, hn, hS2 b (by simp), ?_, hf.mono hS (fun x hx => hS2 x (by simp [hx])) (hu.sm hSF) (fun x hx => hfr x (by simp [hx])) hu.size⟩
  have := hfr b (by simp)
  unfold Bk at hk ⊢
  rw [this]; exact hk
theorem Ob.up {S' F : Nat → Prop} (h : Ob e l S w v cs fp) (hu : Up F w w') (hS : ∀ b, S b → S' b) (hS2 : ∀ b, S' b → S b ∨ w.heap.size ≤ b) (hSF : ∀ b, S b → b < w.heap.size → ¬ F b) (hF : ∀ b ∈ fp, ¬ F b) : Ob e l S' w' v cs fp :=
  h.up' hu hS (fun b hb hs => (hS2 b hs).elim (h.lt b hb).2 fun hl => by have := (h.lt b hb).1; omega) hSF hF
/-- More is sealed, but none of its blocks. -/
theorem Ob.or {T : Nat → Prop} (h : Ob e l S w v cs fp) (ht : ∀ b ∈ fp, ¬ T b) : Ob e l (Or S T) w v cs fp :=
  h.up' (Up.refl No _) (fun _ h => .inl h) (fun b hb hs => hs.elim (h.lt b hb).2 (ht b hb)) (fun _ _ _ h => h) fun _ _ h => h

/-- Its pointer. -/
def pb : Value → Nat
  | .pointer (some a) => a.block
  | _ => 0
theorem Ob.ptr (h : Ob e l S w v cs fp) : v = .pointer (some ⟨pb v, 0, none⟩) := by obtain ⟨b, fq, rfl, _⟩ := h; rfl

/-- What a field's cell holds. -/
theorem Ob.cell (h : Ob e l S w v cs fp) {i : Nat} {α : Type} {k : Fk α} {x : α} (hi : l[i]? = some ⟨α, k, x⟩) : ∃ c fi, cs[i]? = some c ∧ (∀ b ∈ fi, b ∈ fp) ∧ k.rep S w c x fi ∧ w.cell? ⟨pb v, i, none⟩ = some c := by
  obtain ⟨b, fq, rfl, rfl, _, _, hk, hf⟩ := h
  obtain ⟨c, fa, fi, fb, e1, e2, e3, _⟩ := hf.at hi
  exact ⟨c, fi, e1, fun x hx => by rw [e2]; simp [hx], e3, (hk.cell i).trans e1⟩

/-- A field turns, by its own blocks. -/
theorem Ob.turn (h : Ob e l S w v cs fp) {i : Nat} {α : Type} {k : Fk α} {x : α} (hi : l[i]? = some ⟨α, k, x⟩) {c : Value} (hc : cs[i]? = some c) :
    ∃ fi, k.rep S w c x fi ∧ (∀ b ∈ fi, b ∈ fp) ∧ ∀ {w' : World} {x' : α}, k.rep S w' c x' fi → Up (fun b => b ∈ fi) w w' → Ob e (l.set i ⟨α, k, x'⟩) S w' v cs fp := by
  have hlt := h.lt
  obtain ⟨b, fq, rfl, rfl, hn, hb, hk, hf⟩ := h
  obtain ⟨c', fa, fi, fb, e1, e2, e3, e4⟩ := hf.at hi
  rw [hc] at e1
  cases e1
  refine ⟨fi, e3, fun x hx => by rw [e2]; simp [hx], fun {w' x'} h' hu => ?_⟩
  have hbn : b ∉ fi := fun hx => by
    have := (List.nodup_cons.1 hn).1
    exact this (by rw [e2]; simp [hx])
  have hab : ∀ x ∈ fa ++ fb, x ∉ fi := fun x hx hxi => by
    have := (List.nodup_cons.1 hn).2
    rw [e2, List.append_assoc, List.nodup_append] at this
    obtain ⟨_, h2, h3⟩ := this
    rw [List.nodup_append] at h2
    rcases List.mem_append.1 hx with hx | hx
    · exact h3 x hx x (by simp [hxi]) rfl
    · exact h2.2.2 x hxi x hx rfl
  have hsm : Sm S w w' := hu.sm fun x hx _ hxi => by
    have : x ∈ b :: fq := by rw [e2]; simp [hxi]
    exact (hlt x this).2 hx
  have := e4 h' (fun _ h => h) (fun x hx => (hlt x (by rw [e2]; simp at hx ⊢; rcases hx with hx | hx <;> simp [hx])).2) hsm (fun x hx => hu.block x (hlt x (by rw [e2]; simp at hx ⊢; rcases hx with hx | hx <;> simp [hx])).1 (hab x hx)) hu.size
  have hcs : cs.set i c = cs := by
    apply List.ext_getElem?
    intro j
    rw [List.getElem?_set]
    split
    · rename_i hij; subst hij; rw [if_pos (List.getElem?_eq_some_iff.1 hc).1, hc]
    · rfl
  rw [hcs] at this
  refine ⟨b, fq, rfl, rfl, hn, hb, ?_, by rw [e2]; exact this⟩
  have := hu.block b (hlt b (by simp)).1 hbn
  unfold Bk at hk ⊢
  rw [this]; exact hk

/-- A cell of the struct turns; the field has no blocks. -/
theorem Ob.put (h : Ob e l S w v cs fp) {i : Nat} {α : Type} {k : Kd α} {h1 : k.sz = 1} {x x' : α} (hi : l[i]? = some ⟨α, fSl k h1, x⟩) {c' : Value} (hu : Up (One (pb v)) w w') (hr : k.rep S w [c'] x') (hb : Bk w' (pb v) (cs.set i c') e) :
    Ob e (l.set i ⟨α, fSl k h1, x'⟩) S w' v (cs.set i c') fp := by
  have hlt := h.lt
  obtain ⟨b, fq, rfl, rfl, hn, hS, hk, hf⟩ := h
  obtain ⟨c0, fa, fi, fb, e1, e2, e3, e4⟩ := hf.at hi
  have hfi : fi = [] := e3.2
  subst hfi
  have hsm : Sm S w w' := hu.sm fun x hx _ hxi => by
    have hxi : x = b := hxi
    subst hxi
    exact hS hx
  have := e4 (fi' := []) (w' := w') (S' := S) (c' := c') (x' := x') ⟨k.mono hr (fun _ h => h) hsm, rfl⟩ (fun _ h => h) (fun x hx => (hlt x (by rw [e2]; simp at hx ⊢; rcases hx with hx | hx <;> simp [hx])).2) hsm (fun x hx => hu.block x (hlt x (by rw [e2]; simp at hx ⊢; rcases hx with hx | hx <;> simp [hx])).1 fun hxb => by
    have hxb : x = b := hxb
    subst hxb
    exact (List.nodup_cons.1 hn).1 (by rw [e2]; simpa using hx)) hu.size
  exact ⟨b, fq, rfl, rfl, hn, hS, hb, by rw [e2]; exact this⟩
end

section
variable {P : Program} {e te tm t : TypeId} {l : List ((α : Type) × Fk α × α)} {S : Nat → Prop} {w : World} {v u : Value} {cs : List Value} {fp : List Nat} {ρ : En} {d : Option Tmp} {ty : TypeId} {pos : String} {af : Array Edge} {g : Option (Nat × Bool)} {x y z : Operand} {kk : Value → World → Prop}

/-- A load of a field of one cell. -/
theorem rw_ofield (h : Ob e l S w v cs fp) {i : Nat} {c : Value} (ha : aggOf P te = some (false, 1)) (hc : cs[i]? = some c) (hx : ev ρ x = .pointer (some ⟨pb v, i, none⟩)) : Rw P ⟨d, .load te x, ty, pos, af, g⟩ ρ w c := by
  obtain ⟨b, fq, rfl, rfl, hn, hS, hk, hf⟩ := h
  exact rw_cell ha ((hk.cell i).trans hc) hx

/-- A store to a field of one cell. -/
theorem dc_ofield (h : Ob e l S w v cs fp) {i : Nat} {α : Type} {k : Kd α} {h1 : k.sz = 1} {a a' : α} (hi : l[i]? = some ⟨α, fSl k h1, a⟩) (ha : aggOf P te = some (false, 1)) (hx : ev ρ x = .pointer (some ⟨pb v, i, none⟩)) (hy : ev ρ y = u)
    (hu : k.rep S w [u] a') (hk : ∀ w', Ob e (l.set i ⟨α, fSl k h1, a'⟩) S w' v (cs.set i u) fp → Up (fun b => b ∈ fp) w w' → kk undef w') : Does P ⟨d, .store te x y, ty, pos, af, g⟩ ρ w kk := by
  have h0 := h
  obtain ⟨b, fq, rfl, rfl, hn, hS, hbk, hf⟩ := h
  obtain ⟨c0, fa, fi, fb, e1, _⟩ := hf.at hi
  have hlt : i < cs.length := (List.getElem?_eq_some_iff.1 e1).1
  have hone := k.one hu u (by simp)
  have hset : cs.take i ++ [u] ++ cs.drop (i + 1) = cs.set i u := by rw [List.set_eq_take_append_cons_drop, if_pos hlt]; simp
  refine dc_store (vs := [u]) (cs := cs) (e0 := e) ha hbk hx (by rw [hy]; exact cells_one hone) (fun c hc => by simp at hc; subst hc; exact hone) rfl (Nat.ble_eq_true_of_le (by omega)) hset fun w' up _ hb' => ?_
  exact hk w' (h0.put hi up hu hb') (up.mono fun x _ hx => by have hx : x = b := hx; subst hx; simp)

/-- A look-up in a field that is a map. -/
theorem rw_olook {κ β : Type} [DecidableEq κ] {ky : Ky P t κ} {k : Kd β} (h : Ob e l S w v cs fp) {i : Nat} {m : List (κ × β)} (hi : l[i]? = some ⟨_, fMap ky k, m⟩) {c : Value} (hc : cs[i]? = some c) (ht : P.underlying tm = some (.map t te)) {zv : Value} {y0 : β}
    (hz : ∀ w, (zeroValue te).run P w = .ok zv w) (hz0 : Sl k S w zv y0) (a : κ) :
    ∃ r, Sl k S w r ((mget a m).getD y0) ∧ ∀ {ρ : En} {d : Option Tmp} {ty : TypeId} {pos : String} {af : Array Edge} {g : Option (Nat × Bool)} {x y : Operand}, ev ρ x = c → ev ρ y = ky.enc a → Rw P ⟨d, .lookup tm x y false, ty, pos, af, g⟩ ρ w r := by
  obtain ⟨c', fi, e1, _, hr, _⟩ := h.cell hi
  rw [hc] at e1
  cases e1
  obtain ⟨b, L, cl, rfl, rfl, _, hM, hR⟩ := hr
  rcases hR.look a with ⟨h1, h2⟩ | ⟨v1, y1, h1, h2, h3⟩
  · exact ⟨zv, by rw [h1]; exact hz0, fun hx hy => rw_look hM ht (hz w) hx hy (by rw [h2]; rfl)⟩
  · exact ⟨v1, by rw [h1]; exact h3, fun hx hy => rw_look hM ht (hz w) hx hy (by rw [h2]; rfl)⟩

/-- A store to a field that is a map. -/
theorem dc_omset {κ β : Type} [DecidableEq κ] {ky : Ky P t κ} {k : Kd β} (h : Ob e l S w v cs fp) {i : Nat} {m : List (κ × β)} (hi : l[i]? = some ⟨_, fMap ky k, m⟩) {c : Value} (hc : cs[i]? = some c) (ht : P.underlying tm = some (.map t te)) {a : κ} {b' : β}
    (hx : ev ρ x = c) (hy : ev ρ y = ky.enc a) (hz : ev ρ z = u) (hu : Sl k S w u b') (hk : ∀ w', Ob e (l.set i ⟨_, fMap ky k, mput a b' m⟩) S w' v cs fp → Up (fun b => b ∈ fp) w w' → kk undef w') :
    Does P ⟨d, .mapUpdate tm x y z, ty, pos, af, g⟩ ρ w kk := by
  obtain ⟨fi, hr, hsub, hturn⟩ := h.turn hi hc
  obtain ⟨b, L, cl, rfl, rfl, hS, hM, hR⟩ := hr
  refine dc_mset hM ht hx hy hz fun w' c' hM' up => ?_
  have hsm : Sm S w w' := up.sm fun q hq _ hqb => by have hqb : q = b := hqb; rw [hqb] at hq; exact hS hq
  refine hk w' (hturn ⟨b, _, c', rfl, rfl, hS, hM', (hR.set a hu cl).imp fun v y hv => hv.to hsm⟩ (up.mono fun x _ hx => by have hx : x = b := hx; subst hx; simp)) (up.mono fun x _ hx => by have hx : x = b := hx; subst hx; exact hsub _ (by simp))

/-- A removal from a field that is a map. -/
theorem dc_omdel {κ β : Type} [DecidableEq κ] {ky : Ky P t κ} {k : Kd β} {tk : TypeId} (h : Ob e l S w v cs fp) {i : Nat} {m : List (κ × β)} (hi : l[i]? = some ⟨_, fMap ky k, m⟩) {c : Value} (hc : cs[i]? = some c) (ht : P.underlying tm = some (.map t te)) {a : κ}
    (hx : ev ρ x = c) (hy : ev ρ y = ky.enc a) (hk : ∀ w', Ob e (l.set i ⟨_, fMap ky k, mrem a m⟩) S w' v cs fp → Up (fun b => b ∈ fp) w w' → kk (.tuple #[]) w') :
    Does P ⟨d, .call { callee := .builtin .delete, args := #[x, y], argTypes := #[tm, tk] }, ty, pos, af, g⟩ ρ w kk := by
  obtain ⟨fi, hr, hsub, hturn⟩ := h.turn hi hc
  obtain ⟨b, L, cl, rfl, rfl, hS, hM, hR⟩ := hr
  refine dc_mdel hM ht hx hy fun w' hM' up => ?_
  have hsm : Sm S w w' := up.sm fun q hq _ hqb => by have hqb : q = b := hqb; rw [hqb] at hq; exact hS hq
  refine hk w' (hturn ⟨b, _, cl, rfl, rfl, hS, hM', (hR.del a).imp fun v y hv => hv.to hsm⟩ (up.mono fun x _ hx => by have hx : x = b := hx; subst hx; simp)) (up.mono fun x _ hx => by have hx : x = b := hx; subst hx; exact hsub _ (by simp))

/-- How many entries a field that is a map has. -/
theorem rw_omlen {κ β : Type} [DecidableEq κ] {ky : Ky P t κ} {k : Kd β} (h : Ob e l S w v cs fp) {i : Nat} {m : List (κ × β)} (hi : l[i]? = some ⟨_, fMap ky k, m⟩) {c : Value} (hc : cs[i]? = some c) (ht : P.underlying tm = some (.map t te)) (hx : ev ρ x = c) :
    Rw P ⟨d, .call { callee := .builtin .len, args := #[x], argTypes := #[tm] }, ty, pos, af, g⟩ ρ w (.int .i64 m.length) := by
  obtain ⟨c', fi, e1, _, hr, _⟩ := h.cell hi
  rw [hc] at e1
  cases e1
  obtain ⟨b, L, cl, rfl, rfl, _, hM, hR⟩ := hr
  rw [← hR.length]
  exact rw_mlen hM ht hx
end

/-! ### Objects that are made -/
section
variable {P : Program} {e te tm t : TypeId} {l : List ((α : Type) × Fk α × α)} {S : Nat → Prop} {w : World} {v u : Value} {cs : List Value} {fp : List Nat} {ρ : En} {d : Option Tmp} {ty : TypeId} {pos : String} {af : Array Edge} {g : Option (Nat × Bool)} {x y z : Operand} {kk : Value → World → Prop}

/-- make(map[K]V). -/
theorem dc_mkmap {κ β : Type} [DecidableEq κ] (ky : Ky P t κ) (k : Kd β) (hS : Sb S w) (h : ∀ c b w', w.heap.size ≤ b → (fMap ky k).rep S w' c [] [b] → Up No w w' → kk c w') :
    Does P ⟨d, .makeMap tm none, ty, pos, af, g⟩ ρ w kk := by
  have hrun : (execOp (ev ρ) ⟨d, .makeMap tm none, ty, pos, af, g⟩).run P w = .ok (.value (.map (some w.heap.size))) (w.alloc (.map #[] 0)) := by
    simp [execOp, Instr.makeMap, newObj, Sem.run_bind, Sem.run, Result.andThen_ok]
  unfold Does
  rw [hrun]
  refine h _ w.heap.size _ (Nat.le_refl _) ⟨w.heap.size, [], 0, rfl, rfl, fun hs => ?_, ⟨?_, .nil, .nil, fun x hx => by cases hx⟩, .nil⟩ (Up.alloc _ _ _)
  · have := hS _ hs; omega
  · rw [heap_alloc_new]; rfl

/-- &T{..}: a new object out of its fields. -/
theorem dc_obox {fq : List Nat} (hf : Fs l S w cs fq) (hn : fq.Nodup) (hS : Sb S w) (hx : (ev ρ x).cells = cs.toArray) (h : ∀ v w', Ob e l S w' v cs (pb v :: fq) → w.heap.size ≤ pb v → Up No w w' → kk v w') :
    Does P ⟨d, .box e x, ty, pos, af, g⟩ ρ w kk := by
  refine dc_box (cs := cs) hx fun b w' hb hlt up hbk => ?_
  have hfl := hf.lt
  refine h _ w' ⟨b, fq, rfl, rfl, List.nodup_cons.2 ⟨fun hm => ?_, hn⟩, fun hs => ?_, hbk, hf.mono (fun _ h => h) (fun x hx => (hfl x hx).2) up.sm0 (fun x hx => up.block x (hfl x hx).1 fun hf => hf) up.size⟩ hb up
  · have := (hfl b hm).1; omega
  · have := hS _ hs; omega
end

/-- Nil, or an object. -/
def Obo {T : Type} (e : TypeId) (fs : T → List ((α : Type) × Fk α × α)) (S : Nat → Prop) (w : World) (v : Value) (x : Option T) (cs : List Value) (fp : List Nat) : Prop :=
  match x with
  | none => v = .pointer none ∧ fp = [] ∧ cs = []
  | some x => Ob e (fs x) S w v cs fp

theorem Obo.up {T : Type} {e : TypeId} {fs : T → List ((α : Type) × Fk α × α)} {S S' F : Nat → Prop} {w w' : World} {v : Value} {x : Option T} {cs : List Value} {fp : List Nat} (h : Obo e fs S w v x cs fp) (hu : Up F w w') (hS : ∀ b, S b → S' b) (hS2 : ∀ b, S' b → S b ∨ w.heap.size ≤ b) (hSF : ∀ b, S b → b < w.heap.size → ¬ F b) (hF : ∀ b ∈ fp, ¬ F b) : Obo e fs S' w' v x cs fp := by
  cases x with
  | none => exact h
  | some x => exact Ob.up (show Ob e (fs x) S w v cs fp from h) hu hS hS2 hSF hF
theorem Obo.or {T : Type} {e : TypeId} {fs : T → List ((α : Type) × Fk α × α)} {S R : Nat → Prop} {w : World} {v : Value} {x : Option T} {cs : List Value} {fp : List Nat} (h : Obo e fs S w v x cs fp) (ht : ∀ b ∈ fp, ¬ R b) : Obo e fs (Or S R) w v x cs fp := by
  cases x with
  | none => exact h
  | some x => exact Ob.or (show Ob e (fs x) S w v cs fp from h) ht
theorem Obo.lt {T : Type} {e : TypeId} {fs : T → List ((α : Type) × Fk α × α)} {S : Nat → Prop} {w : World} {v : Value} {x : Option T} {cs : List Value} {fp : List Nat} (h : Obo e fs S w v x cs fp) : ∀ b ∈ fp, b < w.heap.size ∧ ¬ S b := by
  cases x with
  | none => obtain ⟨_, rfl, _⟩ := h; intro b hb; cases hb
  | some x => exact Ob.lt (show Ob e (fs x) S w v cs fp from h)
/-- Is it nil? -/
theorem Obo.nil_iff {T : Type} {e : TypeId} {fs : T → List ((α : Type) × Fk α × α)} {S : Nat → Prop} {w : World} {v : Value} {x : Option T} {cs : List Value} {fp : List Nat} (h : Obo e fs S w v x cs fp) : v = .pointer none ∧ x = none ∨ ∃ y, x = some y ∧ Ob e (fs y) S w v cs fp := by
  cases x with
  | none => exact .inl ⟨h.1, rfl⟩
  | some y => exact .inr ⟨y, rfl, h⟩

section
variable {P : Program} {t t2 a : TypeId} {ρ : En} {d : Option Tmp} {ty : TypeId} {pos : String} {af : Array Edge} {g : Option (Nat × Bool)} {x y : Operand} {v : Value}
theorem run_nileq {w : World} (ht : P.underlying t = some (.pointer a)) : (Op.equal t (.pointer none) (.pointer none)).run P w = .ok true w := by
  obtain ⟨n, hn⟩ : ∃ n, Op.maxDepth = n + 1 := ⟨_, rfl⟩
  unfold Op.equal
  rw [hn]
  simp only [Op.equalIn, Sem.run_bind, run_underlying ht, Result.andThen_ok, Sem.run_pure]
  rfl
theorem run_nilne {w : World} {q : Addr} (ht : P.underlying t = some (.pointer a)) : (Op.equal t (.pointer (some q)) (.pointer none)).run P w = .ok false w := by
  obtain ⟨n, hn⟩ : ∃ n, Op.maxDepth = n + 1 := ⟨_, rfl⟩
  unfold Op.equal
  rw [hn]
  simp only [Op.equalIn, Sem.run_bind, run_underlying ht, Result.andThen_ok, Sem.run_pure]
theorem guard_ptr {w : World} {op : BinOp} {p q : Option Addr} : (eqGuard op t x y (.pointer p) (.pointer q)).run P w = .ok () w := by
  unfold eqGuard
  cases op <;> simp
theorem rv_nileq {b : Bool} (ht : P.underlying t = some (.pointer a)) (hx : ev ρ x = v) (hy : ev ρ y = .pointer none) (hv : v = .pointer none ∧ b = true ∨ v = .pointer (some ⟨pb v, 0, none⟩) ∧ b = false) : Rv P ⟨d, .binOp .eql t x y t2, ty, pos, af, g⟩ ρ (.bool b) := fun w => by
  rcases hv with ⟨rfl, rfl⟩ | ⟨hv, rfl⟩
  · exact run_cmp hx hy guard_ptr (by simp only [binOp, Sem.run_bind, run_nileq ht, Result.andThen_ok, Sem.run_pure])
  · rw [hv] at hx
    exact run_cmp hx hy guard_ptr (by simp only [binOp, Sem.run_bind, run_nilne ht, Result.andThen_ok, Sem.run_pure])
theorem rv_nilne {b : Bool} (ht : P.underlying t = some (.pointer a)) (hx : ev ρ x = v) (hy : ev ρ y = .pointer none) (hv : v = .pointer none ∧ b = true ∨ v = .pointer (some ⟨pb v, 0, none⟩) ∧ b = false) : Rv P ⟨d, .binOp .neq t x y t2, ty, pos, af, g⟩ ρ (.bool (!b)) := fun w => by
  rcases hv with ⟨rfl, rfl⟩ | ⟨hv, rfl⟩
  · exact run_cmp hx hy guard_ptr (by simp only [binOp, Sem.run_bind, run_nileq ht, Result.andThen_ok, Sem.run_pure])
  · rw [hv] at hx
    exact run_cmp hx hy guard_ptr (by simp only [binOp, Sem.run_bind, run_nilne ht, Result.andThen_ok, Sem.run_pure])
theorem rv_nilcheck (hx : ev ρ x = v) (hv : v = .pointer (some ⟨pb v, 0, none⟩)) : Rv P ⟨d, .nilCheck x, ty, pos, af, g⟩ ρ v := fun w => by
  rw [hv] at hx ⊢
  exact rv_nilCheck hx w
theorem Ob.ne {e : TypeId} {l : List ((α : Type) × Fk α × α)} {S : Nat → Prop} {w : World} {cs : List Value} {fp : List Nat} (h : Ob e l S w v cs fp) : v = .pointer none ∧ false = true ∨ v = .pointer (some ⟨pb v, 0, none⟩) ∧ false = false := .inr ⟨h.ptr, rfl⟩
end

/-! ### Objects along a walk -/
section
variable {e : TypeId} {S S1 : Nat → Prop} {w w1 : World} {v u : Value} {cs : List Value} {fp : List Nat}
theorem Ob.nw {l : List ((α : Type) × Fk α × α)} (h : Ob e l S w v cs fp) (hu : Up No w w1) : Ob e l S w1 v cs fp := h.up hu (fun _ h => h) (fun _ h => .inl h) (fun _ _ _ h => h) fun _ _ h => h
theorem Ob.cx {l : List ((α : Type) × Fk α × α)} (h : Ob e l S w v cs fp) (c : Cx No S w S1 w1) : Ob e l S1 w1 v cs fp := h.up c.up c.ge.le c.ge.ge (fun _ _ _ h => h) fun _ _ h => h
/-- Where a row of the call's own is written: the object's blocks are older. -/
theorem Ob.wr {l : List ((α : Type) × Fk α × α)} (h : Ob e l S w v cs fp) (hu : Up (Blk u) w w1) (hn : ∀ b, Blk u b → ¬ S b) (hf : ∀ b ∈ fp, ¬ Blk u b) : Ob e l S w1 v cs fp := h.up hu (fun _ h => h) (fun _ h => .inl h) (fun b hb _ hu => hn b hu hb) hf
variable {T : Type} {fs : T → List ((α : Type) × Fk α × α)} {x : Option T}
theorem Obo.nw (h : Obo e fs S w v x cs fp) (hu : Up No w w1) : Obo e fs S w1 v x cs fp := h.up hu (fun _ h => h) (fun _ h => .inl h) (fun _ _ _ h => h) fun _ _ h => h
theorem Obo.cx (h : Obo e fs S w v x cs fp) (c : Cx No S w S1 w1) : Obo e fs S1 w1 v x cs fp := h.up c.up c.ge.le c.ge.ge (fun _ _ _ h => h) fun _ _ h => h
theorem Obo.wr (h : Obo e fs S w v x cs fp) (hu : Up (Blk u) w w1) (hn : ∀ b, Blk u b → ¬ S b) (hf : ∀ b ∈ fp, ¬ Blk u b) : Obo e fs S w1 v x cs fp := h.up hu (fun _ h => h) (fun _ h => .inl h) (fun b hb _ hu => hn b hu hb) hf
theorem Obo.ne (h : Obo e fs S w v x cs fp) : v = .pointer none ∧ x.isNone = true ∨ v = .pointer (some ⟨pb v, 0, none⟩) ∧ x.isNone = false := by
  cases x with
  | none => exact .inl ⟨h.1, rfl⟩
  | some y => exact .inr ⟨Ob.ptr (show Ob e (fs y) S w v cs fp from h), rfl⟩
/-- A field that is one cell of a fixed form. -/
theorem Ob.sc {l : List ((α : Type) × Fk α × α)} {α : Type} {enc : α → Value} {h1 : ∀ x, (enc x).oneCell' = true} {h2 : (kSc enc h1).sz = 1} {a : α} (h : Ob e l S w v cs fp) {i : Nat} (hi : l[i]? = some ⟨α, fSl (kSc enc h1) h2, a⟩) : cs[i]? = some (enc a) := by
  obtain ⟨c, fi, h3, _, h4, _⟩ := h.cell hi
  have h5 : [c] = [enc a] := h4.1
  simp at h5
  rw [h3, h5]
/-- A field that is a slice, sealed. -/
theorem Ob.sl {l : List ((α : Type) × Fk α × α)} {α : Type} {k : Kd α} {h2 : (kSl k).sz = 1} {a : List α} (h : Ob e l S w v cs fp) {i : Nat} (hi : l[i]? = some ⟨_, fSl (kSl k) h2, a⟩) : ∃ c, cs[i]? = some c ∧ Sl (kSl k) S w c a := by
  obtain ⟨c, fi, h3, _, h4, _⟩ := h.cell hi
  exact ⟨c, h3, [c], rfl, h4.1⟩
/-- A field's cell. -/
theorem Ob.at {l : List ((α : Type) × Fk α × α)} {α : Type} {k : Fk α} {a : α} (h : Ob e l S w v cs fp) {i : Nat} (hi : l[i]? = some ⟨α, k, a⟩) : ∃ c, cs[i]? = some c := by
  obtain ⟨c, fi, h3, _⟩ := h.cell hi
  exact ⟨c, h3⟩
/-- From (S, w) to (S1, w1) the object at v may have turned: what is told of a method. -/
theorem Cx.ob {F S0 : Nat → Prop} {w0 : World} (c : Cx F S0 w0 S w) (k : Cx (fun b => b ∈ fp) S w S1 w1) (hf : ∀ b ∈ fp, b < w0.heap.size → F b) : Cx F S0 w0 S1 w1 := c.then k fun b hb hm => hf b hm hb
end

/-- A load of a field, in a region that only reads. -/
theorem rw_ofieldS {P : Program} {e te : TypeId} {l : List ((α : Type) × Fk α × α)} {S : Nat → Prop} {w w' : World} {v : Value} {cs : List Value} {fp : List Nat} {ρ : En} {d : Option Tmp} {ty : TypeId} {pos : String} {af : Array Edge} {g : Option (Nat × Bool)} {x : Operand}
    (h : Ob e l S w v cs fp) (hw : Sm (fun _ => True) w w') {i : Nat} {c : Value} (ha : aggOf P te = some (false, 1)) (hc : cs[i]? = some c) (hx : ev ρ x = .pointer (some ⟨pb v, i, none⟩)) : Rw P ⟨d, .load te x, ty, pos, af, g⟩ ρ w' c := by
  have hl := h.lt
  obtain ⟨b, fq, rfl, rfl, hn, hS, hk, hf⟩ := h
  exact rw_cell ha (cell_same ((hk.cell i).trans hc) fun hb => hw b trivial hb) hx
end Go.Mg
