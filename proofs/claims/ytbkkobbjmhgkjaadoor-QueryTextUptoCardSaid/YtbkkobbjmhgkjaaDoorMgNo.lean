/- Objects in objects; rows that an object owns: a field is taken out, and put back. -/
import Derived.Test.YtbkkobbjmhgkjaaDoorMgW
namespace Go.Mg
open Go
set_option linter.unusedVariables false

/-- A cell, as it is. -/
def fRaw : Fk Value where
  rep S w c x fp := c = x ∧ c.oneCell' = true ∧ fp = []
  one h := h.2.1
  lt h := by obtain ⟨_, _, rfl⟩ := h; intro b hb; cases hb
  mono h _ _ _ _ _ := h

/-- A row of the object's own. -/
def fRow {α : Type} (k : Kd α) (e : TypeId) : Fk (List α) where
  rep S w c xs fp := Ow k e S 0 w c xs ∧ fp = bl c
  one h := by
    obtain ⟨⟨cs, ⟨h1, h2⟩, _⟩, _⟩ := h
    rcases h2 with ⟨rfl, _⟩ | ⟨g, cap, cur, rfl, _⟩ <;> rfl
  lt h := by
    obtain ⟨h, rfl⟩ := h
    intro b hb
    exact ⟨(h.lt b (mem_bl.1 hb)).2, h.not b (mem_bl.1 hb)⟩
  mono := fun {S S' w w' c x fp} h hS hS2 hw hf hs => by
    obtain ⟨⟨cs, g1, g2, g3, g4⟩, rfl⟩ := h
    refine ⟨⟨cs, ⟨g1.1, ?_⟩, g2.to hS hw, g3, fun b hb => hS2 b (mem_bl.2 hb)⟩, rfl⟩
    rcases g1.2 with hn | ⟨g, cap, cur, rfl, hb, hg, rest⟩
    · exact .inl hn
    · refine .inr ⟨g, cap, cur, rfl, hb, ?_, rest⟩
      rw [hf g (by simp [bl, Value.ownBlock])]
      exact hg

/-- Another object, or nil. -/
def fObj {T : Type} (e : TypeId) (fs : T → List ((α : Type) × Fk α × α)) : Fk (Option T) where
  rep S w c x fp := ∃ cs, Obo e fs S w c x cs fp
  one h := by
    obtain ⟨cs, h⟩ := h
    rcases h.nil_iff with ⟨rfl, _⟩ | ⟨y, _, b, fq, rfl, _⟩ <;> rfl
  lt h := by obtain ⟨cs, h⟩ := h; exact h.lt
  mono := fun {S S' w w' c x fp} h hS hS2 hw hf hs => by
    obtain ⟨cs, h⟩ := h
    refine ⟨cs, ?_⟩
    cases x with
    | none => exact h
    | some x =>
      obtain ⟨b, fq, rfl, rfl, hn, hb, hk, hff⟩ : Ob e (fs x) S w c cs fp := h
      refine (⟨b, fq, rfl, rfl, hn, hS2 b (by simp), ?_, hff.mono hS (fun x hx => hS2 x (by simp [hx])) hw (fun x hx => hf x (by simp [hx])) hs⟩ : Ob e (fs x) S' w' _ cs _)
      have := hf b (by simp)
      unfold Bk at hk ⊢
      rw [this]; exact hk
theorem Obo.nodup {T : Type} {e : TypeId} {fs : T → List ((α : Type) × Fk α × α)} {S : Nat → Prop} {w : World} {v : Value} {x : Option T} {cs : List Value} {fp : List Nat} (h : Obo e fs S w v x cs fp) : fp.Nodup := by
  cases x with
  | none => obtain ⟨_, rfl, _⟩ := h; exact .nil
  | some x => obtain ⟨b, fq, rfl, rfl, hn, _⟩ : Ob e (fs x) S w v cs fp := h; exact hn

/-- Field i, taken out, and put back as anything. -/
theorem Fs.atK {l : List ((α : Type) × Fk α × α)} {S : Nat → Prop} {w : World} {cs : List Value} {fp : List Nat} (h : Fs l S w cs fp) : ∀ {i : Nat} {α : Type} {k : Fk α} {x : α}, l[i]? = some ⟨α, k, x⟩ →
    ∃ c fa fi fb, cs[i]? = some c ∧ fp = fa ++ fi ++ fb ∧ k.rep S w c x fi ∧
      ∀ {β : Type} {k' : Fk β} {S' : Nat → Prop} {w' : World} {c' : Value} {x' : β} {fi' : List Nat}, k'.rep S' w' c' x' fi' → (∀ b, S b → S' b) → (∀ b ∈ fa ++ fb, ¬ S' b) → Sm S w w' →
        (∀ b ∈ fa ++ fb, w'.heap[b]? = w.heap[b]?) → w.heap.size ≤ w'.heap.size → Fs (l.set i ⟨β, k', x'⟩) S' w' (cs.set i c') (fa ++ fi' ++ fb) := by
  induction h with
  | nil => intro i α k x hx; simp at hx
  | @cons β kk y l S w c cs fp fq h1 h2 ih =>
    intro i α k x hx
    cases i with
    | zero =>
      simp at hx
      obtain ⟨rfl, hx⟩ := hx
      simp at hx
      obtain ⟨rfl, rfl⟩ := hx
      refine ⟨c, [], fp, fq, rfl, by simp, h1, fun {β k' S' w' c' x' fi'} h3 hS hS2 hw hf hs => ?_⟩
      simp only [List.set_cons_zero, List.nil_append]
      exact .cons h3 (h2.mono hS (fun b hb => hS2 b (by simpa using hb)) hw (fun b hb => hf b (by simpa using hb)) hs)
    | succ i =>
      obtain ⟨d, fa, fi, fb, e1, e2, e3, e4⟩ := ih (i := i) (by simpa using hx)
      refine ⟨d, fp ++ fa, fi, fb, by simpa using e1, by rw [e2]; simp [List.append_assoc], e3, fun {β k' S' w' c' x' fi'} h3 hS hS2 hw hf hs => ?_⟩
      simp only [List.set_cons_succ]
      have hin : ∀ b ∈ fa ++ fb, b ∈ fp ++ fa ++ fb := fun b hb => by
        simp only [List.mem_append] at hb ⊢
        rcases hb with hb | hb
        · exact .inl (.inr hb)
        · exact .inr hb
      have := e4 h3 hS (fun b hb => hS2 b (hin b hb)) hw (fun b hb => hf b (hin b hb)) hs
      rw [List.append_assoc, List.append_assoc, ← List.append_assoc fa]
      exact .cons (kk.mono h1 hS (fun b hb => hS2 b (by simp [hb])) hw (fun b hb => hf b (by simp [hb])) hs) this

section
variable {e : TypeId} {l : List ((α : Type) × Fk α × α)} {S : Nat → Prop} {w : World} {v : Value} {cs : List Value} {fp : List Nat}
/-- A field is taken out of an object. -/
theorem Ob.openF (h : Ob e l S w v cs fp) {i : Nat} {α : Type} {k : Fk α} {x : α} (hi : l[i]? = some ⟨α, k, x⟩) :
    ∃ c fi fp0, cs[i]? = some c ∧ k.rep S w c x fi ∧ Ob e (l.set i ⟨Value, fRaw, c⟩) S w v cs fp0 ∧ (∀ b, b ∈ fp0 → b ∈ fp) ∧ (∀ b, b ∈ fi → b ∈ fp) ∧ ∀ b, b ∈ fp0 → ¬ b ∈ fi := by
  obtain ⟨b, fq, rfl, rfl, hn, hS, hk, hf⟩ := h
  have hlt := hf.lt
  obtain ⟨c, fa, fi, fb, e1, e2, e3, e4⟩ := hf.atK hi
  have hn1 := (List.nodup_cons.1 hn).1
  have hn2 := (List.nodup_cons.1 hn).2
  rw [e2, List.append_assoc, List.nodup_append] at hn2
  obtain ⟨na, nib, nd⟩ := hn2
  rw [List.nodup_append] at nib
  have hin : ∀ x ∈ fa ++ fb, x ∈ fq := fun x hx => by rw [e2]; simp at hx ⊢; rcases hx with hx | hx <;> simp [hx]
  have := e4 (k' := fRaw) (S' := S) (w' := w) (c' := c) (x' := c) (fi' := []) ⟨rfl, k.one e3, rfl⟩ (fun _ h => h) (fun x hx => (hlt x (hin x hx)).2) (Sm.refl _ _) (fun _ _ => rfl) (Nat.le_refl _)
  have hcs : cs.set i c = cs := by
    apply List.ext_getElem?
    intro j
    rw [List.getElem?_set]
    split
    · rename_i hij; subst hij; rw [if_pos (List.getElem?_eq_some_iff.1 e1).1, e1]
    · rfl
  rw [hcs, List.append_nil] at this
  refine ⟨c, fi, b :: (fa ++ fb), e1, e3, ⟨b, _, rfl, rfl, List.nodup_cons.2 ⟨fun hm => hn1 (hin b hm), ?_⟩, hS, hk, this⟩, fun x hx => ?_, fun x hx => by rw [e2]; simp [hx], fun x hx hxi => ?_⟩
  · exact List.nodup_append.2 ⟨na, nib.2.1, fun x hx y hy e => nd x hx y (by simp [hy]) e⟩
  · rcases List.mem_cons.1 hx with rfl | hx
    · simp
    · simp [hin x hx]
  · rcases List.mem_cons.1 hx with rfl | hx
    · exact hn1 (by rw [e2]; simp [hxi])
    · rcases List.mem_append.1 hx with hx | hx
      · exact nd x hx x (by simp [hxi]) rfl
      · exact nib.2.2 x hxi x hx rfl
/-- A field is put back into an object. -/
theorem Ob.shutF {fp0 fi : List Nat} {c : Value} (h : Ob e l S w v cs fp0) {i : Nat} {α : Type} {k : Fk α} {x : α} (hi : l[i]? = some ⟨Value, fRaw, c⟩) (hr : k.rep S w c x fi) (hn : fi.Nodup) (hd : ∀ b, b ∈ fp0 → ¬ b ∈ fi) :
    ∃ fp, Ob e (l.set i ⟨α, k, x⟩) S w v cs fp ∧ (∀ b, b ∈ fp → b ∈ fp0 ∨ b ∈ fi) := by
  obtain ⟨b, fq, rfl, rfl, hn0, hS, hk, hf⟩ := h
  have hlt := hf.lt
  obtain ⟨c', fa, fi', fb, e1, e2, e3, e4⟩ := hf.atK hi
  obtain ⟨rfl, hone, rfl⟩ := e3
  rw [List.append_nil] at e2
  have hn1 := (List.nodup_cons.1 hn0).1
  have hn2 := (List.nodup_cons.1 hn0).2
  rw [e2, List.nodup_append] at hn2
  obtain ⟨na, nb, nd⟩ := hn2
  have := e4 (k' := k) (S' := S) (w' := w) (c' := c') (x' := x) (fi' := fi) hr (fun _ h => h) (fun x hx => (hlt x (by rw [e2]; exact hx)).2) (Sm.refl _ _) (fun _ _ => rfl) (Nat.le_refl _)
  have hcs : cs.set i c' = cs := by
    apply List.ext_getElem?
    intro j
    rw [List.getElem?_set]
    split
    · rename_i hij; subst hij; rw [if_pos (List.getElem?_eq_some_iff.1 e1).1, e1]
    · rfl
  rw [hcs] at this
  refine ⟨b :: (fa ++ fi ++ fb), ⟨b, _, rfl, rfl, List.nodup_cons.2 ⟨fun hm => ?_, ?_⟩, hS, hk, this⟩, fun x hx => ?_⟩
  · simp only [List.mem_append] at hm
    rcases hm with (hm | hm) | hm
    · exact hn1 (by rw [e2]; simp [hm])
    · exact hd b (by simp) hm
    · exact hn1 (by rw [e2]; simp [hm])
  · rw [List.append_assoc]
    refine List.nodup_append.2 ⟨na, List.nodup_append.2 ⟨hn, nb, fun x hx y hy e => ?_⟩, fun x hx y hy e => ?_⟩
    · subst e; exact hd x (by rw [e2]; simp [hy]) hx
    · rcases List.mem_append.1 hy with hy | hy
      · subst e; exact hd x (by rw [e2]; simp [hx]) hy
      · exact nd x hx y hy e
  · simp only [List.mem_cons, List.mem_append] at hx
    rcases hx with rfl | (hx | hx) | hx
    · exact .inl (by simp)
    · exact .inl (by rw [e2]; simp [hx])
    · exact .inr hx
    · exact .inl (by rw [e2]; simp [hx])

/-- An object in an object, to be read. -/
theorem Ob.child {T : Type} {e2 : TypeId} {fs2 : T → List ((α : Type) × Fk α × α)} {y : Option T} (h : Ob e l S w v cs fp) {i : Nat} (hi : l[i]? = some ⟨Option T, fObj e2 fs2, y⟩) :
    ∃ c cs2 fi, cs[i]? = some c ∧ Obo e2 fs2 S w c y cs2 fi ∧ ∀ b, b ∈ fi → b ∈ fp := by
  obtain ⟨c, fi, fp0, h1, ⟨cs2, h2⟩, _, _, h3, _⟩ := h.openF hi
  exact ⟨c, cs2, fi, h1, h2, h3⟩
/-- An object is taken out of an object. -/
theorem Ob.openO {T : Type} {e2 : TypeId} {fs2 : T → List ((α : Type) × Fk α × α)} {y : Option T} (h : Ob e l S w v cs fp) {i : Nat} (hi : l[i]? = some ⟨Option T, fObj e2 fs2, y⟩) :
    ∃ c cs2 fi fp0, cs[i]? = some c ∧ Obo e2 fs2 S w c y cs2 fi ∧ Ob e (l.set i ⟨Value, fRaw, c⟩) S w v cs fp0 ∧ (∀ b, b ∈ fp0 → b ∈ fp) ∧ (∀ b, b ∈ fi → b ∈ fp) ∧ ∀ b, b ∈ fp0 → ¬ b ∈ fi := by
  obtain ⟨c, fi, fp0, h1, ⟨cs2, h2⟩, h3, h4, h5, h6⟩ := h.openF hi
  exact ⟨c, cs2, fi, fp0, h1, h2, h3, h4, h5, h6⟩
theorem Ob.shutO {T : Type} {e2 : TypeId} {fs2 : T → List ((α : Type) × Fk α × α)} {y : Option T} {fp0 fi : List Nat} {c : Value} {cs2 : List Value} (h : Ob e l S w v cs fp0) {i : Nat} (hi : l[i]? = some ⟨Value, fRaw, c⟩) (hr : Obo e2 fs2 S w c y cs2 fi) (hd : ∀ b, b ∈ fp0 → ¬ b ∈ fi) :
    ∃ fp, Ob e (l.set i ⟨Option T, fObj e2 fs2, y⟩) S w v cs fp ∧ (∀ b, b ∈ fp → b ∈ fp0 ∨ b ∈ fi) := h.shutF hi ⟨cs2, hr⟩ hr.nodup hd
/-- A row of the object's own, to be read: sealed by its own blocks. -/
theorem Ob.rowR {α : Type} {k : Kd α} {er : TypeId} {xs : List α} (h : Ob e l S w v cs fp) {i : Nat} (hi : l[i]? = some ⟨_, fRow k er, xs⟩) :
    ∃ c, cs[i]? = some c ∧ Ow k er S 0 w c xs ∧ ∀ b, Blk c b → b ∈ fp ∧ b ≠ pb v ∧ True := by
  have hv := h
  obtain ⟨c, fi, fp0, h1, ⟨h2, rfl⟩, h3, h4, h5, h6⟩ := h.openF hi
  refine ⟨c, h1, h2, fun b hb => ⟨h5 b (mem_bl.2 hb), fun e => ?_, trivial⟩⟩
  subst e
  obtain ⟨b0, fq, rfl, rfl, _⟩ := h3
  exact h6 b0 (by simp) (mem_bl.2 hb)
end
section
variable {P : Program} {e te er : TypeId} {l : List ((α : Type) × Fk α × α)} {S : Nat → Prop} {w w1 : World} {v u r : Value} {cs : List Value} {fp : List Nat} {ρ : En} {d : Option Tmp} {ty : TypeId} {pos : String} {af : Array Edge} {g : Option (Nat × Bool)} {x y : Operand} {kk : Value → World → Prop}
/-- A row of the object's own, turned, is stored back. -/
theorem dc_ofieldR {α : Type} {k : Kd α} {xs0 xs : List α} (h : Ob e l S w v cs fp) {i : Nat} (hi : l[i]? = some ⟨_, fRow k er, xs0⟩) (hc : cs[i]? = some r) (up : Up (Blk r) w w1) (hu : Ow k er S 0 w1 u xs) (hub : ∀ b, Blk u b → Blk r b ∨ b ∉ fp)
    (ha : aggOf P te = some (false, 1)) (hx : ev ρ x = .pointer (some ⟨pb v, i, none⟩)) (hy : ev ρ y = u)
    (hk : ∀ w' fp', Ob e (l.set i ⟨_, fRow k er, xs⟩) S w' v (cs.set i u) fp' → (∀ b, b ∈ fp' → b ∈ fp ∨ Blk u b) → Up (fun b => b ∈ fp) w w' → kk undef w') : Does P ⟨d, .store te x y, ty, pos, af, g⟩ ρ w1 kk := by
  have hil : i < l.length := (List.getElem?_eq_some_iff.1 hi).1
  obtain ⟨c, fi, fp0, h1, ⟨h2, rfl⟩, h3, h4, h5, h6⟩ := h.openF hi
  rw [hc] at h1
  cases h1
  have hpfp : pb v ∈ fp := by obtain ⟨b, fq, rfl, rfl, _⟩ := h; simp [pb]
  have h3' := h3.up' up (fun _ h => h) (fun b hb => (h3.lt b hb).2) (fun b hb _ hbr => h2.not b hbr hb) fun b hb hbr => h6 b hb (mem_bl.2 hbr)
  have hone := (fRow k er).one ⟨hu, rfl⟩
  obtain ⟨b, fq, rfl, rfl, hn, hS, hbk, hf⟩ := h3'
  have hlt := hf.lt
  obtain ⟨c0, fa, fi, fb, e1, e2, e3, e4⟩ := hf.atK (i := i) (k := fRaw) (x := r) (by rw [List.getElem?_set_self hil])
  have hfi : fi = [] := e3.2.2
  subst hfi
  rw [List.append_nil] at e2
  have hlc : i < cs.length := (List.getElem?_eq_some_iff.1 e1).1
  have hset : cs.take i ++ [u] ++ cs.drop (i + 1) = cs.set i u := by rw [List.set_eq_take_append_cons_drop, if_pos hlc]; simp
  refine dc_store (vs := [u]) (cs := cs) (e0 := e) ha hbk hx (by rw [hy]; exact cells_one hone) (fun c hc => by simp at hc; subst hc; exact hone) rfl (Nat.ble_eq_true_of_le (by omega)) hset fun w' up2 _ hb' => ?_
  have hsm : Sm S w1 w' := up2.sm fun q hq _ hqi => by
    have hqi : q = b := hqi
    subst hqi
    exact hS hq
  have hfa : ∀ x ∈ fa ++ fb, x ∈ fq := fun x hx => by rw [e2]; exact hx
  have hn1 := (List.nodup_cons.1 hn).1
  have hF := e4 (k' := fRaw) (S' := S) (w' := w') (c' := u) (x' := u) (fi' := []) ⟨rfl, hone, rfl⟩ (fun _ h => h) (fun x hx => (hlt x (hfa x hx)).2) hsm
    (fun q hq => up2.block q (hlt q (hfa q hq)).1 fun hqb => by
      have hqb : q = b := hqb
      subst hqb
      exact hn1 (hfa q hq)) up2.size
  rw [List.append_nil, List.set_set, ← e2] at hF
  have hO : Ob e (l.set i ⟨Value, fRaw, u⟩) S w' (.pointer (some ⟨b, 0, none⟩)) (cs.set i u) (b :: fq) := ⟨b, fq, rfl, rfl, hn, hS, hb', hF⟩
  have hbu : ¬ Blk u b := fun hq => (hub b hq).elim (fun h => h6 b (by simp) (mem_bl.2 h)) fun h => h hpfp
  have hu' : Ow k er S 0 w' u xs := hu.to up2 (fun q hq _ hqb => by have hqb : q = b := hqb; rw [hqb] at hq; exact hS hq) fun q hq hqb => by have hqb : q = b := hqb; rw [hqb] at hq; exact hbu hq
  obtain ⟨fp', hO', hsub⟩ := hO.shutF (i := i) (k := fRow k er) (x := xs) (c := u) (by rw [List.getElem?_set_self hil]) ⟨hu', rfl⟩ (bl_nodup u) (fun q hq hqu => by
    rcases hub q (mem_bl.1 hqu) with h1 | h1
    · exact h6 q hq (mem_bl.2 h1)
    · exact h1 (h4 q hq))
  rw [List.set_set] at hO'
  refine hk w' fp' hO' (fun q hq => (hsub q hq).imp (h4 q) mem_bl.1) ?_
  exact (up.mono fun q _ hq => h5 q (mem_bl.2 hq)).then up2 fun q _ hq => by have hq : q = b := hq; subst hq; exact hpfp
/-- A row that the object doesn't have yet is stored. -/
theorem dc_ofieldN {α : Type} {k : Kd α} {xs0 xs : List α} (h : Ob e l S w v cs fp) {i : Nat} (hi : l[i]? = some ⟨_, fRow k er, xs0⟩) (hu : Ow k er S 0 w u xs) (hub : ∀ b, Blk u b → b ∉ fp)
    (ha : aggOf P te = some (false, 1)) (hx : ev ρ x = .pointer (some ⟨pb v, i, none⟩)) (hy : ev ρ y = u)
    (hk : ∀ w' fp', Ob e (l.set i ⟨_, fRow k er, xs⟩) S w' v (cs.set i u) fp' → (∀ b, b ∈ fp' → b ∈ fp ∨ Blk u b) → Up (fun b => b ∈ fp) w w' → kk undef w') : Does P ⟨d, .store te x y, ty, pos, af, g⟩ ρ w kk := by
  obtain ⟨c, hc⟩ := h.at hi
  exact dc_ofieldR h hi hc (Up.refl _ _) hu (fun b hb => .inr (hub b hb)) ha hx hy hk
end
/-! ### Parts of a row, to be appended elsewhere -/
section
variable {α : Type} {k : Kd α} {S S' F S1 : Nat → Prop} {w w' : World} {c u v o : Value} {xs ys : List α} {e base : Nat}
/-- What is to be appended: it lies in a row's block. -/
def Srb (k : Kd α) (S : Nat → Prop) (c : Value) (w : World) (u : Value) (ys : List α) : Prop :=
  ∃ A cp, u = .slice A ys.length cp ∧ (ys = [] ∨ ∃ b off, A = some ⟨b, off, none⟩ ∧ Blk c b ∧ b < w.heap.size ∧ Row k S w b off ys)
theorem Srb.src (h : Srb k S c w u ys) : Src k S w u ys := by
  obtain ⟨A, cp, h1, h2⟩ := h
  exact ⟨A, cp, h1, h2.imp id fun ⟨b, off, h3, _, _, h4⟩ => ⟨b, off, h3, h4⟩⟩
theorem Srb.up (h : Srb k S c w u ys) (hu : Up F w w') (hS : ∀ b, S b → S' b) (hSF : ∀ b, S b → b < w.heap.size → ¬ F b) (hF : ∀ b, Blk c b → ¬ F b) : Srb k S' c w' u ys := by
  obtain ⟨A, cp, h1, h2⟩ := h
  refine ⟨A, cp, h1, h2.imp id fun ⟨b, off, h3, h4, h5, h6⟩ => ⟨b, off, h3, h4, Nat.lt_of_lt_of_le h5 hu.size, h6.to hS (hu.sm hSF) fun hl => hu.block b hl (hF b h4)⟩⟩
theorem Srb.nw (h : Srb k S c w u ys) (hu : Up No w w') : Srb k S c w' u ys := h.up hu (fun _ h => h) (fun _ _ _ h => h) fun _ _ h => h
theorem Srb.cx (h : Srb k S c w u ys) (x : Cx No S w S1 w') : Srb k S1 c w' u ys := h.up x.up x.ge.le (fun _ _ _ h => h) fun _ _ h => h
theorem Srb.wr (h : Srb k S c w u ys) (hu : Up (Blk o) w w') (hn : ∀ b, Blk o b → ¬ S b) (hf : ∀ b, Blk c b → ¬ Blk o b) : Srb k S c w' u ys := h.up hu (fun _ h => h) (fun b hb _ hu => hn b hu hb) hf
theorem Srb.cf (h : Srb k S c w u ys) (x : Cx F S w S1 w') (hF : ∀ b, F b → ¬ S b) (ha : ∀ b, Blk c b → ¬ F b) : Srb k S1 c w' u ys := h.up x.up x.ge.le (fun b hb _ hf => hF b hf hb) ha
theorem Ow.whole (h : Ow k e S base w v xs) : Srb k S v w v xs := by
  obtain ⟨cs, g1, g2, g3, g4⟩ := h
  have hs := (show Ow k e S base w v xs from ⟨cs, g1, g2, g3, g4⟩).src
  obtain ⟨A, cp, rfl, h2⟩ := hs
  refine ⟨A, cp, rfl, h2.imp id fun ⟨b, off, h3, h4⟩ => ⟨b, off, h3, ?_⟩⟩
  rcases g1.2 with ⟨hv, hn⟩ | ⟨g, cap, cur, hv, hb, hg, rest⟩
  · injection hv with hA
    rw [hA] at h3; cases h3
  · injection hv with hA h5 h6
    rw [hA] at h3; cases h3
    rw [hA]
    exact ⟨rfl, (Array.getElem?_eq_some_iff.1 hg).1, h4⟩
variable {P : Program}
theorem Ow.fromB {i : Int} (h : Ow k e S base w v xs) (hi : from_ xs i = some ys) {t by_ : Nat} (el : El P k t e by_) :
    ∃ u, Srb k S v w u ys ∧ ∀ {ρ : En} {d : Option Tmp} {ty : TypeId} {pos : String} {af : Array Edge} {g : Option (Nat × Bool)} {x z : Operand} {kh : IntKind},
      ev ρ x = v → ev ρ z = .int kh i → Rv P ⟨d, .slice t x (some z) none none, ty, pos, af, g⟩ ρ u := by
  obtain ⟨A, cp, rfl, h2⟩ := h.whole
  obtain ⟨A', c', hv, hc, hl, _⟩ := sl_slice.1 h.sealed
  cases hv
  unfold from_ at hi
  split at hi
  case isFalse => cases hi
  rename_i hb
  obtain ⟨h0, h1⟩ := hb
  cases hi
  have hlen : (xs.drop i.toNat).length = xs.length - i.toNat := List.length_drop ..
  refine ⟨.slice (if cp = i.toNat then A else A.map (·.add (i.toNat * k.sz))) (xs.length - i.toNat) (cp - i.toNat), ⟨_, _, by rw [hlen], ?_⟩, fun {ρ d ty pos af g x z kh} hx hz => rv_suf el h0 (by omega) hc hx hz⟩
  rcases h2 with rfl | ⟨b, off, rfl, hb, hbl, hr2⟩
  · exact .inl (by simp)
  · by_cases hcl : cp = i.toNat
    · left
      apply List.eq_nil_of_length_eq_zero
      rw [hlen]; omega
    · exact .inr ⟨b, off + i.toNat * k.sz, by rw [if_neg hcl, Option.map_some, addr_add], hb, hbl, hr2.drop⟩
theorem Ow.uptoB {i : Int} (h : Ow k e S base w v xs) (hi : upto_ xs i = some ys) {t by_ : Nat} (el : El P k t e by_) :
    ∃ u, Srb k S v w u ys ∧ ∀ {ρ : En} {d : Option Tmp} {ty : TypeId} {pos : String} {af : Array Edge} {g : Option (Nat × Bool)} {x z : Operand} {kh : IntKind},
      ev ρ x = v → ev ρ z = .int kh i → Rv P ⟨d, .slice t x none (some z) none, ty, pos, af, g⟩ ρ u := by
  obtain ⟨A, cp, rfl, h2⟩ := h.whole
  obtain ⟨A', c', hv, hc, hl, _⟩ := sl_slice.1 h.sealed
  cases hv
  unfold upto_ at hi
  split at hi
  case isFalse => cases hi
  rename_i hb
  obtain ⟨h0, h1⟩ := hb
  cases hi
  have hlen : (xs.take i.toNat).length = i.toNat := by rw [List.length_take]; omega
  refine ⟨.slice (if cp = 0 then A else A.map (·.add (0 * k.sz))) (i.toNat - 0) (cp - 0), ⟨_, _, by rw [hlen]; rfl, ?_⟩, fun {ρ d ty pos af g x z kh} hx hz => rv_pre el h0 (by omega) hx hz⟩
  rcases h2 with rfl | ⟨b, off, rfl, hb, hbl, hr2⟩
  · exact .inl (by simp)
  · refine .inr ⟨b, off, ?_, hb, hbl, hr2.take⟩
    split
    · rfl
    · rw [Nat.zero_mul, Option.map_some, addr_add]; rfl
end
theorem ap_or {A B D E : Nat → Prop} (h : ∀ b, E b → A b ∨ B b) (h1 : ∀ b, A b → ¬ D b) (h2 : ∀ b, B b → ¬ D b) : ∀ b, E b → ¬ D b := fun b hb hd => (h b hb).elim (fun h => h1 b h hd) fun h => h2 b h hd
end Go.Mg
