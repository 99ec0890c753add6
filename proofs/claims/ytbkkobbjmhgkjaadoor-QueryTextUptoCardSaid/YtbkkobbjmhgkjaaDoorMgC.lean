/- Memory: how values stand for data, and what a step leaves alone. -/
import Derived.Test.YtbkkobbjmhgkjaaDoorMgB
import Derived.Laws.AppendOwn
import Derived.Laws.OwnMore
import Derived.Laws.MakeOwn
import Derived.Below
namespace Go.Mg
open Go

/-- No block. -/
def No : Nat → Prop := fun _ => False
def Or (S T : Nat → Prop) : Nat → Prop := fun b => S b ∨ T b
def One (b : Nat) : Nat → Prop := fun k => k = b
def Fresh (n : Nat) : Nat → Prop := fun b => n ≤ b

/-- The world w' is w, but for new blocks, and blocks of F. -/
structure Up (F : Nat → Prop) (w w' : World) : Prop where
  os : w'.os = w.os
  tape : w'.tape = w.tape
  output : w'.output = w.output
  size : w.heap.size ≤ w'.heap.size
  block : ∀ k, k < w.heap.size → ¬ F k → w'.heap[k]? = w.heap[k]?

/-- On the blocks of S nothing turned. -/
def Sm (S : Nat → Prop) (w w' : World) : Prop := ∀ b, S b → b < w.heap.size → w'.heap[b]? = w.heap[b]?

theorem Up.refl (F : Nat → Prop) (w : World) : Up F w w := ⟨rfl, rfl, rfl, Nat.le_refl _, fun _ _ _ => rfl⟩
theorem Up.trans {F : Nat → Prop} {a b c : World} (h : Up F a b) (k : Up F b c) : Up F a c :=
  ⟨k.os.trans h.os, k.tape.trans h.tape, k.output.trans h.output, Nat.le_trans h.size k.size, fun i hi hF => (k.block i (Nat.lt_of_lt_of_le hi h.size) hF).trans (h.block i hi hF)⟩
theorem Up.mono {F G : Nat → Prop} {w w' : World} (h : Up F w w') (hFG : ∀ b, b < w.heap.size → F b → G b) : Up G w w' :=
  ⟨h.os, h.tape, h.output, h.size, fun k hk hG => h.block k hk (fun hF => hG (hFG k hk hF))⟩
/-- What is written later may be new to the first world. -/
theorem Up.then {F G : Nat → Prop} {a b c : World} (h : Up F a b) (k : Up G b c) (hG : ∀ x, x < a.heap.size → G x → F x) : Up F a c :=
  ⟨k.os.trans h.os, k.tape.trans h.tape, k.output.trans h.output, Nat.le_trans h.size k.size, fun i hi hF => (k.block i (Nat.lt_of_lt_of_le hi h.size) (fun hg => hF (hG i hi hg))).trans (h.block i hi hF)⟩
theorem Up.no {F : Nat → Prop} {w w' : World} (h : Up No w w') : Up F w w' := h.mono fun _ _ hf => hf.elim
theorem Up.sm {F S : Nat → Prop} {w w' : World} (h : Up F w w') (hS : ∀ b, S b → b < w.heap.size → ¬ F b) : Sm S w w' := fun b hb hl => h.block b hl (hS b hb hl)
theorem Up.sm0 {S : Nat → Prop} {w w' : World} (h : Up No w w') : Sm S w w' := h.sm fun _ _ _ hf => hf
theorem Up.drew (F : Nat → Prop) (w : World) : Up F w w.drew := ⟨rfl, rfl, rfl, Nat.le_refl _, fun _ _ _ => rfl⟩
theorem Up.alloc (F : Nat → Prop) (w : World) (o : Obj) : Up F w (w.alloc o) := ⟨rfl, rfl, rfl, by simp, fun k hk _ => heap_alloc_old w o k hk⟩
theorem Up.grown {w w' : World} {row : Option Nat} (h : w.grownBy w' row) : Up (fun b => some b = row) w w' := ⟨h.os, h.tape, h.output, h.size, fun k hk hn => h.block k hk hn⟩
theorem Up.below {w w' : World} (h : Up No w w') : Go.RowKit.Below w.heap.size w w' := ⟨h.os, h.tape, h.output, h.size, fun k hk => h.block k hk (fun h => h)⟩
theorem Sm.refl (S : Nat → Prop) (w : World) : Sm S w w := fun _ _ _ => rfl
theorem Sm.trans {S T : Nat → Prop} {a b c : World} (h : Sm S a b) (k : Sm T b c) (hs : a.heap.size ≤ b.heap.size) (hST : ∀ x, S x → T x) : Sm S a c :=
  fun x hx hl => (k x (hST x hx) (Nat.lt_of_lt_of_le hl hs)).trans (h x hx hl)
theorem Sm.mono {S T : Nat → Prop} {a b : World} (h : Sm S a b) (hTS : ∀ x, T x → S x) : Sm T a b := fun x hx hl => h x (hTS x hx) hl

/-- A kind: how cells stand for a datum, by blocks of S alone. -/
structure Kd (α : Type) where
  sz : Nat
  agg : Bool
  rep : (Nat → Prop) → World → List Value → α → Prop
  len : ∀ {S w cs x}, rep S w cs x → cs.length = sz
  one : ∀ {S w cs x}, rep S w cs x → ∀ c ∈ cs, c.oneCell' = true
  mono : ∀ {S S' : Nat → Prop} {w w' : World} {cs x}, rep S w cs x → (∀ b, S b → S' b) → Sm S w w' → rep S' w' cs x
  sg : agg = false → sz = 1

def Kd.val {α : Type} (k : Kd α) (cs : List Value) : Value := if k.agg then .agg cs.toArray else cs.headD undef

/-- The value v stands for x. -/
def Sl {α : Type} (k : Kd α) (S : Nat → Prop) (w : World) (v : Value) (x : α) : Prop := ∃ cs, v = k.val cs ∧ k.rep S w cs x

theorem Sl.up {α : Type} {k : Kd α} {S S' : Nat → Prop} {w w' : World} {v : Value} {x : α} (h : Sl k S w v x) (hS : ∀ b, S b → S' b) (hw : Sm S w w') : Sl k S' w' v x :=
  let ⟨cs, hv, hr⟩ := h
  ⟨cs, hv, k.mono hr hS hw⟩
theorem Sl.to {α : Type} {k : Kd α} {S : Nat → Prop} {w w' : World} {v : Value} {x : α} (h : Sl k S w v x) (hw : Sm S w w') : Sl k S w' v x := h.up (fun _ h => h) hw
theorem Sl.in {α : Type} {k : Kd α} {S S' : Nat → Prop} {w : World} {v : Value} {x : α} (h : Sl k S w v x) (hS : ∀ b, S b → S' b) : Sl k S' w v x := h.up hS (Sm.refl _ _)

theorem cells_one {c : Value} (h : c.oneCell' = true) : c.cells = #[c] := by cases c <;> simp_all [Value.oneCell', Value.cells]

theorem Kd.val_cells {α : Type} (k : Kd α) {S : Nat → Prop} {w : World} {cs : List Value} {x : α} (h : k.rep S w cs x) : (k.val cs).cells = cs.toArray := by
  unfold Kd.val
  cases ha : k.agg with
  | true => rfl
  | false =>
    have h1 := k.len h
    rw [k.sg ha] at h1
    match cs, h1 with
    | [c], _ => simp [cells_one (k.one h c (by simp))]

def kSc {α : Type} (enc : α → Value) (h : ∀ x, (enc x).oneCell' = true) : Kd α where
  sz := 1
  agg := false
  rep _ _ cs x := cs = [enc x]
  len h := by subst h; rfl
  one e c hc := by subst e; simp at hc; subst hc; exact h _
  mono h _ _ := h
  sg _ := rfl

theorem sl_sc {α : Type} {enc : α → Value} {h : ∀ x, (enc x).oneCell' = true} {S : Nat → Prop} {w : World} {v : Value} {x : α} : Sl (kSc enc h) S w v x ↔ v = enc x :=
  ⟨fun ⟨cs, hv, hr⟩ => by have hr : cs = [enc x] := hr; subst hr; exact hv, fun h => ⟨[enc x], h, rfl⟩⟩

def kI (k : IntKind) : Kd Int := kSc (.int k) (fun _ => rfl)
def kB : Kd Bool := kSc .bool (fun _ => rfl)
def kS : Kd ByteArray := kSc .string (fun _ => rfl)

/-- The cells from an address on are the data, one after the other. -/
def Row {α : Type} (k : Kd α) (S : Nat → Prop) (w : World) (b off : Nat) (xs : List α) : Prop :=
  ∀ i x, xs[i]? = some x → ∃ cs, k.rep S w cs x ∧ ∀ j c, cs[j]? = some c → w.cell? ⟨b, off + i * k.sz + j, none⟩ = some c

theorem cell_same {w w' : World} {b o : Nat} {c : Value} (h : w.cell? ⟨b, o, none⟩ = some c) (hb : b < w.heap.size → w'.heap[b]? = w.heap[b]?) : w'.cell? ⟨b, o, none⟩ = some c :=
  (World.cell?_of_block (w := w) (hb (World.block_lt_of_cell? w _ h))).trans h

theorem Row.to {α : Type} {k : Kd α} {S S' : Nat → Prop} {w w' : World} {b off : Nat} {xs : List α} (h : Row k S w b off xs) (hS : ∀ b, S b → S' b) (hw : Sm S w w') (hb : b < w.heap.size → w'.heap[b]? = w.heap[b]?) :
    Row k S' w' b off xs := fun i x hx =>
  let ⟨cs, hr, hc⟩ := h i x hx
  ⟨cs, k.mono hr hS hw, fun j c hj => cell_same (hc j c hj) hb⟩

/-- No slice that is read is longer. -/
def lim : Nat := 140737488355328

def kSl {α : Type} (k : Kd α) : Kd (List α) where
  sz := 1
  agg := false
  rep S w cs xs := ∃ A c, cs = [.slice A xs.length c] ∧ xs.length ≤ c ∧ xs.length ≤ lim ∧ (xs = [] ∨ ∃ b off, A = some ⟨b, off, none⟩ ∧ S b ∧ Row k S w b off xs)
  len h := by obtain ⟨A, c, rfl, _⟩ := h; rfl
  one h c hc := by obtain ⟨A, c, rfl, _⟩ := h; simp at hc; subst hc; rfl
  mono h hS hw := by
    obtain ⟨A, c, h1, h2, h3, h4⟩ := h
    refine ⟨A, c, h1, h2, h3, ?_⟩
    rcases h4 with h4 | ⟨b, off, hA, hb, hr⟩
    · exact .inl h4
    · exact .inr ⟨b, off, hA, hS b hb, hr.to hS hw (hw b hb)⟩
  sg _ := rfl

theorem sl_slice {α : Type} {k : Kd α} {S : Nat → Prop} {w : World} {v : Value} {xs : List α} :
    Sl (kSl k) S w v xs ↔ ∃ A c, v = .slice A xs.length c ∧ xs.length ≤ c ∧ xs.length ≤ lim ∧ (xs = [] ∨ ∃ b off, A = some ⟨b, off, none⟩ ∧ S b ∧ Row k S w b off xs) :=
  ⟨fun ⟨cs, hv, A, c, h1, h2⟩ => by subst h1; exact ⟨A, c, hv, h2⟩, fun ⟨A, c, hv, h2⟩ => ⟨[.slice A xs.length c], hv, A, c, rfl, h2⟩⟩

theorem sl_nil {α : Type} (k : Kd α) (S : Nat → Prop) (w : World) : Sl (kSl k) S w (.slice none 0 0) [] :=
  sl_slice.2 ⟨none, 0, rfl, Nat.le_refl _, Nat.zero_le _, .inl rfl⟩

/-! ### Slices of the call's own -/

/-- Cells that are the data, one after the other, whatever their place. -/
inductive Chk {α : Type} (k : Kd α) (S : Nat → Prop) (w : World) : List Value → List α → Prop
  | nil : Chk k S w [] []
  | cons {c cs x xs} : k.rep S w c x → Chk k S w cs xs → Chk k S w (c ++ cs) (x :: xs)

theorem Chk.to {α : Type} {k : Kd α} {S S' : Nat → Prop} {w w' : World} {cs : List Value} {xs : List α} (h : Chk k S w cs xs) (hS : ∀ b, S b → S' b) (hw : Sm S w w') : Chk k S' w' cs xs := by
  induction h with
  | nil => exact .nil
  | cons h1 _ ih => exact .cons (k.mono h1 hS hw) ih
theorem Chk.append {α : Type} {k : Kd α} {S : Nat → Prop} {w : World} {cs ds : List Value} {xs ys : List α} (h : Chk k S w cs xs) (h2 : Chk k S w ds ys) : Chk k S w (cs ++ ds) (xs ++ ys) := by
  induction h with
  | nil => exact h2
  | cons h1 _ ih => rw [List.append_assoc, List.cons_append]; exact .cons h1 ih
theorem Chk.len {α : Type} {k : Kd α} {S : Nat → Prop} {w : World} {cs : List Value} {xs : List α} (h : Chk k S w cs xs) : cs.length = xs.length * k.sz := by
  induction h with
  | nil => simp
  | cons h1 _ ih => rw [List.length_append, k.len h1, ih, List.length_cons, Nat.succ_mul, Nat.add_comm]
theorem Chk.one {α : Type} {k : Kd α} {S : Nat → Prop} {w : World} {cs : List Value} {xs : List α} (h : Chk k S w cs xs) : ∀ c ∈ cs, c.oneCell' = true := by
  induction h with
  | nil => simp
  | cons h1 _ ih => intro c hc; exact (List.mem_append.1 hc).elim (k.one h1 c) (ih c)
theorem Chk.at {α : Type} {k : Kd α} {S : Nat → Prop} {w : World} {cs : List Value} {xs : List α} (h : Chk k S w cs xs) :
    ∀ i x, xs[i]? = some x → ∃ c, k.rep S w c x ∧ ∀ j u, c[j]? = some u → cs[i * k.sz + j]? = some u := by
  induction h with
  | nil => intro i x hx; simp at hx
  | @cons c cs x xs h1 h2 ih =>
    intro i y hy
    cases i with
    | zero =>
      simp at hy; subst hy
      refine ⟨c, h1, fun j u hu => ?_⟩
      have hj : j < c.length := (List.getElem?_eq_some_iff.1 hu).1
      simp only [Nat.zero_mul, Nat.zero_add]
      rw [List.getElem?_append_left hj]; exact hu
    | succ i =>
      simp at hy
      obtain ⟨d, hd, hc⟩ := ih i y hy
      refine ⟨d, hd, fun j u hu => ?_⟩
      have hl := k.len h1
      rw [List.getElem?_append_right (by rw [hl, Nat.succ_mul]; omega)]
      rw [show (i + 1) * k.sz + j - c.length = i * k.sz + j from by rw [hl, Nat.succ_mul]; omega]
      exact hc j u hu
/-- A row that is read is such cells. -/
theorem Row.chk {α : Type} {k : Kd α} {S : Nat → Prop} {w : World} {b : Nat} : ∀ {xs : List α} {off : Nat}, Row k S w b off xs →
    ∃ cs, Chk k S w cs xs ∧ ∀ j u, cs[j]? = some u → w.cell? ⟨b, off + j, none⟩ = some u
  | [], off, _ => ⟨[], .nil, fun j u h => by simp at h⟩
  | x :: xs, off, h => by
    obtain ⟨c, hc, hcell⟩ := h 0 x rfl
    have hl := k.len hc
    have h' : Row k S w b (off + k.sz) xs := fun i y hy => by
      obtain ⟨d, hd, hdc⟩ := h (i + 1) y (by simpa using hy)
      refine ⟨d, hd, fun j u hu => ?_⟩
      have := hdc j u hu
      rwa [show off + (i + 1) * k.sz + j = off + k.sz + i * k.sz + j from by rw [Nat.succ_mul]; omega] at this
    obtain ⟨cs, h1, h2⟩ := Row.chk h'
    refine ⟨c ++ cs, .cons hc h1, fun j u hu => ?_⟩
    by_cases hj : j < c.length
    · rw [List.getElem?_append_left hj] at hu
      have := hcell j u hu
      simpa using this
    · rw [List.getElem?_append_right (by omega)] at hu
      have := h2 _ u hu
      rwa [show off + k.sz + (j - c.length) = off + j from by omega] at this

/-- A slice of the call's own: it begins its block (from 'base' on), which is none of S. -/
def Ow {α : Type} (k : Kd α) (e : TypeId) (S : Nat → Prop) (base : Nat) (w : World) (v : Value) (xs : List α) : Prop :=
  ∃ cs, w.ownsRow base e k.sz v xs.length cs ∧ Chk k S w cs xs ∧ xs.length ≤ lim ∧ ∀ b, v.ownBlock = some b → ¬ S b

/-- The block of a slice. -/
def Blk (v : Value) : Nat → Prop := fun b => v.ownBlock = some b

theorem Ow.nil {α : Type} (k : Kd α) (e : TypeId) (S : Nat → Prop) (base : Nat) (w : World) : Ow k e S base w (.slice none 0 0) [] :=
  ⟨[], World.ownsRow_nil w base e k.sz, .nil, Nat.zero_le _, fun b h => by simp [Value.ownBlock] at h⟩

theorem Ow.lt {α : Type} {k : Kd α} {e : TypeId} {S : Nat → Prop} {base : Nat} {w : World} {v : Value} {xs : List α} (h : Ow k e S base w v xs) : ∀ b, Blk v b → base ≤ b ∧ b < w.heap.size :=
  let ⟨_, h1, _⟩ := h
  fun b hb => h1.lt b hb
theorem Ow.not {α : Type} {k : Kd α} {e : TypeId} {S : Nat → Prop} {base : Nat} {w : World} {v : Value} {xs : List α} (h : Ow k e S base w v xs) : ∀ b, Blk v b → ¬ S b :=
  let ⟨_, _, _, _, h4⟩ := h
  h4
theorem Ow.lim {α : Type} {k : Kd α} {e : TypeId} {S : Nat → Prop} {base : Nat} {w : World} {v : Value} {xs : List α} (h : Ow k e S base w v xs) : xs.length ≤ Mg.lim :=
  let ⟨_, _, _, h3, _⟩ := h
  h3

/-- It stays, where its block is not written. -/
theorem Ow.up {α : Type} {k : Kd α} {e : TypeId} {S S' F : Nat → Prop} {base : Nat} {w w' : World} {v : Value} {xs : List α} (h : Ow k e S base w v xs) (hu : Up F w w')
    (hS : ∀ b, S b → S' b) (hS2 : ∀ b, S' b → S b ∨ w.heap.size ≤ b) (hSF : ∀ b, S b → b < w.heap.size → ¬ F b) (hF : ∀ b, Blk v b → ¬ F b) : Ow k e S' base w' v xs := by
  obtain ⟨cs, h1, h2, h3, h4⟩ := h
  refine ⟨cs, ⟨h1.1, ?_⟩, h2.to hS (hu.sm hSF), h3, fun b hb hs => ?_⟩
  · rcases h1.2 with hn | ⟨g, cap, cur, rfl, hbg, hg, rest⟩
    · exact .inl hn
    · refine .inr ⟨g, cap, cur, rfl, hbg, ?_, rest⟩
      rw [hu.block g (Array.getElem?_eq_some_iff.1 hg).1 (hF g (by simp [Blk, Value.ownBlock]))]
      exact hg
  · rcases hS2 b hs with hs | hs
    · exact h4 b hb hs
    · have := (h1.lt b hb).2; omega
theorem Ow.to {α : Type} {k : Kd α} {e : TypeId} {S F : Nat → Prop} {base : Nat} {w w' : World} {v : Value} {xs : List α} (h : Ow k e S base w v xs) (hu : Up F w w')
    (hSF : ∀ b, S b → b < w.heap.size → ¬ F b) (hF : ∀ b, Blk v b → ¬ F b) : Ow k e S base w' v xs := h.up hu (fun _ h => h) (fun _ h => .inl h) hSF hF
/-- A smaller base. -/
theorem Ow.base {α : Type} {k : Kd α} {e : TypeId} {S : Nat → Prop} {base base' : Nat} {w : World} {v : Value} {xs : List α} (h : Ow k e S base w v xs) (hb : base' ≤ base) : Ow k e S base' w v xs := by
  obtain ⟨cs, h1, h2, h3, h4⟩ := h
  refine ⟨cs, ⟨h1.1, ?_⟩, h2, h3, h4⟩
  rcases h1.2 with hn | ⟨g, cap, cur, hv, hbg, rest⟩
  · exact .inl hn
  · exact .inr ⟨g, cap, cur, hv, Nat.le_trans hb hbg, rest⟩

theorem ownsRow_cell {w : World} {base : Nat} {e : TypeId} {size : Nat} {g n cap : Nat} {cs : List Value} (h : w.ownsRow base e size (.slice (some ⟨g, 0, none⟩) n cap) n cs) :
    ∀ j u, cs[j]? = some u → w.cell? ⟨g, j, none⟩ = some u := by
  intro j u hu
  have := h.cells (g := g) rfl j u hu
  have hadd : (⟨g, 0, none⟩ : Addr).add j = ⟨g, j, none⟩ := by unfold Addr.add; split <;> simp_all
  rwa [hadd] at this

/-- As a slice that is read. -/
theorem Ow.sl {α : Type} {k : Kd α} {e : TypeId} {S S' : Nat → Prop} {base : Nat} {w : World} {v : Value} {xs : List α} (h : Ow k e S base w v xs) (hS : ∀ b, S b → S' b) (hb : ∀ b, Blk v b → S' b) : Sl (kSl k) S' w v xs := by
  obtain ⟨cs, h1, h2, h3, h4⟩ := h
  rcases h1.2 with ⟨rfl, hn⟩ | ⟨g, cap, cur, rfl, hbg, hg, hnc, hcm, hcs, htk⟩
  · have : xs = [] := List.eq_nil_of_length_eq_zero hn
    subst this
    exact sl_nil k _ _
  · refine sl_slice.2 ⟨_, _, rfl, hnc, h3, .inr ⟨g, 0, rfl, hb g (by simp [Blk, Value.ownBlock]), fun i x hx => ?_⟩⟩
    obtain ⟨c, hc, hcc⟩ := h2.at i x hx
    refine ⟨c, k.mono hc hS (Sm.refl _ _), fun j u hu => ?_⟩
    rw [Nat.zero_add]
    exact ownsRow_cell h1 _ u (hcc j u hu)

/-- What is told of a call's new blocks. -/
structure Ge (S S' : Nat → Prop) (n : Nat) : Prop where
  le : ∀ b, S b → S' b
  ge : ∀ b, S' b → S b ∨ n ≤ b
theorem Ge.refl (S : Nat → Prop) (n : Nat) : Ge S S n := ⟨fun _ h => h, fun _ h => .inl h⟩
theorem Ge.trans {S S' S'' : Nat → Prop} {n m : Nat} (h : Ge S S' n) (k : Ge S' S'' m) (hnm : n ≤ m) : Ge S S'' n :=
  ⟨fun b hb => k.le b (h.le b hb), fun b hb => (k.ge b hb).elim (h.ge b) fun hb => .inr (by omega)⟩
theorem Ge.add {S S' T : Nat → Prop} {n : Nat} (h : Ge S S' n) (hT : ∀ b, T b → n ≤ b) : Ge S (Or S' T) n :=
  ⟨fun b hb => .inl (h.le b hb), fun b hb => hb.elim (h.ge b) fun hb => .inr (hT b hb)⟩

end Go.Mg
