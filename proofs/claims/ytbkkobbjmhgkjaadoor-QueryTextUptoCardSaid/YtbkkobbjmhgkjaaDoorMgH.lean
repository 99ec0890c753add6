/- Rounds; how a pure text is taken apart. -/
import Derived.Test.YtbkkobbjmhgkjaaDoorMgG
import Derived.Laws.Cover3
import Derived.Laws.Small
namespace Go.Mg
open Go
variable {P : Program} {N : Nat} {Q : Ps} {ρ : En} {w : World} {qn qr : En → World → Prop} {qx : List (Nat × (En → World → Prop))}

/-! ### Rounds -/

def iterN {σ τ : Type} (step : σ → Option (σ ⊕ τ)) : Nat → σ → Option τ
  | 0, _ => none
  | n + 1, s => match step s with
    | none => none
    | some (.inl s') => iterN step n s'
    | some (.inr r) => some r

theorem iterN_mono {σ τ : Type} (step : σ → Option (σ ⊕ τ)) : ∀ (n m : Nat) (s : σ) (r : τ), n ≤ m → iterN step n s = some r → iterN step m s = some r
  | 0, _, _, _, _, h => by simp [iterN] at h
  | n + 1, 0, _, _, hm, _ => by omega
  | n + 1, m + 1, s, r, hm, h => by
    unfold iterN at h ⊢
    cases hs : step s with
    | none => rw [hs] at h; cases h
    | some o =>
      rw [hs] at h
      cases o with
      | inl s' => exact iterN_mono step n m s' r (by omega) h
      | inr r' => exact h

open Classical in
/-- A step that tells the next state, or the end, again and again. -/
noncomputable def iter {σ τ : Type} (step : σ → Option (σ ⊕ τ)) (s : σ) : Option τ :=
  if h : ∃ r, ∃ n, iterN step n s = some r then some (Classical.choose h) else none

theorem iter_eq {σ τ : Type} {step : σ → Option (σ ⊕ τ)} {s : σ} {r : τ} : iter step s = some r ↔ ∃ n, iterN step n s = some r := by
  unfold iter
  constructor
  · intro h
    split at h
    · rename_i hx
      have := Classical.choose_spec hx
      cases h
      exact this
    · cases h
  · rintro ⟨n, hn⟩
    have hx : ∃ r, ∃ n, iterN step n s = some r := ⟨r, n, hn⟩
    rw [dif_pos hx]
    obtain ⟨m, hm⟩ := Classical.choose_spec hx
    have h1 := iterN_mono step n (max n m) s r (by omega) hn
    have h2 := iterN_mono step m (max n m) s _ (by omega) hm
    rw [h1] at h2
    cases h2
    rfl

theorem iter_unfold {σ τ : Type} (step : σ → Option (σ ⊕ τ)) (s : σ) : iter step s = (step s).bind fun o => match o with
    | .inl s' => iter step s'
    | .inr r => some r := by
  apply Option.ext
  intro r
  rw [iter_eq]
  cases hs : step s with
  | none =>
    simp only [Option.bind_none]
    constructor
    · rintro ⟨n, hn⟩; cases n <;> simp [iterN, hs] at hn
    · intro h; cases h
  | some o =>
    simp only [Option.bind_some]
    cases o with
    | inl s' =>
      rw [iter_eq]
      constructor
      · rintro ⟨n, hn⟩
        cases n with
        | zero => simp [iterN] at hn
        | succ n => exact ⟨n, by simpa [iterN, hs] using hn⟩
      · rintro ⟨n, hn⟩; exact ⟨n + 1, by simpa [iterN, hs] using hn⟩
    | inr r' =>
      constructor
      · rintro ⟨n, hn⟩
        cases n with
        | zero => simp [iterN] at hn
        | succ n => simpa [iterN, hs] using hn
      · intro h; exact ⟨1, by simpa [iterN, hs] using h⟩

theorem iter_next {σ τ : Type} {step : σ → Option (σ ⊕ τ)} {s s' : σ} (h : step s = some (.inl s')) : iter step s = iter step s' := by rw [iter_unfold, h]; rfl
theorem iter_end {σ τ : Type} {step : σ → Option (σ ⊕ τ)} {s : σ} {r : τ} (h : step s = some (.inr r)) : iter step s = some r := by rw [iter_unfold, h]; rfl

/-- What follows of a state from which the rounds come to an end. -/
def Then {σ τ : Type} (step : σ → Option (σ ⊕ τ)) (r : τ) : σ ⊕ τ → Prop
  | .inl s' => iter step s' = some r
  | .inr r' => r' = r
theorem iter_some {σ τ : Type} {step : σ → Option (σ ⊕ τ)} {s : σ} {r : τ} (h : iter step s = some r) : ∃ o, step s = some o ∧ Then step r o := by
  rw [iter_unfold, Option.bind_eq_some_iff] at h
  obtain ⟨o, h1, h2⟩ := h
  refine ⟨o, h1, ?_⟩
  cases o with
  | inl s' => exact h2
  | inr r' => cases h2; rfl

theorem cw_iter {σ τ : Type} {step : σ → Option (σ ⊕ τ)} {r : τ} {s0 : σ} {c : Code} (h : iter step s0 = some r) (J : σ → En → World → Prop) (h0 : J s0 ρ w)
    (hb : ∀ s o ρ w, J s ρ w → step s = some o → Then step r o → CW P N c ⟨fun ρ' w' => ∃ s', o = .inl s' ∧ J s' ρ' w', qr, qx⟩ ρ w) : CW P N (.loop c) ⟨qn, qr, qx⟩ ρ w := by
  obtain ⟨n, hn⟩ := iter_eq.1 h
  refine cw_loop (fun n ρ w => ∃ s, iterN step n s = some r ∧ J s ρ w) n ⟨s0, hn, h0⟩ ?_
  rintro n ρ w ⟨s, hs, hJ⟩
  cases n with
  | zero => simp [iterN] at hs
  | succ n =>
    obtain ⟨o, h1, h2⟩ := iter_some (iter_eq.2 ⟨_, hs⟩)
    refine CW.mono (Q := ⟨fun ρ' w' => ∃ s', o = .inl s' ∧ J s' ρ' w', qr, qx⟩) ?_ (fun _ _ h => h) (fun _ _ _ h => h) (hb s o ρ w hJ h1 h2)
    rintro ρ' w' ⟨s', rfl, hJ'⟩
    refine ⟨n, by omega, s', ?_, hJ'⟩
    simpa [iterN, h1] using hs

/-! ### Pure texts -/

def pur {α β : Type} (a : α) (f : α → Option β) : Option β := f a
theorem pur_some {α β : Type} {a : α} {f : α → Option β} {r : β} (h : pur a f = some r) : ∃ t, a = t ∧ f t = some r := ⟨a, rfl, h⟩
theorem bnd_some {α β : Type} {a : Option α} {f : α → Option β} {r : β} (h : a.bind f = some r) : ∃ t, a = some t ∧ f t = some r := Option.bind_eq_some_iff.1 h
theorem bnds_some {α β γ : Type} {a : Option (α ⊕ β)} {f : α → Option γ} {g : β → Option γ} {r : γ} (h : a.bind (Sum.elim f g) = some r) :
    ∃ t, a = some t ∧ (∀ x, t = .inl x → f x = some r) ∧ ∀ x, t = .inr x → g x = some r := by
  obtain ⟨t, h1, h2⟩ := bnd_some h
  exact ⟨t, h1, fun x e => by subst e; exact h2, fun x e => by subst e; exact h2⟩
theorem bif_some {α : Type} {c : Bool} {a b : Option α} {r : α} (h : (bif c then a else b) = some r) : (c = true ∧ a = some r) ∨ (c = false ∧ b = some r) := by
  cases c with
  | true => exact .inl ⟨rfl, h⟩
  | false => exact .inr ⟨rfl, h⟩
theorem cw_t {c : Operand} {x y : Code} {b : Bool} (hc : ev ρ c = .bool b) (hb : b = true) (h : CW P N x Q ρ w) : CW P N (.cond c x y) Q ρ w := cw_true (by rw [hc, hb]) h
theorem cw_f {c : Operand} {x y : Code} {b : Bool} (hc : ev ρ c = .bool b) (hb : b = false) (h : CW P N y Q ρ w) : CW P N (.cond c x y) Q ρ w := cw_false (by rw [hc, hb]) h

/-- Slots that are known. -/
def Has (ρ : En) : List (Nat × Value) → Prop
  | [] => True
  | (d, v) :: l => ρ d = v ∧ Has ρ l
def ld (ρ : En) : List (Nat × Value) → En
  | [] => ρ
  | (d, v) :: l => upd (ld ρ l) d v
theorem Has.eq {ρ : En} : ∀ {l : List (Nat × Value)}, Has ρ l → ld ρ l = ρ
  | [], _ => rfl
  | (d, v) :: l, h => by
    unfold ld
    rw [Has.eq h.2]
    funext t
    unfold upd
    cases hb : Nat.beq t d with
    | false => rfl
    | true => rw [Nat.eq_of_beq_eq_true hb, cond_true]; exact h.1.symm
theorem Has.go {ρ : En} {l : List (Nat × Value)} {G : En → Prop} (h : Has ρ l) (k : ∀ ρ', G (ld ρ' l)) : G ρ := by
  have := k ρ
  rwa [h.eq] at this

theorem Has.cw {l : List (Nat × Value)} {c : Code} (h : Has ρ l) (k : ∀ ρ', CW P N c Q (ld ρ' l) w) : CW P N c Q ρ w := h.go (G := fun ρ => CW P N c Q ρ w) k


/-! ### Short forms for printed walks -/
section
variable {ops : Array Oper} {K : En → World → Prop} {l : List Oper} {d : Option Tmp} {op : Op} {ty : TypeId} {pos : String} {af : Array Edge} {v : Value} {C : World → Prop} {σ : List (Nat × Bool)}

theorem sv (h : Rv P ⟨d, op, ty, pos, af, none⟩ ρ v) (k : W P ops K l (put ρ d v) w) : W P ops K (⟨d, op, ty, pos, af, none⟩ :: l) ρ w := W.v rfl h k
theorem sr (h : Rw P ⟨d, op, ty, pos, af, none⟩ ρ w v) (k : W P ops K l (put ρ d v) w) : W P ops K (⟨d, op, ty, pos, af, none⟩ :: l) ρ w := W.r rfl h k
theorem sc (h : Does P ⟨d, op, ty, pos, af, none⟩ ρ w fun v w' => W P ops K l (put ρ d v) w') : W P ops K (⟨d, op, ty, pos, af, none⟩ :: l) ρ w := W.c rfl h
/-- The guard lets it by. -/
theorem gy {o : Oper} {j d' : Nat} {b b' : Bool} (h : o.guard = some (j, b)) (hd : (ops[j]?).bind (·.dst) = some d') (hv : ρ d' = .bool b') (hb : b' = b) : wantedE ops ρ o = true := wgt h hd (by rw [hv, hb])
theorem gn {o : Oper} {j d' : Nat} {b b' : Bool} (h : o.guard = some (j, b)) (hd : (ops[j]?).bind (·.dst) = some d') (hv : ρ d' = .bool b') (hb : b' = !b) : wantedE ops ρ o = false := wgf h hd hv (by rw [hb]; cases b <;> rfl)
theorem gu {o : Oper} {j d' : Nat} {b : Bool} (h : o.guard = some (j, b)) (hd : (ops[j]?).bind (·.dst) = some d') (hv : ρ d' = undef) : wantedE ops ρ o = false := by
  unfold wantedE; rw [h]; dsimp only; rw [hd]; dsimp only; rw [hv]; rfl
theorem mvv (v : Value) {x : Operand} {g : Option (Nat × Bool)} (h : ev ρ x = v) : Rv P ⟨d, .move x, ty, pos, af, g⟩ ρ v := rv_move' h
theorem asv (v : Value) {x : Operand} {g : Option (Nat × Bool)} (h : ev ρ x = v) : Rv P ⟨d, .assign x, ty, pos, af, g⟩ ρ v := rv_assign' h
theorem ptk (v : Value) {c x y : Operand} {b : Bool} {g : Option (Nat × Bool)} (hc : ev ρ c = .bool b) (hb : b = true) (hv : ev ρ x = v) : Rv P ⟨d, .pick c x y, ty, pos, af, g⟩ ρ v := by subst hv; exact rv_pick_t (by rw [hc, hb])
theorem pfk (v : Value) {c x y : Operand} {b : Bool} {g : Option (Nat × Bool)} (hc : ev ρ c = .bool b) (hb : b = false) (hv : ev ρ y = v) : Rv P ⟨d, .pick c x y, ty, pos, af, g⟩ ρ v := by subst hv; exact rv_pick_f (by rw [hc, hb])
theorem msv {i : Nat} (ho : ops[i]? = some ⟨d, op, ty, pos, af, none⟩) (h : Rv P ⟨d, op, ty, pos, af, none⟩ ρ v) (k : M P ops C K σ (put ρ d v) w) : M P ops C K ((i, true) :: σ) ρ w := M.v ho rfl h k
theorem msr {i : Nat} (ho : ops[i]? = some ⟨d, op, ty, pos, af, none⟩) (h : ∀ w', C w' → Rw P ⟨d, op, ty, pos, af, none⟩ ρ w' v) (k : M P ops C K σ (put ρ d v) w) : M P ops C K ((i, true) :: σ) ρ w := M.r ho rfl h k
theorem msc {i : Nat} (ho : ops[i]? = some ⟨d, op, ty, pos, af, none⟩) (h : Does P ⟨d, op, ty, pos, af, none⟩ ρ w fun v w' => C w' ∧ M P ops C K σ (put ρ d v) w') : M P ops C K ((i, false) :: σ) ρ w := M.c ho rfl h
theorem Sm.wr {S F : Nat → Prop} {a b c : World} (h : Sm S a b) (k : Up F b c) (hF : ∀ b, F b → ¬ S b) (hs : a.heap.size ≤ b.heap.size) : Sm S a c := h.trans (T := S) (k.sm fun b hb _ hf => hF b hf hb) hs fun _ h => h
theorem Sm.nx {S : Nat → Prop} {a b c : World} (h : Sm S a b) (k : Up No b c) (hs : a.heap.size ≤ b.heap.size) : Sm S a c := h.trans (T := S) k.sm0 hs fun _ h => h
/-- Two rows of the call's own have not one block. -/
def Ap (v u : Value) : Prop := ∀ b, Blk v b → ¬ Blk u b
theorem Ap.symm {v u : Value} (h : Ap v u) : Ap u v := fun b h1 h2 => h b h2 h1
theorem Ap.nil {u : Value} : Ap (.slice none 0 0) u := fun b h => by simp [Blk, Value.ownBlock] at h
/-- Rows that were appended to. -/
theorem Cx.ow {F S0 S : Nat → Prop} {w0 w' : World} {α : Type} {k : Kd α} {e : TypeId} {xs : List α} (c : Cx F S0 w0 S w) (o : Ow k e S w0.heap.size w v xs) (u : Up (Blk v) w w') : Cx F S0 w0 S w' :=
  c.upd u fun b hb hf => by have := (o.lt b hf).1; omega
theorem Cx.sealO {F S0 S : Nat → Prop} {w0 : World} {α : Type} {k : Kd α} {e : TypeId} {xs : List α} (c : Cx F S0 w0 S w) (o : Ow k e S w0.heap.size w v xs) : Cx F S0 w0 (Or S (Blk v)) w := c.sealB fun b hb => o.lt b hb
theorem Ow.sealed {S : Nat → Prop} {α : Type} {k : Kd α} {e : TypeId} {base : Nat} {xs : List α} (o : Ow k e S base w v xs) : Sl (kSl k) (Or S (Blk v)) w v xs := o.sl (fun _ h => .inl h) fun _ h => .inr h
theorem Ow.or {S : Nat → Prop} {α : Type} {k : Kd α} {e : TypeId} {base : Nat} {xs : List α} {u : Value} (o : Ow k e S base w v xs) (ap : Ap v u) : Ow k e (Or S (Blk u)) base w v xs := by
  obtain ⟨cs, h1, h2, h3, h4⟩ := o
  exact ⟨cs, h1, h2.to (fun _ h => .inl h) (Sm.refl _ _), h3, fun b hb hs => hs.elim (h4 b hb) (ap b hb)⟩
theorem Sl.or {S T : Nat → Prop} {α : Type} {k : Kd α} {x : α} (h : Sl k S w v x) : Sl k (Or S T) w v x := h.in fun _ h => .inl h
/-- One of the two was appended to. -/
theorem Ap.grow {v v' u : Value} {S : Nat → Prop} {α : Type} {k : Kd α} {e : TypeId} {base : Nat} {xs : List α} (h : Ap v u) (hb : ∀ b, Blk v' b → Blk v b ∨ w.heap.size ≤ b) (o : Ow k e S base w u xs) : Ap v' u := fun b h1 h2 => by
  rcases hb b h1 with h3 | h3
  · exact h b h3 h2
  · have := (o.lt b h2).2; omega
/-- A new one, and one that was there. -/
theorem Ap.new {v u : Value} {S : Nat → Prop} {α : Type} {k : Kd α} {e : TypeId} {base : Nat} {xs : List α} (hb : ∀ b, Blk v b → w.heap.size ≤ b) (o : Ow k e S base w u xs) : Ap v u := fun b h1 h2 => by
  have := (o.lt b h2).2; have := hb b h1; omega
end

/-- A region that draws its order: the world behind the draw by a name. -/
theorem cw_draw' {id : Nat} {l : List Oper} (σ : List (Nat × Bool)) (hf : P.follows .mixedOrders = true)
    (hσ : (Region.noSelect l.toArray && Nat.beq σ.length l.length && mixOK l.toArray σ (Array.replicate l.length false)) = true)
    (h : ∀ w1, Up No w w1 → ∃ C : World → Prop, C w1 ∧ M P l.toArray C qn σ ρ w1) : CW P N (.region id l.toArray true) ⟨qn, qr, qx⟩ ρ w :=
  let ⟨C, h1, h2⟩ := h w.drew (Up.drew _ _)
  cw_draw σ C hf hσ h1 h2

/-! ### Blocks that are sealed -/

/-- A block that is read alone. -/
def Bs (S : Nat → Prop) (w : World) (b : Nat) (cs : List Value) (e : TypeId) : Prop := S b ∧ Bk w b cs e
theorem Bs.cx {S S' : Nat → Prop} {w' : World} {b : Nat} {cs : List Value} {e : TypeId} (h : Bs S w b cs e) (c : Cx No S w S' w') : Bs S' w' b cs e := ⟨c.ge.le b h.1, h.2.to c.up fun h => h⟩
theorem Bs.nw {S : Nat → Prop} {w' : World} {b : Nat} {cs : List Value} {e : TypeId} (h : Bs S w b cs e) (c : Up No w w') : Bs S w' b cs e := ⟨h.1, h.2.to c fun h => h⟩
theorem Bs.wr {S F : Nat → Prop} {w' : World} {b : Nat} {cs : List Value} {e : TypeId} (h : Bs S w b cs e) (c : Up F w w') (hF : ∀ b, F b → ¬ S b) : Bs S w' b cs e := ⟨h.1, h.2.to c fun hf => hF b hf h.1⟩
theorem Bs.or {S T : Nat → Prop} {b : Nat} {cs : List Value} {e : TypeId} (h : Bs S w b cs e) : Bs (Or S T) w b cs e := ⟨.inl h.1, h.2⟩
theorem Bs.sm {S : Nat → Prop} {w' : World} {b : Nat} {cs : List Value} {e : TypeId} (h : Bs S w b cs e) (c : Sm S w w') : Bk w' b cs e := h.2.sm c h.1

section
variable {d : Option Tmp} {ty : TypeId} {pos : String} {af : Array Edge} {g : Option (Nat × Bool)} {S : Nat → Prop} {e : TypeId} {x : Operand} {cs : List Value} {kk : Value → World → Prop}
theorem Cx.one {b : Nat} {w' : World} (hS : Sb S w) (u : Up No w w') (h1 : w.heap.size ≤ b) (h2 : b < w'.heap.size) : Cx No S w (Or S (One b)) w' :=
  ⟨u, (Ge.refl S _).add fun x hx => by cases hx; exact h1, fun x hx => hx.elim (fun hx => Nat.lt_of_lt_of_le (hS x hx) u.size) fun hx => by cases hx; exact h2⟩
theorem dc_boxS (hS : Sb S w) (hx : (ev ρ x).cells = cs.toArray) (h : ∀ b S' w', Cx No S w S' w' → Bs S' w' b cs e → kk (.pointer (some ⟨b, 0, none⟩)) w') :
    Does P ⟨d, .box e x, ty, pos, af, g⟩ ρ w kk :=
  dc_box hx fun b w' h1 h2 u hb => h b _ w' (Cx.one hS u h1 h2) ⟨.inr rfl, hb⟩
theorem dc_litS {α : Type} {k : Kd α} {t e by_ n : Nat} {ps : List (Nat × Operand)} {vs : List Value} {xs : List α} (el : El P k t e by_) (hS : Sb S w) (hv : ps.map (fun p => (p.1, ev ρ p.2)) = vs.zipIdx.map fun p => (p.2, p.1))
    (hn : n = vs.length) (hsl : Sls k S w vs xs) (hsmall : vs.length * k.sz ≤ 16777216)
    (h : ∀ u S' w', Cx No S w S' w' → Sl (kSl k) S' w' u xs → kk u w') : Does P ⟨d, .buildSlice t n ps.toArray, ty, pos, af, g⟩ ρ w kk :=
  dc_lit (base := 0) el hv hn hsl hsmall (Nat.zero_le _) hS fun u w' ho hb hu => h u (Or S (Blk u)) w'
    ⟨hu, (Ge.refl S _).add hb, fun x hx => hx.elim (fun hx => Nat.lt_of_lt_of_le (hS x hx) hu.size) fun hx => (ho.lt x hx).2⟩ (ho.sl (fun _ h => .inl h) fun _ h => .inr h)
end


/-! ### What is known ahead of an operation -/
section
variable {α : Type} {k : Kd α} {S : Nat → Prop} {v : Value} {xs : List α} {t e by_ : Nat}
theorem rw_loadA {u : α} {i : Int} (el : El P k t e by_) (hs : Sl (kSl k) S w v xs) (hi : at_ xs i = some u) :
    ∃ r, Sl k S w r u ∧ ∀ w', Sm S w w' → ∀ {ρ : En} {d : Option Tmp} {ty : TypeId} {pos : String} {af : Array Edge} {g : Option (Nat × Bool)} {x : Operand},
      ev ρ x = .pointer (some ⟨sb v, so v + i.toNat * k.sz, none⟩) → Rw P ⟨d, .load e x, ty, pos, af, g⟩ ρ w' r := by
  obtain ⟨cs, hr, hc⟩ := hs.cells hi
  refine ⟨k.val cs, ⟨cs, rfl, hr⟩, fun w' hw ρ d ty pos af g x hx => ?_⟩
  unfold Rw
  simp only [execOp, Instr.loadAt, Instr.sureAddr, hx, Sem.run_bind, Sem.run_pure, Result.andThen_ok]
  rw [run_loadTy el.toTy (k.len hr) rfl (hc w' hw)]
  rfl
theorem rv_fromA {lo : Int} {r : List α} (el : El P k t e by_) (hs : Sl (kSl k) S w v xs) (h : from_ xs lo = some r) :
    ∃ u, Sl (kSl k) S w u r ∧ ∀ {ρ : En} {d : Option Tmp} {ty : TypeId} {pos : String} {af : Array Edge} {g : Option (Nat × Bool)} {x y : Operand} {kl : IntKind},
      ev ρ x = v → ev ρ y = .int kl lo → Rv P ⟨d, .slice t x (some y) none none, ty, pos, af, g⟩ ρ u := by
  obtain ⟨u, hu, _⟩ := rv_from (P := P) (ρ := fun n => bif Nat.beq n 0 then v else .int .i64 lo) (x := .tmp 0) (y := .tmp 1) (d := none) (ty := 0) (pos := "") (af := #[]) (g := none) el hs rfl rfl h
  obtain ⟨A, c, rfl, hc, hl, hr⟩ := sl_slice.1 hs
  unfold from_ at h
  split at h
  case isFalse => cases h
  rename_i hb
  obtain ⟨h0, h1⟩ := hb
  cases h
  refine ⟨.slice (if c = lo.toNat then A else A.map (·.add (lo.toNat * k.sz))) (xs.length - lo.toNat) (c - lo.toNat), ?_, fun {ρ d ty pos af g x y kl} hx hy w' => ?_⟩
  · have hlen : (xs.drop lo.toNat).length = xs.length - lo.toNat := List.length_drop ..
    refine sl_slice.2 ⟨_, _, by rw [hlen], by rw [hlen]; omega, by rw [hlen]; omega, ?_⟩
    rcases hr with rfl | ⟨b, off, rfl, hb, hr⟩
    · exact .inl (by simp)
    · by_cases hcl : c = lo.toNat
      · left
        apply List.eq_nil_of_length_eq_zero
        rw [hlen]; omega
      · exact .inr ⟨b, off + lo.toNat * k.sz, by rw [if_neg hcl, Option.map_some, addr_add], hb, hr.drop⟩
  · have hsz := el.toTy.size (w := w')
    have e2 : (Instr.sliceBound (.int kl lo) xs.length .sliceB).run P w' = .ok lo.toNat w' := run_sliceBound w' kl lo xs.length _ (by omega) (by omega)
    simp only [execOp, hx, hy, Option.map_some, Option.map_none, Instr.sliceAt, Instr.slice, underlying, program, Sem.run_bind, Sem.run, el.ht, Result.andThen_ok, Sem.run_pure, Instr.sliceBounds,
      Option.isSome_none, Bool.false_eq_true, if_false, e2, hsz]
theorem rv_uptoA {hi : Int} {r : List α} (el : El P k t e by_) (hs : Sl (kSl k) S w v xs) (h : upto_ xs hi = some r) :
    ∃ u, Sl (kSl k) S w u r ∧ ∀ {ρ : En} {d : Option Tmp} {ty : TypeId} {pos : String} {af : Array Edge} {g : Option (Nat × Bool)} {x z : Operand} {kh : IntKind},
      ev ρ x = v → ev ρ z = .int kh hi → Rv P ⟨d, .slice t x none (some z) none, ty, pos, af, g⟩ ρ u := by
  unfold upto_ at h
  split at h
  case isFalse => cases h
  rename_i hb
  obtain ⟨h0, h1⟩ := hb
  cases h
  obtain ⟨A, c, rfl, hc, hl, hr⟩ := sl_slice.1 hs
  refine ⟨.slice (if c = 0 then A else A.map (·.add (0 * k.sz))) (hi.toNat - 0) (c - 0), ?_, fun {ρ d ty pos af g x z kh} hx hz w' => ?_⟩
  · have hlen : (xs.take hi.toNat).length = hi.toNat := by rw [List.length_take]; omega
    refine sl_slice.2 ⟨_, _, by rw [hlen]; rfl, by rw [hlen]; omega, by rw [hlen]; omega, ?_⟩
    rcases hr with rfl | ⟨b, off, rfl, hb, hr⟩
    · exact .inl (by simp)
    · refine .inr ⟨b, off, ?_, hb, hr.take⟩
      split
      · rfl
      · rw [Nat.zero_mul, Option.map_some, addr_add]
        rfl
  · have hsz := el.toTy.size (w := w')
    have e1 : (Instr.sliceBound (.int kh hi) c .sliceAcap).run P w' = .ok hi.toNat w' := run_sliceBound w' kh hi c _ (by omega) (by omega)
    simp only [execOp, hx, hz, Option.map_some, Option.map_none, Instr.sliceAt, Instr.slice, underlying, program, Sem.run_bind, Sem.run, el.ht, Result.andThen_ok, Sem.run_pure, Instr.sliceBounds,
      if_true, Option.isSome_none, Bool.false_eq_true, if_false, e1, hsz]
theorem rv_partA {lo hi : Int} {r : List α} (el : El P k t e by_) (hs : Sl (kSl k) S w v xs) (h : part_ xs lo hi = some r) :
    ∃ u, Sl (kSl k) S w u r ∧ ∀ {ρ : En} {d : Option Tmp} {ty : TypeId} {pos : String} {af : Array Edge} {g : Option (Nat × Bool)} {x y z : Operand} {kl kh : IntKind},
      ev ρ x = v → ev ρ y = .int kl lo → ev ρ z = .int kh hi → Rv P ⟨d, .slice t x (some y) (some z) none, ty, pos, af, g⟩ ρ u := by
  unfold part_ at h
  split at h
  case isFalse => cases h
  rename_i hb
  obtain ⟨h0, h1, h2⟩ := hb
  cases h
  obtain ⟨A, c, rfl, hc, hl, hr⟩ := sl_slice.1 hs
  refine ⟨.slice (if c = lo.toNat then A else A.map (·.add (lo.toNat * k.sz))) (hi.toNat - lo.toNat) (c - lo.toNat), ?_, fun {ρ d ty pos af g x y z kl kh} hx hy hz w' => ?_⟩
  · have hlen : ((xs.take hi.toNat).drop lo.toNat).length = hi.toNat - lo.toNat := by rw [List.length_drop, List.length_take]; omega
    refine sl_slice.2 ⟨_, _, by rw [hlen], by rw [hlen]; omega, by rw [hlen]; omega, ?_⟩
    rcases hr with rfl | ⟨b, off, rfl, hb, hr⟩
    · exact .inl (by simp)
    · by_cases hcl : c = lo.toNat
      · left
        apply List.eq_nil_of_length_eq_zero
        rw [hlen]; omega
      · refine .inr ⟨b, off + lo.toNat * k.sz, by rw [if_neg hcl, Option.map_some, addr_add], hb, hr.take.drop⟩
  · have hsz := el.toTy.size (w := w')
    have e1 : (Instr.sliceBound (.int kh hi) c .sliceAcap).run P w' = .ok hi.toNat w' := run_sliceBound w' kh hi c _ (by omega) (by omega)
    have e2 : (Instr.sliceBound (.int kl lo) hi.toNat .sliceB).run P w' = .ok lo.toNat w' := run_sliceBound w' kl lo hi.toNat _ (by omega) (by omega)
    simp only [execOp, hx, hy, hz, Option.map_some, Option.map_none, Instr.sliceAt, Instr.slice, underlying, program, Sem.run_bind, Sem.run, el.ht, Result.andThen_ok, Sem.run_pure, Instr.sliceBounds,
      if_true, Option.isSome_none, Bool.false_eq_true, if_false, e1, e2, hsz]
theorem sl_cells (h : Sl (kSl k) S w v xs) : v.cells = [v].toArray := by obtain ⟨A, c, rfl⟩ := h.len; rfl
end

/-! ### Kinds of structs -/
theorem rep_sc {α : Type} {enc : α → Value} {h : ∀ x, (enc x).oneCell' = true} {S : Nat → Prop} {cs : List Value} {x : α} : (kSc enc h).rep S w cs x ↔ cs = [enc x] := Iff.rfl
theorem rep_sl {α : Type} {k : Kd α} {S : Nat → Prop} {cs : List Value} {xs : List α} : (kSl k).rep S w cs xs ↔ ∃ c, cs = [c] ∧ Sl (kSl k) S w c xs :=
  ⟨fun h => by obtain ⟨A, c, rfl, h1⟩ := h; exact ⟨_, rfl, sl_slice.2 ⟨A, c, rfl, h1⟩⟩, fun ⟨c, hc, h⟩ => by obtain ⟨A, c', h0, h1⟩ := sl_slice.1 h; subst hc; exact ⟨A, c', by rw [h0], h1⟩⟩
def kPair {α β : Type} (a : Kd α) (b : Kd β) : Kd (α × β) where
  sz := a.sz + b.sz
  agg := true
  rep S w cs p := ∃ c1 c2, cs = c1 ++ c2 ∧ a.rep S w c1 p.1 ∧ b.rep S w c2 p.2
  len h := by obtain ⟨c1, c2, rfl, h1, h2⟩ := h; rw [List.length_append, a.len h1, b.len h2]
  one h c hc := by
    obtain ⟨c1, c2, rfl, h1, h2⟩ := h
    exact (List.mem_append.1 hc).elim (a.one h1 c) (b.one h2 c)
  mono h hS hw := by obtain ⟨c1, c2, e, h1, h2⟩ := h; exact ⟨c1, c2, e, a.mono h1 hS hw, b.mono h2 hS hw⟩
  sg h := by cases h
def kAgg {α : Type} (a : Kd α) : Kd α where
  sz := a.sz
  agg := true
  rep := a.rep
  len := a.len
  one := a.one
  mono := a.mono
  sg h := by cases h
def kIso {α β : Type} (a : Kd α) (f : β → α) : Kd β where
  sz := a.sz
  agg := a.agg
  rep S w cs x := a.rep S w cs (f x)
  len h := a.len h
  one h := a.one h
  mono h := a.mono h
  sg := a.sg

section
variable {t t2 : TypeId} {x y : Operand} {a b : Bool} {d : Option Tmp} {ty : TypeId} {pos : String} {af : Array Edge} {g : Option (Nat × Bool)}
theorem run_cmp {op : BinOp} {u z r : Value} (hx : ev ρ x = u) (hy : ev ρ y = z) (hg : (eqGuard op t x y u z).run P w = .ok () w) (hb : (binOp op t u z).run P w = .ok r w) :
    (execOp (ev ρ) ⟨d, .binOp op t x y t2, ty, pos, af, g⟩).run P w = .ok (.value r) w := by
  simp only [execOp, hx, hy, Sem.run_bind, hg, hb, Result.andThen_ok, Sem.run_pure]
theorem rv_beql (ht : P.underlying t = some .bool) (hx : ev ρ x = .bool a) (hy : ev ρ y = .bool b) : Rv P ⟨d, .binOp .eql t x y t2, ty, pos, af, g⟩ ρ (.bool (a == b)) := fun w =>
  run_cmp hx hy (by simp [eqGuard]) (run_eql_bool w t a b ht)
theorem rv_bneq (ht : P.underlying t = some .bool) (hx : ev ρ x = .bool a) (hy : ev ρ y = .bool b) : Rv P ⟨d, .binOp .neq t x y t2, ty, pos, af, g⟩ ρ (.bool (!(a == b))) := fun w =>
  run_cmp hx hy (by simp [eqGuard]) (run_neq_bool w t a b ht)
theorem rv_slnil {e : TypeId} {A : Option Addr} {n c : Nat} (ht : P.underlying t = some (.slice e)) (hx : ev ρ x = .slice A n c) (hy : ev ρ y = .slice none 0 0) : Rv P ⟨d, .binOp .eql t x y t2, ty, pos, af, g⟩ ρ (.bool A.isNone) := fun w =>
  run_cmp hx hy (by simp [eqGuard]) (by simp only [binOp, Sem.run_bind, run_equal_slice_nil w t e A n c ht, Result.andThen_ok, Sem.run_pure])
theorem run_equal_ptr {e : TypeId} {A : Option Addr} (ht : P.underlying t = some (.pointer e)) : (Op.equal t (.pointer A) (.pointer none)).run P w = .ok A.isNone w :=
  (show ∀ n, (Op.equalIn (n + 1) t (.pointer A) (.pointer none)).run P w = .ok A.isNone w from fun n => by cases A <;> simp [Op.equalIn, run_underlying ht]) 9999
theorem rv_pnil {e : TypeId} {A : Option Addr} (ht : P.underlying t = some (.pointer e)) (hx : ev ρ x = .pointer A) (hy : ev ρ y = .pointer none) : Rv P ⟨d, .binOp .eql t x y t2, ty, pos, af, g⟩ ρ (.bool A.isNone) := fun w =>
  run_cmp hx hy (by simp [eqGuard]) (by cases A <;> simp only [binOp, Sem.run_bind, run_equal_ptr ht, Result.andThen_ok, Sem.run_pure])
theorem rv_pnotnil {e : TypeId} {A : Option Addr} (ht : P.underlying t = some (.pointer e)) (hx : ev ρ x = .pointer A) (hy : ev ρ y = .pointer none) : Rv P ⟨d, .binOp .neq t x y t2, ty, pos, af, g⟩ ρ (.bool (!A.isNone)) := fun w =>
  run_cmp hx hy (by simp [eqGuard]) (by cases A <;> simp only [binOp, Sem.run_bind, run_equal_ptr ht, Result.andThen_ok, Sem.run_pure])
end

/-- A copy, where memory bears it. -/
def clone_ {α : Type} (by_ : Nat) (xs : List α) : Option (List α) := if xs.length * by_ ≤ lim then some xs else none
theorem clone_some {α : Type} {by_ : Nat} {xs r : List α} (h : clone_ by_ xs = some r) : r = xs := by
  unfold clone_ at h
  split at h
  · exact (Option.some.inj h).symm
  · cases h
theorem clone_nil {α : Type} {by_ : Nat} {r : List α} (h : clone_ by_ [] = some r) : [] = r := (clone_some h).symm
theorem clone_app {α : Type} {by_ : Nat} {xs r : List α} (h : clone_ by_ xs = some r) : app_ by_ [] xs = some r := by
  have e := clone_some h
  subst e
  unfold clone_ at h
  split at h
  · rename_i hb; unfold app_; rw [if_pos (by simpa using hb)]; rfl
  · cases h

/-- A divisor is not 0. -/
def nz_ (b r : Int) : Option Int := if b = 0 then none else some r
theorem nz_some {b r y : Int} (h : nz_ b r = some y) : b ≠ 0 ∧ r = y := by
  unfold nz_ at h
  split at h
  · cases h
  · rename_i hb; exact ⟨hb, Option.some.inj h⟩

end Go.Mg
