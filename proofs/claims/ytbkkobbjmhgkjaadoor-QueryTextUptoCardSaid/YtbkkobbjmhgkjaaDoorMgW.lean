/- Objects that turn, along a walk. -/
import Derived.Test.YtbkkobbjmhgkjaaDoorMgK
import Derived.Test.YtbkkobbjmhgkjaaDoorMgN
namespace Go.Mg
open Go
set_option linter.unusedVariables false
section
variable {F S S1 : Nat → Prop} {w w1 : World} {v : Value}
theorem Sl.cf {α : Type} {k : Kd α} {x : α} (h : Sl k S w v x) (c : Cx F S w S1 w1) (hF : ∀ b, F b → ¬ S b) : Sl k S1 w1 v x := h.up c.ge.le (c.up.sm fun b hb _ hf => hF b hf hb)
theorem Ow.cf {α : Type} {k : Kd α} {e : TypeId} {base : Nat} {xs : List α} (h : Ow k e S base w v xs) (c : Cx F S w S1 w1) (hF : ∀ b, F b → ¬ S b) (ha : ∀ b, Blk v b → ¬ F b) : Ow k e S1 base w1 v xs := h.up c.up c.ge.le c.ge.ge (fun b hb _ hf => hF b hf hb) ha
theorem Ob.cf {e : TypeId} {l : List ((α : Type) × Fk α × α)} {cs : List Value} {fp : List Nat} (h : Ob e l S w v cs fp) (c : Cx F S w S1 w1) (hF : ∀ b, F b → ¬ S b) (ha : ∀ b, b ∈ fp → ¬ F b) : Ob e l S1 w1 v cs fp := h.up c.up c.ge.le c.ge.ge (fun b hb _ hf => hF b hf hb) ha
theorem Obo.cf {T : Type} {fs : T → List ((α : Type) × Fk α × α)} {x : Option T} {e : TypeId} {cs : List Value} {fp : List Nat} (h : Obo e fs S w v x cs fp) (c : Cx F S w S1 w1) (hF : ∀ b, F b → ¬ S b) (ha : ∀ b, b ∈ fp → ¬ F b) : Obo e fs S1 w1 v x cs fp := h.up c.up c.ge.le c.ge.ge (fun b hb _ hf => hF b hf hb) ha
theorem Bs.cf {b : Nat} {cs : List Value} {e : TypeId} (h : Bs S w b cs e) (c : Cx F S w S1 w1) (hF : ∀ b, F b → ¬ S b) : Bs S1 w1 b cs e := ⟨c.ge.le b h.1, h.2.to c.up fun hf => hF b hf h.1⟩
/-- A world that turned, the same S. -/
theorem Cx.ofUp (hS : Sb S w) (u : Up F w w1) : Cx F S w S w1 := (Cx.refl hS).upd u fun _ _ h => h

/-- Two sets of blocks apart: the first grew by new blocks; the first is new. -/
theorem ap_grow {A A' B : Nat → Prop} {n : Nat} (h : ∀ b, A b → ¬ B b) (hs : ∀ b, A' b → A b ∨ n ≤ b) (hB : ∀ b, B b → b < n) : ∀ b, A' b → ¬ B b := fun b h1 h2 => by
  rcases hs b h1 with h3 | h3
  · exact h b h3 h2
  · have := hB b h2; omega
theorem ap_fresh {A B : Nat → Prop} {n : Nat} (hs : ∀ b, A b → n ≤ b) (hB : ∀ b, B b → b < n) : ∀ b, A b → ¬ B b := fun b h1 h2 => by have := hs b h1; have := hB b h2; omega
theorem ap_nil {B : Nat → Prop} : ∀ b, Blk (.slice none 0 0) b → ¬ B b := fun b h => by simp [Blk, Value.ownBlock] at h
theorem ap_symm {A B : Nat → Prop} (h : ∀ b, A b → ¬ B b) : ∀ b, B b → ¬ A b := fun b h1 h2 => h b h2 h1
theorem Sm.wrC {T G : Nat → Prop} {a b c : World} (h : Sm T a b) (k : Up G b c) (hs : a.heap.size ≤ b.heap.size) (hG : ∀ b, G b → ¬ T b) : Sm T a c := h.trans (T := T) (k.sm fun b hb _ hf => hG b hf hb) hs fun _ h => h
end

/-- A cell of an object's struct, in a world where its block is as it was. -/
theorem rw_ofieldU {P : Program} {e te : TypeId} {l : List ((α : Type) × Fk α × α)} {S : Nat → Prop} {w w' : World} {v : Value} {cs : List Value} {fp : List Nat} {ρ : En} {d : Option Tmp} {ty : TypeId} {pos : String} {af : Array Edge} {g : Option (Nat × Bool)} {x : Operand}
    (h : Ob e l S w v cs fp) (hw : Sm (One (pb v)) w w') {i : Nat} {c : Value} (ha : aggOf P te = some (false, 1)) (hc : cs[i]? = some c) (hx : ev ρ x = .pointer (some ⟨pb v, i, none⟩)) : Rw P ⟨d, .load te x, ty, pos, af, g⟩ ρ w' c := by
  have hl := h.lt
  obtain ⟨b, fq, rfl, rfl, hn, hS, hk, hf⟩ := h
  exact rw_cell ha (cell_same ((hk.cell i).trans hc) fun hb => hw b rfl hb) hx

theorem Ob.hd {e : TypeId} {l : List ((α : Type) × Fk α × α)} {S : Nat → Prop} {w : World} {v : Value} {cs : List Value} {fp : List Nat} (h : Ob e l S w v cs fp) : pb v ∈ fp := by
  obtain ⟨b, fq, rfl, rfl, _⟩ := h
  exact List.mem_cons_self
theorem Ob.rep {e : TypeId} {l : List ((α : Type) × Fk α × α)} {S : Nat → Prop} {w : World} {v : Value} {cs : List Value} {fp : List Nat} (h : Ob e l S w v cs fp) {i : Nat} {α : Type} {k : Fk α} {x : α} (hi : l[i]? = some ⟨α, k, x⟩) {c : Value} (hc : cs[i]? = some c) :
    ∃ fi, k.rep S w c x fi ∧ ∀ b ∈ fi, b ∈ fp := by
  obtain ⟨c', fi, h1, h2, h3, _⟩ := h.cell hi
  rw [hc] at h1
  cases h1
  exact ⟨fi, h3, h2⟩
theorem ap_one {A : Nat → Prop} {fp : List Nat} {n : Nat} (h : ∀ b, A b → ¬ b ∈ fp) (hm : n ∈ fp) : ∀ b, A b → ¬ One n b := fun b h1 h2 => h b h1 (by have h2 : b = n := h2; rw [h2]; exact hm)
theorem Rw.does {P : Program} {o : Oper} {ρ : En} {w : World} {v : Value} {k : Value → World → Prop} (h : Rw P o ρ w v) (hk : k v w) : Does P o ρ w k := by
  unfold Rw at h
  unfold Does
  rw [h]
  exact hk
/-- The block of a map. -/
def mb : Value → Nat
  | .map (some b) => b
  | _ => 0

theorem run_zeroValue {P : Program} {te : TypeId} {z : Value} (h : (P.info? te).bind (·.zero) = some z) (w : World) : (zeroValue te).run P w = .ok z w := by
  rw [Option.bind_eq_some_iff] at h
  obtain ⟨i, hi, hz⟩ := h
  simp [zeroValue, typeInfo, hi, hz, Sem.run_bind, Sem.run, program, Result.andThen_ok, Sem.run_pure]

theorem Cx.ofp {F G S0 S : Nat → Prop} {w0 w w1 : World} (C : Cx F S0 w0 S w) (u : Up G w w1) (hs : ∀ b, G b → F b ∨ w0.heap.size ≤ b) : Cx F S0 w0 S w1 :=
  C.upd u fun b hb hg => (hs b hg).resolve_right (Nat.not_le_of_lt hb)
theorem Cx.ofc {F G S0 S S1 : Nat → Prop} {w0 w w1 : World} (C : Cx F S0 w0 S w) (c : Cx G S w S1 w1) (hs : ∀ b, G b → F b ∨ w0.heap.size ≤ b) : Cx F S0 w0 S1 w1 :=
  C.then c fun b hb hg => (hs b hg).resolve_right (Nat.not_le_of_lt hb)

/-- A kind that stands for the same in every world. -/
def Flat {α : Type} (k : Kd α) : Prop := ∀ (S S' : Nat → Prop) (w w' : World) (cs : List Value) (x : α), k.rep S w cs x → k.rep S' w' cs x
theorem flat_sc {α : Type} {enc : α → Value} {h : ∀ x, (enc x).oneCell' = true} : Flat (kSc enc h) := fun _ _ _ _ _ _ h => h
theorem Chk.flat {α : Type} {k : Kd α} (hk : Flat k) {S S' : Nat → Prop} {w w' : World} {cs : List Value} {xs : List α} (h : Chk k S w cs xs) : Chk k S' w' cs xs := by
  induction h with
  | nil => exact .nil
  | cons h1 _ ih => exact .cons (hk _ _ _ _ _ _ h1) ih
theorem Ow.flat {α : Type} {k : Kd α} (hk : Flat k) {e : TypeId} {S S' : Nat → Prop} {base : Nat} {w : World} {v : Value} {xs : List α} (h : Ow k e S' base w v xs) (hS : ∀ b, S b → S' b) : Ow k e S base w v xs := by
  obtain ⟨cs, h1, h2, h3, h4⟩ := h
  exact ⟨cs, h1, h2.flat hk, h3, fun b hb hs => h4 b hb (hS b hs)⟩
/-- S and a row's block. -/
theorem Ow.sbO {α : Type} {k : Kd α} {e : TypeId} {S : Nat → Prop} {base : Nat} {w : World} {v : Value} {xs : List α} (h : Ow k e S base w v xs) (hS : Sb S w) : Sb (Or S (Blk v)) w := fun b hb => hb.elim (hS b) fun hb => (h.lt b hb).2

section
variable {P : Program} {e te tm t : TypeId} {S : Nat → Prop} {w w' : World} {v u c : Value} {fp : List Nat} {kk : Value → World → Prop} {κ β : Type} [DecidableEq κ] {ky : Ky P t κ} {k : Kd β} {m : List (κ × β)}

/-- A look-up in a map whose elements are sealed, in each world where its block is as it was. -/
theorem rep_look (h : (fMap ky k).rep S w c m fp) (ht : P.underlying tm = some (.map t te)) {zv : Value} {y0 : β} (hz : (P.info? te).bind (·.zero) = some zv) (hz0 : Sl k S w zv y0) (a : κ) :
    ∃ r, Sl k S w r ((mget a m).getD y0) ∧ ∀ {w' : World}, Sm (One (mb c)) w w' → ∀ {ρ : En} {d : Option Tmp} {ty : TypeId} {pos : String} {af : Array Edge} {g : Option (Nat × Bool)} {x y : Operand}, ev ρ x = c → ev ρ y = ky.enc a →
      Rw P ⟨d, .lookup tm x y false, ty, pos, af, g⟩ ρ w' r ∧ Rw P ⟨d, .lookup tm x y true, ty, pos, af, g⟩ ρ w' (.tuple #[r, .bool (mget a m).isSome]) := by
  obtain ⟨b, L, cl, rfl, rfl, _, hM, hR⟩ := h
  rcases hR.look a with ⟨h1, h2⟩ | ⟨v1, y1, h1, h2, h3⟩
  · refine ⟨zv, by rw [h1]; exact hz0, fun {w'} hw => ?_⟩
    intro ρ d ty pos af g x y hx hy
    have hM' := hM.to (hw b rfl hM.lt)
    exact ⟨rw_look hM' ht (run_zeroValue hz _) hx hy (by rw [h2]; rfl), rw_lookOk hM' ht (run_zeroValue hz _) hx hy (by rw [h2]; rfl) (by rw [h1, h2]; rfl)⟩
  · refine ⟨v1, by rw [h1]; exact h3, fun {w'} hw => ?_⟩
    intro ρ d ty pos af g x y hx hy
    have hM' := hM.to (hw b rfl hM.lt)
    exact ⟨rw_look hM' ht (run_zeroValue hz _) hx hy (by rw [h2]; rfl), rw_lookOk hM' ht (run_zeroValue hz _) hx hy (by rw [h2]; rfl) (by rw [h1, h2]; rfl)⟩
theorem rep_mlen (h : (fMap ky k).rep S w c m fp) (ht : P.underlying tm = some (.map t te)) {w' : World} (hw : Sm (One (mb c)) w w') {ρ : En} {d : Option Tmp} {ty : TypeId} {pos : String} {af : Array Edge} {g : Option (Nat × Bool)} {x : Operand} (hx : ev ρ x = c) :
    Rw P ⟨d, .call { callee := .builtin .len, args := #[x], argTypes := #[tm] }, ty, pos, af, g⟩ ρ w' (.int .i64 m.length) := by
  obtain ⟨b, L, cl, rfl, rfl, _, hM, hR⟩ := h
  rw [← hR.length]
  exact rw_mlen (hM.to (hw b rfl hM.lt)) ht hx
theorem rep_mlenO {er : TypeId} {m : List (κ × List β)} (h : (fMapO ky k er).rep S w c m fp) (ht : P.underlying tm = some (.map t te)) {w' : World} (hw : Sm (One (mb c)) w w') {ρ : En} {d : Option Tmp} {ty : TypeId} {pos : String} {af : Array Edge} {g : Option (Nat × Bool)} {x : Operand} (hx : ev ρ x = c) :
    Rw P ⟨d, .call { callee := .builtin .len, args := #[x], argTypes := #[tm] }, ty, pos, af, g⟩ ρ w' (.int .i64 m.length) := by
  obtain ⟨b, L, cl, rfl, rfl, _, hM, hR⟩ := h
  rw [← hR.length]
  exact rw_mlen (hM.to (hw b rfl hM.lt)) ht hx

/-- make(map[K]V), rows of its own. -/
theorem dc_mkmapO (ky : Ky P t κ) (k : Kd β) (er : TypeId) {ρ : En} {d : Option Tmp} {ty : TypeId} {pos : String} {af : Array Edge} {g : Option (Nat × Bool)} (hS : Sb S w) (h : ∀ c b w', w.heap.size ≤ b → (fMapO ky k er).rep S w' c [] [b] → Up No w w' → kk c w') :
    Does P ⟨d, .makeMap tm none, ty, pos, af, g⟩ ρ w kk :=
  dc_mkmap ky k hS fun c b w' hb hr hu => h c b w' hb (by
    obtain ⟨b', L, cl, rfl, hfp, hS', hM, hR⟩ := hr
    simp at hfp
    subst hfp
    cases hR
    exact ⟨b, [], cl, rfl, rfl, hS', hM, .nil⟩) hu

/-- A row is lent out of an object's map: what is done to it and to new blocks alone can be put back under its key. -/
theorem Ob.lendU {l : List ((α : Type) × Fk α × α)} {cs : List Value} (h : Ob e l S w v cs fp) {er : TypeId} {i : Nat} {m : List (κ × List β)} (hi : l[i]? = some ⟨_, fMapO ky k er, m⟩) (hc : cs[i]? = some c) (ht : P.underlying tm = some (.map t te))
    (hz : (P.info? te).bind (·.zero) = some (.slice none 0 0)) (a : κ) :
    ∃ r, Ow k er S 0 w r ((mget a m).getD []) ∧ (∀ b, Blk r b → b ∈ fp ∧ b ≠ pb v ∧ b ≠ mb c) ∧
      (∀ {w' : World}, Sm (One (mb c)) w w' → ∀ {ρ : En} {d : Option Tmp} {ty : TypeId} {pos : String} {af : Array Edge} {g : Option (Nat × Bool)} {x y : Operand}, ev ρ x = c → ev ρ y = ky.enc a → Rw P ⟨d, .lookup tm x y false, ty, pos, af, g⟩ ρ w' r) ∧
      ∀ {S0 : Nat → Prop} {w0 : World}, Ob e l S0 w0 v cs fp → Sm (One (mb c)) w w0 → ∀ {w1 : World} {u : Value} {xs : List β}, Up (Blk r) w0 w1 → Ow k er S0 0 w1 u xs → (∀ b, Blk u b → Blk r b ∨ b ∉ fp) →
        ∀ {ρ : En} {d : Option Tmp} {ty : TypeId} {pos : String} {af : Array Edge} {g : Option (Nat × Bool)} {x y z : Operand} {kk : Value → World → Prop}, ev ρ x = c → ev ρ y = ky.enc a → ev ρ z = u →
          (∀ w' fp', Ob e (l.set i ⟨_, fMapO ky k er, mput a xs m⟩) S0 w' v cs fp' → (∀ b ∈ fp', b ∈ fp ∨ Blk u b) → Up (fun b => b ∈ fp) w0 w' → kk undef w') →
          Does P ⟨d, .mapUpdate tm x y z, ty, pos, af, g⟩ ρ w1 kk := by
  have h0 := h
  obtain ⟨r, hr1, hr2, hr3, hr4⟩ := h.lend hi hc ht (run_zeroValue hz) a
  obtain ⟨fi, hr, hsub, hnd, hpb, _⟩ := h.turnN hi hc
  obtain ⟨b, L, cl, rfl, rfl, hS, hM, hR⟩ := hr
  have hrow : ∀ q, Blk r q → q ∈ rows L := fun q hq => by
    have hlk : (look a L).getD (.slice none 0 0) = r := by
      have h1 := hr3 (ρ := fun n => bif Nat.beq n 0 then .map (some b) else ky.enc a) (d := none) (ty := 0) (pos := "") (af := #[]) (g := none) (x := .tmp 0) (y := .tmp 1) rfl rfl
      have h2 := rw_look (ρ := fun n => bif Nat.beq n 0 then .map (some b) else ky.enc a) (d := none) (ty := 0) (pos := "") (af := #[]) (g := none) (x := .tmp 0) (y := .tmp 1) hM ht (run_zeroValue hz w) rfl rfl rfl
      unfold Rw at h1 h2
      rw [h1] at h2
      cases h2
      rfl
    cases hl : look a L with
    | none => rw [hl] at hlk; simp at hlk; subst hlk; simp [Blk, Value.ownBlock] at hq
    | some v1 =>
      rw [hl] at hlk
      simp at hlk
      subst hlk
      obtain ⟨x, hx, _, hv⟩ := look_mem hl
      exact mem_rows.2 ⟨x, hx, by rw [hv]; exact hq⟩
  exact ⟨r, hr1, fun q hq => ⟨hr2 q hq, fun e => hpb (by rw [← e]; simp [hrow q hq]), fun e => by
    have e : q = b := e
    rw [e] at hq
    exact (List.nodup_cons.1 hnd).1 (hrow b hq)⟩, fun {w'} hw {ρ d ty pos af g x y} hx hy => by
      have := hr3 (ρ := ρ) (d := d) (ty := ty) (pos := pos) (af := af) (g := g) hx hy
      have h2 := rw_look (P := P) (ρ := ρ) (d := d) (ty := ty) (pos := pos) (af := af) (g := g) hM ht (run_zeroValue hz w) hx hy rfl
      unfold Rw at this h2
      rw [this] at h2
      cases h2
      exact rw_look (hM.to (hw b rfl hM.lt)) ht (run_zeroValue hz w') hx hy rfl, fun {S0 w0} hO hw => by
      obtain ⟨r0, hq1, hq2, hq3, hq4⟩ := hO.lend hi hc ht (run_zeroValue hz) a
      have e1 : r0 = r := by
        have h1 := hq3 (ρ := fun n => bif Nat.beq n 0 then .map (some b) else ky.enc a) (d := none) (ty := 0) (pos := "") (af := #[]) (g := none) (x := .tmp 0) (y := .tmp 1) rfl rfl
        have h2 := rw_look (ρ := fun n => bif Nat.beq n 0 then .map (some b) else ky.enc a) (d := none) (ty := 0) (pos := "") (af := #[]) (g := none) (x := .tmp 0) (y := .tmp 1) (hM.to (hw b rfl hM.lt)) ht (run_zeroValue hz w0) rfl rfl rfl
        have h3 := hr3 (ρ := fun n => bif Nat.beq n 0 then .map (some b) else ky.enc a) (d := none) (ty := 0) (pos := "") (af := #[]) (g := none) (x := .tmp 0) (y := .tmp 1) rfl rfl
        have h4 := rw_look (ρ := fun n => bif Nat.beq n 0 then .map (some b) else ky.enc a) (d := none) (ty := 0) (pos := "") (af := #[]) (g := none) (x := .tmp 0) (y := .tmp 1) hM ht (run_zeroValue hz w) rfl rfl rfl
        unfold Rw at h1 h2 h3 h4
        rw [h1] at h2
        rw [h3] at h4
        cases h2
        cases h4
        rfl
      rw [← e1]
      exact @hq4⟩
end

/-! ### Maps that are the call's own, out of any object -/
/-- A value that stands for a datum by blocks of its own. -/
def Mo {α : Type} (k : Fk α) (S : Nat → Prop) (w : World) (v : Value) (x : α) (fp : List Nat) : Prop := k.rep S w v x fp ∧ fp.Nodup
section
variable {α : Type} {k : Fk α} {F S S1 : Nat → Prop} {w w1 : World} {v u : Value} {x : α} {fp : List Nat}
theorem Mo.lt (h : Mo k S w v x fp) : ∀ b ∈ fp, b < w.heap.size ∧ ¬ S b := k.lt h.1
theorem Mo.up' (h : Mo k S w v x fp) (hu : Up F w w1) (hS : ∀ b, S b → S1 b) (hS2 : ∀ b ∈ fp, ¬ S1 b) (hSF : ∀ b, S b → b < w.heap.size → ¬ F b) (hF : ∀ b ∈ fp, ¬ F b) : Mo k S1 w1 v x fp :=
  ⟨k.mono h.1 hS hS2 (hu.sm hSF) (fun b hb => hu.block b (h.lt b hb).1 (hF b hb)) hu.size, h.2⟩
theorem Mo.up (h : Mo k S w v x fp) (hu : Up F w w1) (hS : ∀ b, S b → S1 b) (hS2 : ∀ b, S1 b → S b ∨ w.heap.size ≤ b) (hSF : ∀ b, S b → b < w.heap.size → ¬ F b) (hF : ∀ b ∈ fp, ¬ F b) : Mo k S1 w1 v x fp :=
  h.up' hu hS (fun b hb hs => (hS2 b hs).elim (h.lt b hb).2 fun hl => by have := (h.lt b hb).1; omega) hSF hF
theorem Mo.or {T : Nat → Prop} (h : Mo k S w v x fp) (ht : ∀ b ∈ fp, ¬ T b) : Mo k (Or S T) w v x fp :=
  h.up' (Up.refl No _) (fun _ h => .inl h) (fun b hb hs => hs.elim (h.lt b hb).2 (ht b hb)) (fun _ _ _ h => h) fun _ _ h => h
theorem Mo.cells {κ β : Type} [DecidableEq κ] {P : Program} {t : TypeId} {ky : Ky P t κ} {k : Kd β} {m : List (κ × β)} (h : Mo (fMap ky k) S w v m fp) : ∃ b, v = .map b := by
  obtain ⟨⟨b, _, _, rfl, _⟩, _⟩ := h; exact ⟨_, rfl⟩
theorem Mo.cellsO {κ β : Type} [DecidableEq κ] {P : Program} {t : TypeId} {ky : Ky P t κ} {k : Kd β} {er : TypeId} {m : List (κ × List β)} (h : Mo (fMapO ky k er) S w v m fp) : ∃ b, v = .map b := by
  obtain ⟨⟨b, _, _, rfl, _⟩, _⟩ := h; exact ⟨_, rfl⟩
theorem Mo.nw (h : Mo k S w v x fp) (hu : Up No w w1) : Mo k S w1 v x fp := h.up hu (fun _ h => h) (fun _ h => .inl h) (fun _ _ _ h => h) fun _ _ h => h
theorem Mo.cx (h : Mo k S w v x fp) (c : Cx No S w S1 w1) : Mo k S1 w1 v x fp := h.up c.up c.ge.le c.ge.ge (fun _ _ _ h => h) fun _ _ h => h
theorem Mo.wr (h : Mo k S w v x fp) (hu : Up (Blk u) w w1) (hn : ∀ b, Blk u b → ¬ S b) (hf : ∀ b ∈ fp, ¬ Blk u b) : Mo k S w1 v x fp := h.up hu (fun _ h => h) (fun _ h => .inl h) (fun b hb _ hu => hn b hu hb) hf
theorem Mo.cf (h : Mo k S w v x fp) (c : Cx F S w S1 w1) (hF : ∀ b, F b → ¬ S b) (ha : ∀ b, b ∈ fp → ¬ F b) : Mo k S1 w1 v x fp := h.up c.up c.ge.le c.ge.ge (fun b hb _ hf => hF b hf hb) ha
end
section
variable {P : Program} {te tm t : TypeId} {S : Nat → Prop} {w w' : World} {u c : Value} {fp : List Nat} {kk : Value → World → Prop} {κ β : Type} [DecidableEq κ] {ky : Ky P t κ} {k : Kd β} {m : List (κ × β)} {ρ : En} {d : Option Tmp} {ty : TypeId} {pos : String} {af : Array Edge} {g : Option (Nat × Bool)} {x y z : Operand}
theorem dc_mmset (h : Mo (fMap ky k) S w c m fp) (ht : P.underlying tm = some (.map t te)) {a : κ} {b' : β} (hx : ev ρ x = c) (hy : ev ρ y = ky.enc a) (hz : ev ρ z = u) (hu : Sl k S w u b')
    (hk : ∀ w', Mo (fMap ky k) S w' c (mput a b' m) fp → Up (fun b => b ∈ fp) w w' → kk undef w') : Does P ⟨d, .mapUpdate tm x y z, ty, pos, af, g⟩ ρ w kk := by
  obtain ⟨⟨b, L, cl, rfl, rfl, hS, hM, hR⟩, hn⟩ := h
  refine dc_mset hM ht hx hy hz fun w' c' hM' up => ?_
  have hsm : Sm S w w' := up.sm fun q hq _ hqb => by have hqb : q = b := hqb; rw [hqb] at hq; exact hS hq
  exact hk w' ⟨⟨b, _, c', rfl, rfl, hS, hM', (hR.set a hu cl).imp fun v y hv => hv.to hsm⟩, hn⟩ (up.mono fun x _ hx => by have hx : x = b := hx; subst hx; simp)
theorem dc_mmdel {tk : TypeId} (h : Mo (fMap ky k) S w c m fp) (ht : P.underlying tm = some (.map t te)) {a : κ} (hx : ev ρ x = c) (hy : ev ρ y = ky.enc a)
    (hk : ∀ w', Mo (fMap ky k) S w' c (mrem a m) fp → Up (fun b => b ∈ fp) w w' → kk (.tuple #[]) w') : Does P ⟨d, .call { callee := .builtin .delete, args := #[x, y], argTypes := #[tm, tk] }, ty, pos, af, g⟩ ρ w kk := by
  obtain ⟨⟨b, L, cl, rfl, rfl, hS, hM, hR⟩, hn⟩ := h
  refine dc_mdel hM ht hx hy fun w' hM' up => ?_
  have hsm : Sm S w w' := up.sm fun q hq _ hqb => by have hqb : q = b := hqb; rw [hqb] at hq; exact hS hq
  exact hk w' ⟨⟨b, _, cl, rfl, rfl, hS, hM', (hR.del a).imp fun v y hv => hv.to hsm⟩, hn⟩ (up.mono fun x _ hx => by have hx : x = b := hx; subst hx; simp)
end

section
variable {P : Program} {e te tm t : TypeId} {l : List ((α : Type) × Fk α × α)} {S : Nat → Prop} {w : World} {v c : Value} {cs : List Value} {fp : List Nat} {kk : Value → World → Prop} {κ β : Type} [DecidableEq κ] {ky : Ky P t κ} {k : Kd β} {er : TypeId}
theorem MR.imp' {κ β : Type} {R R' : Value → β → Prop} {L : List (κ × Value × Nat)} {m : List (κ × β)} (h : MR R L m) (hR : ∀ x ∈ L, ∀ y, R x.2.1 y → R' x.2.1 y) : MR R' L m := by
  induction h with
  | nil => exact .nil
  | @cons a v n y L m h1 _ ih => exact .cons (hR (a, v, n) List.mem_cons_self _ h1) (ih fun x hx => hR x (List.mem_cons_of_mem _ hx))
theorem mdel_rows {a : κ} {L : List (κ × Value × Nat)} : (rows (mdel a L)).Sublist (rows L) := by
  induction L with
  | nil => exact List.Sublist.refl _
  | cons x L ih =>
    unfold mdel at ih ⊢
    rw [List.filter_cons]
    split
    · unfold rows at ih ⊢
      rw [List.flatMap_cons, List.flatMap_cons]
      exact (List.Sublist.refl _).append ih
    · have : (rows L).Sublist (rows (x :: L)) := by unfold rows; rw [List.flatMap_cons]; exact List.sublist_append_right _ _
      exact ih.trans this
/-- A row is taken out of an object's map. -/
theorem dc_omdelO {tk : TypeId} {ρ : En} {d : Option Tmp} {ty : TypeId} {pos : String} {af : Array Edge} {g : Option (Nat × Bool)} {x y : Operand} (h : Ob e l S w v cs fp) {i : Nat} {m : List (κ × List β)} (hi : l[i]? = some ⟨_, fMapO ky k er, m⟩) (hc : cs[i]? = some c) (ht : P.underlying tm = some (.map t te)) {a : κ}
    (hx : ev ρ x = c) (hy : ev ρ y = ky.enc a) (hk : ∀ w' fp', Ob e (l.set i ⟨_, fMapO ky k er, mrem a m⟩) S w' v cs fp' → (∀ b ∈ fp', b ∈ fp) → Up (fun b => b ∈ fp) w w' → kk (.tuple #[]) w') :
    Does P ⟨d, .call { callee := .builtin .delete, args := #[x, y], argTypes := #[tm, tk] }, ty, pos, af, g⟩ ρ w kk := by
  obtain ⟨fi, hr, hsub, hnd, hpb, hturn⟩ := h.turnN hi hc
  obtain ⟨b, L, cl, rfl, rfl, hS, hM, hR⟩ := hr
  refine dc_mdel hM ht hx hy fun w' hM' up => ?_
  have hsm : Sm S w w' := up.sm fun q hq _ hqb => by have hqb : q = b := hqb; rw [hqb] at hq; exact hS hq
  have hbr := (List.nodup_cons.1 hnd).1
  have hR' : MR (fun v xs => Ow k er S 0 w' v xs) (mdel a L) (mrem a m) := by
    refine MR.imp' (hR.del a) fun x hx y hy => ?_
    exact hy.to up (fun q hq _ hqb => by have hqb : q = b := hqb; rw [hqb] at hq; exact hS hq) fun q hq hqb => by
      have hqb : q = b := hqb
      rw [hqb] at hq
      exact hbr (mem_rows.2 ⟨x, (mdel_sub a L).subset hx, hq⟩)
  obtain ⟨fp', ho, hfp⟩ := hturn (w' := w') (x' := mrem a m) (fi' := b :: rows (mdel a L)) ⟨b, _, cl, rfl, rfl, hS, hM', hR'⟩ (up.mono fun q _ hq => by have hq : q = b := hq; simp [hq])
    (List.nodup_cons.2 ⟨fun hm => hbr (mdel_rows.subset hm), (List.nodup_cons.1 hnd).2.sublist mdel_rows⟩) fun q hq => .inl (by
      rcases List.mem_cons.1 hq with rfl | hq
      · simp
      · exact List.mem_cons_of_mem _ (mdel_rows.subset hq))
  refine hk w' fp' ho (fun q hq => (hfp q hq).elim id fun hq => ?_) (up.mono fun q _ hq => by have hq : q = b := hq; rw [hq]; exact hsub b (by simp))
  rcases List.mem_cons.1 hq with rfl | hq
  · exact hsub _ (by simp)
  · exact hsub q (List.mem_cons_of_mem _ (mdel_rows.subset hq))
end

/-! ### The keys of a map, rising -/
def keys_ (l : List Int) : Option (List Int) := if l.length * 8 ≤ lim then some (l.mergeSort fun x y => decide (x ≤ y)) else none
theorem keys_some {l r : List Int} (h : keys_ l = some r) : l.length * 8 ≤ lim ∧ (l.mergeSort fun x y => decide (x ≤ y)) = r := by
  unfold keys_ at h
  split at h
  · rename_i hb; exact ⟨hb, Option.some.inj h⟩
  · cases h
theorem keys_perm {l m : List Int} (h : l.Perm m) : (l.mergeSort fun x y => decide (x ≤ y)) = m.mergeSort fun x y => decide (x ≤ y) := by
  have t : ∀ a b c : Int, decide (a ≤ b) = true → decide (b ≤ c) = true → decide (a ≤ c) = true := fun a b c h1 h2 => by simp at *; omega
  have tot : ∀ a b : Int, (decide (a ≤ b) || decide (b ≤ a)) = true := fun a b => by simp; omega
  refine List.Perm.eq_of_pairwise (le := fun x y => decide (x ≤ y) = true) (fun a b _ _ h1 h2 => by simp at h1 h2; omega) (List.pairwise_mergeSort t tot l) (List.pairwise_mergeSort t tot m) ?_
  exact (List.mergeSort_perm l _).trans (h.trans (List.mergeSort_perm m _).symm)
section
variable {w : World} {α : Type} {r b c : Nat} {L rem : List (α × Value × Nat)} {lst : Option (α × Value × Nat)}
theorem It.born {P : Program} {t : TypeId} [DecidableEq α] {ky : Ky P t α} (h : It w r b L c rem lst) {w' : World} (hM : Mp ky w' b L c) : (rem.map (·.2.2)).Nodup := hM.born.sublist (h.sub.map _)
theorem filter_erase {e : α × Value × Nat} : ∀ {rem : List (α × Value × Nat)}, e ∈ rem → (rem.map (·.2.2)).Nodup → (e :: rem.filter fun z => !decide (e.2.2 = z.2.2)).Perm rem
  | x :: rem, he, hn => by
    simp only [List.map_cons, List.nodup_cons] at hn
    rcases List.mem_cons.1 he with rfl | he
    · have : (rem.filter fun z => !decide (e.2.2 = z.2.2)) = rem := List.filter_eq_self.2 fun z hz => by
        have : e.2.2 ≠ z.2.2 := fun h => hn.1 (List.mem_map.2 ⟨z, hz, h.symm⟩)
        simp [this]
      simp [this]
    · have hne : ¬ e.2.2 = x.2.2 := fun h => hn.1 (List.mem_map.2 ⟨e, he, h⟩)
      have ih := filter_erase he hn.2
      rw [List.filter_cons, if_pos (by simp [hne])]
      exact (List.Perm.swap _ _ _).trans (ih.cons x)
theorem rest_lt {e : α × Value × Nat} (he : e ∈ rem) : (rem.filter fun z => !decide (e.2.2 = z.2.2)).length < rem.length := by
  rcases Nat.lt_or_ge (rem.filter fun z => !decide (e.2.2 = z.2.2)).length rem.length with h | h
  · exact h
  · have := List.filter_sublist.eq_of_length_le h
    have h2 := List.filter_eq_self.1 this e he
    simp at h2
theorem keys_step {e : α × Value × Nat} {ks : List α} (he : e ∈ rem) (hn : (rem.map (·.2.2)).Nodup) : (ks ++ [e.1] ++ (rem.filter fun z => !decide (e.2.2 = z.2.2)).map (·.1)).Perm (ks ++ rem.map (·.1)) := by
  rw [List.append_assoc]
  have := (filter_erase he hn).map (·.1)
  exact List.Perm.append_left ks this
end

/-- A variable, as a row of one element. -/
theorem dc_allocO {P : Program} {α : Type} {k : Kd α} {S : Nat → Prop} {w : World} {t e by_ base : Nat} {zs : List Value} {x0 : α} {ρ : En} {d : Option Tmp} {ty : TypeId} {pos : String} {af : Array Edge} {g : Option (Nat × Bool)} {kk : Value → World → Prop} (el : El P k t e by_) (hz : zeroOf P e = some zs) (hr : ∀ w, k.rep S w zs x0) (hbase : base ≤ w.heap.size) (hS : Sb S w)
    (h : ∀ b w', Ow k e S base w' (.slice (some ⟨b, 0, none⟩) 1 1) [x0] → (∀ q, Blk (.slice (some ⟨b, 0, none⟩) 1 1) q → w.heap.size ≤ q) → Up No w w' → kk (.pointer (some ⟨b, 0, none⟩)) w') :
    Does P ⟨d, .alloc e, ty, pos, af, g⟩ ρ w kk :=
  dc_alloc hz fun b w' h1 h2 up hb => h b w' (by
    have hl := k.len (hr w')
    refine ⟨zs, ⟨by simp [hl], .inr ⟨b, 1, zs.toArray, rfl, by omega, hb, by simp, by simp [maxLen], by simp [hl], by simp [← hl]⟩⟩, by simpa using Chk.cons (hr w') (Chk.nil (k := k) (S := S) (w := w')), by simp [lim], fun q hq hs => ?_⟩
    have hq : b = q := Option.some.inj hq
    have := hS q hs
    omega) (fun q hq => by have hq : b = q := Option.some.inj hq; omega) up
end Go.Mg
