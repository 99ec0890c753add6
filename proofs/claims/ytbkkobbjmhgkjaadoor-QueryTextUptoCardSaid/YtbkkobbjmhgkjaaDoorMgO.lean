/- Own slices: a store to an element, a prefix that is still one's own. -/
import Derived.Test.YtbkkobbjmhgkjaaDoorMgH
namespace Go.Mg
open Go
variable {P : Program} {w : World} {α : Type} {k : Kd α} {S : Nat → Prop} {v u : Value} {xs : List α} {e base : Nat}

theorem Chk.take {cs : List Value} (h : Chk k S w cs xs) : ∀ n, Chk k S w (cs.take (n * k.sz)) (xs.take n) := by
  induction h with
  | nil => intro n; simpa using Chk.nil
  | @cons c cs x xs h1 _ ih =>
    intro n
    cases n with
    | zero => simpa using Chk.nil
    | succ n =>
      have hl := k.len h1
      rw [List.take_succ_cons, List.take_append, List.take_of_length_le (by rw [hl, Nat.succ_mul]; omega)]
      rw [show (n + 1) * k.sz - c.length = n * k.sz from by rw [hl, Nat.succ_mul]; omega]
      exact .cons h1 (ih n)
theorem Chk.drop {cs : List Value} (h : Chk k S w cs xs) : ∀ n, Chk k S w (cs.drop (n * k.sz)) (xs.drop n) := by
  induction h with
  | nil => intro n; simpa using Chk.nil
  | @cons c cs x xs h1 h2 ih =>
    intro n
    cases n with
    | zero => simpa using Chk.cons h1 h2
    | succ n =>
      have hl := k.len h1
      rw [List.drop_succ_cons, List.drop_append, List.drop_eq_nil_of_le (as := c) (by rw [hl, Nat.succ_mul]; omega), List.nil_append]
      rw [show (n + 1) * k.sz - c.length = n * k.sz from by rw [hl, Nat.succ_mul]; omega]
      exact ih n
theorem Chk.set {cs d : List Value} {y : α} (h : Chk k S w cs xs) {i : Nat} (hi : i < xs.length) (hd : k.rep S w d y) :
    Chk k S w (cs.take (i * k.sz) ++ d ++ cs.drop (i * k.sz + k.sz)) (xs.set i y) := by
  have h1 := h.take i
  have h2 := h.drop (i + 1)
  rw [Nat.succ_mul] at h2
  rw [List.set_eq_take_append_cons_drop, if_pos hi, List.append_assoc]
  exact h1.append (.cons hd h2)

theorem rv_pre {A : Option Addr} {n c : Nat} {i : Int} {t by_ : Nat} (el : El P k t e by_) (h0 : 0 ≤ i) (h1 : i.toNat ≤ c) {ρ : En} {d : Option Tmp} {ty : TypeId} {pos : String} {af : Array Edge} {g : Option (Nat × Bool)} {x z : Operand} {kh : IntKind}
    (hx : ev ρ x = .slice A n c) (hz : ev ρ z = .int kh i) : Rv P ⟨d, .slice t x none (some z) none, ty, pos, af, g⟩ ρ (.slice (if c = 0 then A else A.map (·.add (0 * k.sz))) (i.toNat - 0) (c - 0)) := fun w' => by
  have hsz := el.toTy.size (w := w')
  have e1 : (Instr.sliceBound (.int kh i) c .sliceAcap).run P w' = .ok i.toNat w' := run_sliceBound w' kh i c _ (by omega) (by omega)
  simp only [execOp, hx, hz, Option.map_some, Option.map_none, Instr.sliceAt, Instr.slice, underlying, program, Sem.run_bind, Sem.run, el.ht, Result.andThen_ok, Sem.run_pure, Instr.sliceBounds,
    if_true, Option.isSome_none, Bool.false_eq_true, if_false, e1, hsz]

/-- A prefix. -/
theorem Ow.upto {i : Int} {ys : List α} (h : Ow k e S base w v xs) (hi : upto_ xs i = some ys) {t by_ : Nat} (el : El P k t e by_) :
    ∃ u, Ow k e S base w u ys ∧ (∀ b, Blk u b → Blk v b) ∧ ∀ {ρ : En} {d : Option Tmp} {ty : TypeId} {pos : String} {af : Array Edge} {g : Option (Nat × Bool)} {x z : Operand} {kh : IntKind},
      ev ρ x = v → ev ρ z = .int kh i → Rv P ⟨d, .slice t x none (some z) none, ty, pos, af, g⟩ ρ u := by
  unfold upto_ at hi
  split at hi
  case isFalse => cases hi
  rename_i hb
  cases hi
  obtain ⟨cs, ⟨h1, h1'⟩, h2, h3, h4⟩ := h
  have hle : i.toNat ≤ xs.length := by omega
  rcases h1' with ⟨rfl, hn⟩ | ⟨g, cap, cur, rfl, hbg, hg, hnc, hcm, hcs, htk⟩
  · have : xs = [] := List.eq_nil_of_length_eq_zero hn
    subst this
    have hi0 : i = 0 := by simp at hb; omega
    subst hi0
    exact ⟨.slice none 0 0, by simpa using Ow.nil k e S base w, fun b hb => hb, fun hx hz => rv_pre el (Int.le_refl _) (Nat.le_refl _) hx hz⟩
  · refine ⟨.slice (some ⟨g, 0, none⟩) i.toNat cap, ⟨cs.take (i.toNat * k.sz), ⟨?_, .inr ⟨g, cap, cur, ?_, hbg, hg, by rw [List.length_take]; omega, hcm, hcs, ?_⟩⟩, h2.take _, ?_, fun b hb => h4 b hb⟩, fun b hb => hb, fun {ρ d ty pos af g0 x z kh} hx hz => ?_⟩
    · rw [List.length_take, List.length_take, h1, Nat.min_eq_left (Nat.mul_le_mul_right _ hle), Nat.min_eq_left hle]
    · rw [List.length_take, Nat.min_eq_left hle]
    · rw [List.length_take, Nat.min_eq_left hle, ← htk, List.take_take, Nat.min_eq_left (Nat.mul_le_mul_right _ hle)]
    · exact Nat.le_trans (by rw [List.length_take]; exact Nat.min_le_right _ _) h3
    · have := rv_pre (d := d) (ty := ty) (pos := pos) (af := af) (g := g0) el hb.1 (by omega : i.toNat ≤ cap) hx hz
      have e1 : (if cap = 0 then (some ⟨g, 0, none⟩ : Option Addr) else (some (⟨g, 0, none⟩ : Addr)).map (·.add (0 * k.sz))) = some ⟨g, 0, none⟩ := by
        split
        · rfl
        · simp [Addr.add]
      rw [e1] at this
      exact this

theorem take_splice {β : Type} (L ds : List β) (a m : Nat) (h : a + ds.length ≤ m) (hm : m ≤ L.length) :
    (L.take a ++ ds ++ L.drop (a + ds.length)).take m = (L.take m).take a ++ ds ++ (L.take m).drop (a + ds.length) := by
  have e1 : (L.take a).length = a := by rw [List.length_take]; omega
  have e2 : ((L.take m).take a).length = a := by rw [List.length_take, List.length_take]; omega
  apply List.ext_getElem?
  intro j
  rw [List.getElem?_take]
  by_cases hj : j < m
  · rw [if_pos hj]
    by_cases h1 : j < a
    · rw [List.append_assoc, List.append_assoc, List.getElem?_append_left (by omega), List.getElem?_append_left (by omega), List.getElem?_take, List.getElem?_take, List.getElem?_take, if_pos h1, if_pos h1, if_pos hj]
    · by_cases h2 : j < a + ds.length
      · have hA : (L.take a ++ ds ++ L.drop (a + ds.length))[j]? = ds[j - a]? := by
          rw [List.append_assoc, List.getElem?_append_right (by omega), e1, List.getElem?_append_left (by omega)]
        have hB : ((L.take m).take a ++ ds ++ (L.take m).drop (a + ds.length))[j]? = ds[j - a]? := by
          rw [List.append_assoc, List.getElem?_append_right (by omega), e2, List.getElem?_append_left (by omega)]
        rw [hA, hB]
      · have hA : (L.take a ++ ds ++ L.drop (a + ds.length))[j]? = L[j]? := by
          rw [List.getElem?_append_right (by rw [List.length_append]; omega), List.length_append, e1, List.getElem?_drop, show a + ds.length + (j - (a + ds.length)) = j from by omega]
        have hB : ((L.take m).take a ++ ds ++ (L.take m).drop (a + ds.length))[j]? = L[j]? := by
          rw [List.getElem?_append_right (by rw [List.length_append]; omega), List.length_append, e2, List.getElem?_drop, show a + ds.length + (j - (a + ds.length)) = j from by omega, List.getElem?_take, if_pos hj]
        rw [hA, hB]
  · rw [if_neg hj, List.getElem?_eq_none]
    rw [List.length_append, List.length_append, e2, List.length_drop, List.length_take]
    omega

/-- A store to an element. -/
theorem dc_storeO {t by_ : Nat} {i : Int} {y : α} {z : α} {ρ : En} {d : Option Tmp} {ty : TypeId} {pos : String} {af : Array Edge} {g : Option (Nat × Bool)} {x q : Operand} {kk : Value → World → Prop}
    (el : El P k t e by_) (ho : Ow k e S base w v xs) (hi : at_ xs i = some z) (hx : ev ρ x = .pointer (some ⟨sb v, so v + i.toNat * k.sz, none⟩)) (hq : ev ρ q = u) (hu : Sl k S w u y)
    (h : ∀ w', Ow k e S base w' v (xs.set i.toNat y) → Up (Blk v) w w' → kk undef w') : Does P ⟨d, .store e x q, ty, pos, af, g⟩ ρ w kk := by
  obtain ⟨h0, hl, _⟩ := at_some hi
  obtain ⟨cs, ⟨h1, h1'⟩, h2, h3, h4⟩ := ho
  obtain ⟨ds, hv, hr⟩ := hu
  have hcells := k.val_cells hr
  rw [← hv] at hcells
  rcases h1' with ⟨rfl, hn⟩ | ⟨gb, cap, cur, rfl, hbg, hg, hnc, hcm, hcs, htk⟩
  · omega
  · have hdl := k.len hr
    have hil : i.toNat < xs.length := by omega
    have hfit : i.toNat * k.sz + k.sz ≤ xs.length * k.sz := by rw [← Nat.succ_mul]; exact Nat.mul_le_mul_right _ hil
    have hfit2 : xs.length * k.sz ≤ cap * k.sz := Nat.mul_le_mul_right _ hnc
    have hcl : cur.toList.length = cap * k.sz := by simpa using hcs
    have hst := run_storeCells_at P gb (i.toNat * k.sz) e ds 0 cur w hg (by rw [hdl, hcs]; omega) (k.one hr)
    have hrun : ∃ r : Array Value, r.toList = cur.toList.take (i.toNat * k.sz) ++ ds ++ cur.toList.drop (i.toNat * k.sz + k.sz) ∧ (execOp (ev ρ) ⟨d, .store e x q, ty, pos, af, g⟩).run P w = .ok .skip (w.setRow gb r) := by
      have hx' : ev ρ x = .pointer (some ⟨gb, i.toNat * k.sz, none⟩) := by rw [hx]; simp [sb, so]
      refine ⟨_, rfl, ?_⟩
      simp only [Nat.add_zero, hdl] at hst
      simp only [execOp, Instr.storeAt, Instr.sureAddr, hx', hq, Sem.run_bind, Sem.run_pure, Result.andThen_ok, storeVar, el.toTy.size, hcells]
      simp only [List.size_toArray, hdl, ne_eq, not_true_eq_false, if_false]
      simpa using congrArg (fun r => Result.andThen r fun _ w' => Result.ok Next.skip w') hst
    obtain ⟨r, hr1, hrun⟩ := hrun
    unfold Does
    rw [hrun]
    have hset := h2.set hil hr
    have up : Up (Blk (.slice (some ⟨gb, 0, none⟩) xs.length cap)) w (w.setRow gb r) := ⟨rfl, rfl, rfl, by simp, fun b _ hb => setRow_other w gb b r fun e => hb (by subst e; rfl)⟩
    refine h _ ⟨cs.take (i.toNat * k.sz) ++ ds ++ cs.drop (i.toNat * k.sz + k.sz), ⟨?_, .inr ⟨gb, cap, r, by rw [List.length_set], hbg, setRow_heap w gb cur r e _ hg, by rw [List.length_set]; exact hnc, hcm, ?_, ?_⟩⟩, ?_, by rw [List.length_set]; exact h3, h4⟩ up
    · rw [List.length_set, List.length_append, List.length_append, List.length_take, List.length_drop, hdl, h1]; omega
    · rw [← Array.length_toList, hr1, List.length_append, List.length_append, List.length_take, List.length_drop, hdl, hcl]; omega
    · rw [hr1, List.length_set, ← htk]
      have := take_splice cur.toList ds (i.toNat * k.sz) (xs.length * k.sz) (by omega) (by omega)
      rw [hdl] at this
      exact this
    · exact hset.to (fun _ h => h) (up.sm fun b hb _ hB => h4 b hB hb)

theorem rv_suf {A : Option Addr} {n c : Nat} {i : Int} {t by_ : Nat} (el : El P k t e by_) (h0 : 0 ≤ i) (h1 : i.toNat ≤ n) (hc : n ≤ c) {ρ : En} {d : Option Tmp} {ty : TypeId} {pos : String} {af : Array Edge} {g : Option (Nat × Bool)} {x y : Operand} {kl : IntKind}
    (hx : ev ρ x = .slice A n c) (hy : ev ρ y = .int kl i) : Rv P ⟨d, .slice t x (some y) none none, ty, pos, af, g⟩ ρ (.slice (if c = i.toNat then A else A.map (·.add (i.toNat * k.sz))) (n - i.toNat) (c - i.toNat)) := fun w' => by
  have hsz := el.toTy.size (w := w')
  have e2 : (Instr.sliceBound (.int kl i) n .sliceB).run P w' = .ok i.toNat w' := run_sliceBound w' kl i n _ (by omega) (by omega)
  simp only [execOp, hx, hy, Option.map_some, Option.map_none, Instr.sliceAt, Instr.slice, underlying, program, Sem.run_bind, Sem.run, el.ht, Result.andThen_ok, Sem.run_pure, Instr.sliceBounds,
    Option.isSome_none, Bool.false_eq_true, if_false, e2, hsz]

/-- The rest of an own slice: read, and appended from. -/
theorem Ow.fromO {i : Int} {ys : List α} (h : Ow k e S base w v xs) (hi : from_ xs i = some ys) {t by_ : Nat} (el : El P k t e by_) :
    ∃ u, Sl (kSl k) (Or S (Blk v)) w u ys ∧ Src k S w u ys ∧ ∀ {ρ : En} {d : Option Tmp} {ty : TypeId} {pos : String} {af : Array Edge} {g : Option (Nat × Bool)} {x z : Operand} {kh : IntKind},
      ev ρ x = v → ev ρ z = .int kh i → Rv P ⟨d, .slice t x (some z) none none, ty, pos, af, g⟩ ρ u := by
  have hsrc := h.src
  obtain ⟨A, c, rfl, hc, hl, hr⟩ := sl_slice.1 h.sealed
  obtain ⟨A', c', hv, hr2⟩ := hsrc
  cases hv
  unfold from_ at hi
  split at hi
  case isFalse => cases hi
  rename_i hb
  obtain ⟨h0, h1⟩ := hb
  cases hi
  have hlen : (xs.drop i.toNat).length = xs.length - i.toNat := List.length_drop ..
  refine ⟨.slice (if c = i.toNat then A else A.map (·.add (i.toNat * k.sz))) (xs.length - i.toNat) (c - i.toNat), ?_, ⟨_, _, by rw [hlen], ?_⟩, fun {ρ d ty pos af g x z kh} hx hz => rv_suf el h0 (by omega) hc hx hz⟩
  · refine sl_slice.2 ⟨_, _, by rw [hlen], by rw [hlen]; omega, by rw [hlen]; omega, ?_⟩
    rcases hr with rfl | ⟨b, off, rfl, hb, hr⟩
    · exact .inl (by simp)
    · by_cases hcl : c = i.toNat
      · left
        apply List.eq_nil_of_length_eq_zero
        rw [hlen]; omega
      · exact .inr ⟨b, off + i.toNat * k.sz, by rw [if_neg hcl, Option.map_some, addr_add], hb, hr.drop⟩
  · rcases hr2 with rfl | ⟨b, off, rfl, hr2⟩
    · exact .inl (by simp)
    · by_cases hcl : c = i.toNat
      · left
        apply List.eq_nil_of_length_eq_zero
        rw [hlen]; omega
      · exact .inr ⟨b, off + i.toNat * k.sz, by rw [if_neg hcl, Option.map_some, addr_add], hr2.drop⟩

/-- A call of a function value that captures nothing. -/
theorem dc_callV {ρ : En} {q : Operand} {d : Option Tmp} {ty : TypeId} {pos : String} {af : Array Edge} {g : Option (Nat × Bool)} {f : FuncId} {as : List Operand} {ts : Array TypeId} {vs : List Value} {kk : Value → World → Prop} (hq : ev ρ q = .func (.func f) #[] #[]) (hc : CanE P f = true) (hv : as.map (ev ρ) = vs)
    (h : Calls P f vs.toArray w fun e w' => ∃ v, e = .returned v ∧ kk v w') :
    Does P ⟨d, .call { callee := .value q, args := as.toArray, argTypes := ts }, ty, pos, af, g⟩ ρ w kk := by
  have h0 := dc_call (P := P) (ρ := ρ) (d := d) (ty := ty) (pos := pos) (af := af) (g := g) (ts := ts) hc hv h
  have e : (execOp (ev ρ) ⟨d, .call { callee := .value q, args := as.toArray, argTypes := ts }, ty, pos, af, g⟩) = (execOp (ev ρ) ⟨d, .call { callee := .value (.func f), args := as.toArray, argTypes := ts }, ty, pos, af, g⟩) := by
    have e2 : ev ρ (.func f) = .func (.func f) #[] #[] := rfl
    simp only [execOp, resolve, hq, e2]
  unfold Does at *
  rw [e]
  exact h0
end Go.Mg
