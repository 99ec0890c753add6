/- Slices that are read, variables in memory, calls. -/
import Derived.Test.YtbkkobbjmhgkjaaDoorMgD
import Derived.Laws.Slices
namespace Go.Mg
open Go
variable {P : Program} {N : Nat} {Q : Ps} {ρ : En} {w : World} {ops : Array Oper} {K : En → World → Prop} {l : List Oper}
variable {d : Option Tmp} {ty : TypeId} {pos : String} {af : Array Edge} {g : Option (Nat × Bool)}
variable {α : Type} {k : Kd α} {S : Nat → Prop} {v : Value} {xs : List α}

/-- A type, as its kind says. -/
structure Ty (P : Program) (k : Kd α) (e by_ : Nat) : Prop where
  hi : ∃ i z, P.info? e = some i ∧ i.zero = some z ∧ i.size = k.sz ∧ i.bytes = by_ ∧ z.cells.size = k.sz
  hs : 0 < k.sz
  ag : (match P.underlying e with | some (.struct _) => some true | some (.array _ _) => some true | some _ => some false | none => none) = some k.agg
/-- A slice type, and its element's. -/
structure El (P : Program) (k : Kd α) (t e by_ : Nat) : Prop extends Ty P k e by_ where
  ht : P.underlying t = some (.slice e)

theorem Ty.isAgg {e by_ : Nat} (h : Ty P k e by_) : (isAgg e).run P w = .ok k.agg w := by
  have := h.ag
  unfold Go.isAgg
  cases hu : P.underlying e with
  | none => rw [hu] at this; simp at this
  | some d =>
    rw [hu] at this
    simp only [underlying, program, Sem.run_bind, Sem.run, hu, Result.andThen_ok, Sem.run_pure]
    cases d <;> simp_all
theorem Ty.size {e by_ : Nat} (h : Ty P k e by_) : (sizeOf e).run P w = .ok k.sz w := by
  obtain ⟨i, z, hi, _, hs, _⟩ := h.hi
  simp [sizeOf, typeInfo, program, hi, hs, Sem.run]

/-- Element i of a list, where it lies in it. -/
def at_ (xs : List α) (i : Int) : Option α := if 0 ≤ i then xs[i.toNat]? else none
theorem at_some {i : Int} {e : α} (h : at_ xs i = some e) : 0 ≤ i ∧ i < xs.length ∧ xs[i.toNat]? = some e := by
  unfold at_ at h
  by_cases hi : 0 ≤ i
  · rw [if_pos hi] at h
    have := (List.getElem?_eq_some_iff.1 h).1
    exact ⟨hi, by omega, h⟩
  · rw [if_neg hi] at h; cases h

def sb : Value → Nat
  | .slice (some a) _ _ => a.block
  | _ => 0
def so : Value → Nat
  | .slice (some a) _ _ => a.off
  | _ => 0

theorem Sl.len (h : Sl (kSl k) S w v xs) : ∃ A c, v = .slice A xs.length c :=
  let ⟨A, c, h1, _⟩ := sl_slice.1 h
  ⟨A, c, h1⟩
theorem Sl.lim (h : Sl (kSl k) S w v xs) : xs.length ≤ Mg.lim :=
  let ⟨_, _, _, _, h3, _⟩ := sl_slice.1 h
  h3

theorem addr_add (b o n : Nat) : (⟨b, o, none⟩ : Addr).add n = ⟨b, o + n, none⟩ := by unfold Addr.add; split <;> simp_all

section
variable {x y z : Operand} {t t2 e by_ : TypeId} {ik : IntKind} {i : Int}

theorem rv_lenS (el : El P k t e by_) (hs : Sl (kSl k) S w v xs) (hx : ev ρ x = v) :
    Rv P ⟨d, .call { callee := .builtin .len, args := #[x], argTypes := #[t] }, ty, pos, af, g⟩ ρ (.int .i64 (xs.length : Int)) := by
  obtain ⟨A, c, rfl⟩ := hs.len
  exact rv_len el.ht hx

theorem rv_index {u : α} (el : El P k t e by_) (hs : Sl (kSl k) S w v xs) (hx : ev ρ x = v) (hy : ev ρ y = .int ik i) (hi : at_ xs i = some u) :
    Rv P ⟨d, .indexAddr t x y, ty, pos, af, g⟩ ρ (.pointer (some ⟨sb v, so v + i.toNat * k.sz, none⟩)) := fun w' => by
  obtain ⟨h0, h1, h2⟩ := at_some hi
  obtain ⟨A, c, rfl, hc, hl, hr⟩ := sl_slice.1 hs
  rcases hr with rfl | ⟨b, off, rfl, hb, hr⟩
  · simp at h2
  · have hsz := el.toTy.size (w := w')
    simp only [execOp, hx, hy, Instr.indexAt, asIntOf, Sem.run_bind, Sem.run_pure, Result.andThen_ok, underlying, program, Sem.run, el.ht]
    rw [if_pos ⟨h0, h1⟩]
    simp only [Sem.run_bind, hsz, Result.andThen_ok, Sem.run_pure, sb, so, addr_add]

/-- An element's cells. -/
theorem Sl.cells {u : α} (hs : Sl (kSl k) S w v xs) (hi : at_ xs i = some u) :
    ∃ cs, k.rep S w cs u ∧ ∀ w', Sm S w w' → ∀ j c, cs[j]? = some c → w'.cell? ⟨sb v, so v + i.toNat * k.sz + j, none⟩ = some c := by
  obtain ⟨h0, h1, h2⟩ := at_some hi
  obtain ⟨A, c, rfl, hc, hl, hr⟩ := sl_slice.1 hs
  rcases hr with rfl | ⟨b, off, rfl, hb, hr⟩
  · simp at h2
  · obtain ⟨cs, h3, h4⟩ := hr _ _ h2
    exact ⟨cs, h3, fun w' hw j c hj => cell_same (h4 j c hj) (hw b hb)⟩

theorem run_loadTy {a : Addr} {cs : List Value} (T : Ty P k e by_) (hl : cs.length = k.sz) (ha : a.spot = none) (hc : ∀ j c, cs[j]? = some c → w.cell? ⟨a.block, a.off + j, none⟩ = some c) :
    (loadVar e a).run P w = .ok (k.val cs) w := by
  have hadd : ∀ j, a.add j = ⟨a.block, a.off + j, none⟩ := fun j => by
    obtain ⟨b, o, s⟩ := a; simp only at ha; subst ha; exact addr_add b o j
  unfold loadVar
  simp only [Sem.run_bind, T.isAgg, Result.andThen_ok]
  cases hag : k.agg with
  | true =>
    simp only [if_true, Sem.run_bind, T.size, Result.andThen_ok, Sem.run_pure, Kd.val, hag]
    rw [← hl, run_loadCells_list w a cs (fun j c hj => by rw [hadd]; exact hc j c hj)]
    rfl
  | false =>
    have h1 := k.sg hag
    rw [h1] at hl
    match cs, hl with
    | [c], _ =>
      have := hc 0 c rfl
      have e0 : (⟨a.block, a.off + 0, none⟩ : Addr) = a := by obtain ⟨b, o, s⟩ := a; simp only at ha; subst ha; rfl
      rw [e0] at this
      simp [Kd.val, hag, load, Sem.run, this]

/-- A load of an element. -/
theorem rw_load {u : α} (el : El P k t e by_) (hs : Sl (kSl k) S w v xs) (hi : at_ xs i = some u) (hx : ev ρ x = .pointer (some ⟨sb v, so v + i.toNat * k.sz, none⟩)) :
    ∃ r, Sl k S w r u ∧ ∀ w', Sm S w w' → Rw P ⟨d, .load e x, ty, pos, af, g⟩ ρ w' r := by
  obtain ⟨cs, hr, hc⟩ := hs.cells hi
  refine ⟨k.val cs, ⟨cs, rfl, hr⟩, fun w' hw => ?_⟩
  unfold Rw
  simp only [execOp, Instr.loadAt, Instr.sureAddr, hx, Sem.run_bind, Sem.run_pure, Result.andThen_ok]
  rw [run_loadTy el.toTy (k.len hr) rfl (hc w' hw)]
  rfl
theorem rw_loadC {enc : α → Value} {h1 : ∀ x, (enc x).oneCell' = true} {u : α} (el : El P (kSc enc h1) t e by_) (hs : Sl (kSl (kSc enc h1)) S w v xs) (hi : at_ xs i = some u) (hx : ev ρ x = .pointer (some ⟨sb v, so v + i.toNat * 1, none⟩)) :
    ∀ w', Sm S w w' → Rw P ⟨d, .load e x, ty, pos, af, g⟩ ρ w' (enc u) := by
  obtain ⟨r, hr, hc⟩ := rw_load (d := d) (ty := ty) (pos := pos) (af := af) (g := g) el hs hi hx
  rw [sl_sc.1 hr] at hc
  exact hc

/-! ### Parts of slices -/

/-- l[i:], l[:i], l[i:j], within the length. -/
def from_ (xs : List α) (i : Int) : Option (List α) := if 0 ≤ i ∧ i ≤ xs.length then some (xs.drop i.toNat) else none
def upto_ (xs : List α) (i : Int) : Option (List α) := if 0 ≤ i ∧ i ≤ xs.length then some (xs.take i.toNat) else none
def part_ (xs : List α) (i j : Int) : Option (List α) := if 0 ≤ i ∧ i ≤ j ∧ j ≤ xs.length then some ((xs.take j.toNat).drop i.toNat) else none

theorem Row.drop {b off n : Nat} (h : Row k S w b off xs) : Row k S w b (off + n * k.sz) (xs.drop n) := fun i x hx => by
  rw [List.getElem?_drop] at hx
  obtain ⟨cs, h1, h2⟩ := h _ _ hx
  refine ⟨cs, h1, fun j c hj => ?_⟩
  have := h2 j c hj
  rwa [show off + (n + i) * k.sz + j = off + n * k.sz + i * k.sz + j from by rw [Nat.add_mul]; omega] at this
theorem Row.take {b off n : Nat} (h : Row k S w b off xs) : Row k S w b off (xs.take n) := fun i x hx => by
  rw [List.getElem?_take] at hx
  split at hx
  · exact h i x hx
  · cases hx

theorem rv_part {kl kh : IntKind} {lo hi : Int} {r : List α} (el : El P k t e by_) (hs : Sl (kSl k) S w v xs) (hx : ev ρ x = v) (hy : ev ρ y = .int kl lo) (hz : ev ρ z = .int kh hi) (h : part_ xs lo hi = some r) :
    ∃ u, Sl (kSl k) S w u r ∧ Rv P ⟨d, .slice t x (some y) (some z) none, ty, pos, af, g⟩ ρ u := by
  unfold part_ at h
  split at h
  case isFalse => cases h
  rename_i hb
  obtain ⟨h0, h1, h2⟩ := hb
  cases h
  obtain ⟨A, c, rfl, hc, hl, hr⟩ := sl_slice.1 hs
  refine ⟨.slice (if c = lo.toNat then A else A.map (·.add (lo.toNat * k.sz))) (hi.toNat - lo.toNat) (c - lo.toNat), ?_, fun w' => ?_⟩
  · have hlen : ((xs.take hi.toNat).drop lo.toNat).length = hi.toNat - lo.toNat := by rw [List.length_drop, List.length_take]; omega
    refine sl_slice.2 ⟨_, _, by rw [hlen], by rw [hlen]; omega, by rw [hlen]; omega, ?_⟩
    rcases hr with rfl | ⟨b, off, rfl, hb, hr⟩
    · exact .inl (by simp)
    · by_cases hcl : c = lo.toNat
      · left
        apply List.eq_nil_of_length_eq_zero
        rw [hlen]; omega
      · refine .inr ⟨b, off + lo.toNat * k.sz, by rw [if_neg hcl, Option.map_some, addr_add], hb, hr.take.drop⟩
  · have hsz := el.toTy.size (w := w')
    have e1 : (Instr.sliceBound (.int kh hi) c .sliceAcap).run P w' = .ok hi.toNat w' := run_sliceBound w' kh hi c _ (by omega) (by omega)
    have e2 : (Instr.sliceBound (.int kl lo) hi.toNat .sliceB).run P w' = .ok lo.toNat w' := run_sliceBound w' kl lo hi.toNat _ (by omega) (by omega)
    simp only [execOp, hx, hy, hz, Option.map_some, Option.map_none, Instr.sliceAt, Instr.slice, underlying, program, Sem.run_bind, Sem.run, el.ht, Result.andThen_ok, Sem.run_pure, Instr.sliceBounds,
      if_true, Option.isSome_none, Bool.false_eq_true, if_false, e1, e2, hsz]

theorem part_from {i : Int} : from_ xs i = part_ xs i xs.length := by
  unfold from_ part_
  by_cases h : 0 ≤ i ∧ i ≤ xs.length
  · rw [if_pos h, if_pos ⟨h.1, h.2, Int.le_refl _⟩]; simp
  · rw [if_neg h, if_neg (fun h' => h ⟨h'.1, h'.2.1⟩)]
theorem part_upto {i : Int} : upto_ xs i = part_ xs 0 i := by
  unfold upto_ part_
  by_cases h : 0 ≤ i ∧ i ≤ xs.length
  · rw [if_pos h, if_pos ⟨Int.le_refl _, h.1, h.2⟩]; simp
  · rw [if_neg h, if_neg (fun h' => h ⟨h'.2.1, h'.2.2⟩)]

theorem rv_from {kl : IntKind} {lo : Int} {r : List α} (el : El P k t e by_) (hs : Sl (kSl k) S w v xs) (hx : ev ρ x = v) (hy : ev ρ y = .int kl lo) (h : from_ xs lo = some r) :
    ∃ u, Sl (kSl k) S w u r ∧ Rv P ⟨d, .slice t x (some y) none none, ty, pos, af, g⟩ ρ u := by
  unfold from_ at h
  split at h
  case isFalse => cases h
  rename_i hb
  obtain ⟨h0, h1⟩ := hb
  cases h
  obtain ⟨A, c, rfl, hc, hl, hr⟩ := sl_slice.1 hs
  refine ⟨.slice (if c = lo.toNat then A else A.map (·.add (lo.toNat * k.sz))) (xs.length - lo.toNat) (c - lo.toNat), ?_, fun w' => ?_⟩
  · have hlen : (xs.drop lo.toNat).length = xs.length - lo.toNat := List.length_drop ..
    refine sl_slice.2 ⟨_, _, by rw [hlen], by rw [hlen]; omega, by rw [hlen]; omega, ?_⟩
    rcases hr with rfl | ⟨b, off, rfl, hb, hr⟩
    · exact .inl (by simp)
    · by_cases hcl : c = lo.toNat
      · left
        apply List.eq_nil_of_length_eq_zero
        rw [hlen]; omega
      · exact .inr ⟨b, off + lo.toNat * k.sz, by rw [if_neg hcl, Option.map_some, addr_add], hb, hr.drop⟩
  · have hsz := el.toTy.size (w := w')
    have e2 : (Instr.sliceBound (.int kl lo) xs.length .sliceB).run P w' = .ok lo.toNat w' := run_sliceBound w' kl lo xs.length _ (by omega) (by omega)
    simp only [execOp, hx, hy, Option.map_some, Option.map_none, Instr.sliceAt, Instr.slice, underlying, program, Sem.run_bind, Sem.run, el.ht, Result.andThen_ok, Sem.run_pure, Instr.sliceBounds,
      Option.isSome_none, Bool.false_eq_true, if_false, e2, hsz]

theorem rv_upto {kh : IntKind} {hi : Int} {r : List α} (el : El P k t e by_) (hs : Sl (kSl k) S w v xs) (hx : ev ρ x = v) (hz : ev ρ z = .int kh hi) (h : upto_ xs hi = some r) :
    ∃ u, Sl (kSl k) S w u r ∧ Rv P ⟨d, .slice t x none (some z) none, ty, pos, af, g⟩ ρ u := by
  unfold upto_ at h
  split at h
  case isFalse => cases h
  rename_i hb
  obtain ⟨h0, h1⟩ := hb
  cases h
  obtain ⟨A, c, rfl, hc, hl, hr⟩ := sl_slice.1 hs
  refine ⟨.slice (if c = 0 then A else A.map (·.add (0 * k.sz))) (hi.toNat - 0) (c - 0), ?_, fun w' => ?_⟩
  · have hlen : (xs.take hi.toNat).length = hi.toNat := by rw [List.length_take]; omega
    refine sl_slice.2 ⟨_, _, by rw [hlen]; rfl, by rw [hlen]; omega, by rw [hlen]; omega, ?_⟩
    rcases hr with rfl | ⟨b, off, rfl, hb, hr⟩
    · exact .inl (by simp)
    · refine .inr ⟨b, off, ?_, hb, hr.take⟩
      split
      · rfl
      · rw [Nat.zero_mul, Option.map_some, addr_add]
        rfl
  · have hsz := el.toTy.size (w := w')
    have e1 : (Instr.sliceBound (.int kh hi) c .sliceAcap).run P w' = .ok hi.toNat w' := run_sliceBound w' kh hi c _ (by omega) (by omega)
    simp only [execOp, hx, hz, Option.map_some, Option.map_none, Instr.sliceAt, Instr.slice, underlying, program, Sem.run_bind, Sem.run, el.ht, Result.andThen_ok, Sem.run_pure, Instr.sliceBounds,
      if_true, Option.isSome_none, Bool.false_eq_true, if_false, e1, hsz]

/-! ### Calls -/

/-- A function that can be entered. -/
def CanE (P : Program) (f : FuncId) : Bool := match P.funcs[f]? with
  | some fn => fn.name != "runtime.NumGoroutine" && fn.body.isSome
  | none => false

theorem dc_call {f : FuncId} {as : List Operand} {ts : Array TypeId} {vs : List Value} {kk : Value → World → Prop} (hc : CanE P f = true) (hv : as.map (ev ρ) = vs)
    (h : Calls P f vs.toArray w fun e w' => ∃ v, e = .returned v ∧ kk v w') :
    Does P ⟨d, .call { callee := .value (.func f), args := as.toArray, argTypes := ts }, ty, pos, af, g⟩ ρ w kk := by
  subst hv
  unfold CanE at hc
  cases hf : P.funcs[f]? with
  | none => rw [hf] at hc; cases hc
  | some fn =>
    rw [hf] at hc
    simp only [Bool.and_eq_true, bne_iff_ne, ne_eq] at hc
    obtain ⟨h1, h2⟩ := hc
    have hbn : fn.body.isNone = false := by cases hb : fn.body with
      | none => rw [hb] at h2; cases h2
      | some _ => rfl
    have hrun : (execOp (ev ρ) ⟨d, .call { callee := .value (.func f), args := as.toArray, argTypes := ts }, ty, pos, af, g⟩).run P w = .ok (.enter f (as.map (ev ρ)).toArray) w := by
      simp only [execOp, resolve, ev, Deferred.ofValue, Sem.run_bind, Sem.run_pure, Result.andThen_ok, invoke, callFunc, program, Sem.run, hf, hbn, List.map_toArray]
      simp [h1]
    unfold Does
    rw [hrun]
    exact h

end
end Go.Mg
