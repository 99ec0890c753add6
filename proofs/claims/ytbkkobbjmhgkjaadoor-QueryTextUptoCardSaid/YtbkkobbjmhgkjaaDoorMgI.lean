/- copy, cap, overlaps: for a walk through the library's Insert. -/
import Derived.Test.YtbkkobbjmhgkjaaDoorMgW
import Derived.Laws.CopyRow
import Derived.Lib.AppendZerosOnto
import Derived.Lib.Overlaps
namespace Go.Mg
open Go
set_option linter.unusedVariables false
section
variable {P : Program} {ρ : En} {w : World} {d : Option Tmp} {ty : TypeId} {pos : String} {af : Array Edge} {g0 : Option (Nat × Bool)} {kk : Value → World → Prop} {x y : Operand} {t t2 : TypeId}

theorem run_copy_rowK (w : World) (dT sT ty elem : TypeId) (g o dLen dCap : Nat) (a : Addr) (sLen sCap : Nat) (cur : Array Value) (t : TypeId) (cs : List Value) (sz : Nat)
    (hu : P.underlying dT = some (.slice elem)) (hs : (P.info? elem).map (·.size) = some sz) (hg : w.heap[g]? = some (.cells cur t (0, 0))) (hn : cs.length = Nat.min sLen dLen * sz)
    (hsrc : ∀ j v, cs[j]? = some v → w.cell? (a.add j) = some v) (hfit : o + cs.length ≤ cur.size) (h1 : ∀ v ∈ cs, v.oneCell' = true) :
    (Builtin.copy_ #[dT, sT] ty #[.slice (some ⟨g, o, none⟩) dLen dCap, .slice (some a) sLen sCap]).run P w = .ok (goInt (Nat.min sLen dLen)) (w.setRow g (cur.toList.take o ++ cs ++ cur.toList.drop (o + cs.length)).toArray) := by
  have hl := run_loadCells_list (P := P) w a cs hsrc
  have hst := run_storeCells_at P g o t cs 0 cur w hg (by simpa using hfit) h1
  cases hq : P.info? elem with
  | none => simp [hq] at hs
  | some i =>
    have hi : i.size = sz := by simpa [hq] using hs
    simp [Builtin.copy_, run_underlying hu, Builtin.lenOf, Builtin.firstCells, sizeOf, typeInfo, hq, hi, ← hn, hl, hst]

theorem dc_copyR {elem sz g o dl dc sl sc : Nat} {a : Addr} {cur : Array Value} {et : TypeId} {cs : List Value} (hu : P.underlying t = some (.slice elem)) (hs : (P.info? elem).map (·.size) = some sz) (hg : w.heap[g]? = some (.cells cur et (0, 0)))
    (hx : ev ρ x = .slice (some ⟨g, o, none⟩) dl dc) (hy : ev ρ y = .slice (some a) sl sc) (hn : cs.length = Nat.min sl dl * sz) (hsrc : ∀ j v, cs[j]? = some v → w.cell? (a.add j) = some v) (hfit : o + cs.length ≤ cur.size) (h1 : ∀ v ∈ cs, v.oneCell' = true)
    (h : kk (goInt (Nat.min sl dl)) (w.setRow g (cur.toList.take o ++ cs ++ cur.toList.drop (o + cs.length)).toArray)) :
    Does P ⟨d, .call { callee := .builtin .copy, args := #[x, y], argTypes := #[t, t2] }, ty, pos, af, g0⟩ ρ w kk := by
  have := run_copy_rowK (P := P) w t t2 ty elem g o dl dc a sl sc cur et cs sz hu hs hg hn hsrc hfit h1
  unfold Does
  simp only [execOp, resolve, invoke, builtin, Sem.run_bind, Sem.run_pure, Result.andThen_ok, List.map_toArray, List.map_cons, List.map_nil, hx, hy, this]
  exact h

theorem rv_cap {e : TypeId} {A : Option Addr} {n c : Nat} (ht : P.underlying t = some (.slice e)) (hx : ev ρ x = .slice A n c) : Rv P ⟨d, .call { callee := .builtin .cap, args := #[x], argTypes := #[t] }, ty, pos, af, g0⟩ ρ (.int .i64 (c : Int)) := fun w => by
  have : (Builtin.cap_ #[t] ty #[.slice A n c]).run P w = .ok (goInt c) w := by simp [Builtin.cap_, run_underlying ht]
  simp only [execOp, resolve, invoke, builtin, Sem.run_bind, Sem.run_pure, Result.andThen_ok, List.map_toArray, List.map_cons, List.map_nil, hx, this]
  rfl

theorem dc_ext {f : FuncId} {as : List Operand} {ts : Array TypeId} {vs : List Value} {r : Value} {w' : World} (hv : as.map (ev ρ) = vs) (hr : (callFunc f vs.toArray).run P w = .ok (.value r) w') (h : kk r w') :
    Does P ⟨d, .call { callee := .value (.func f), args := as.toArray, argTypes := ts }, ty, pos, af, g0⟩ ρ w kk := by
  subst hv
  have hrun : (execOp (ev ρ) ⟨d, .call { callee := .value (.func f), args := as.toArray, argTypes := ts }, ty, pos, af, g0⟩).run P w = .ok (.value r) w' := by
    simp only [execOp, resolve, ev, Deferred.ofValue, Sem.run_bind, Sem.run_pure, Result.andThen_ok, invoke, List.map_toArray]
    simpa using hr
  unfold Does
  rw [hrun]
  exact h

theorem dc_append_zeros {tn e : TypeId} {inf : TypeInfo} {z : Value} {kq kn : IntKind} {base : Option Addr} {n c m : Nat} {olds : List Value} (ht : P.underlying t = some (.slice e)) (htn : P.underlying tn = some (.int kn)) (hi : P.info? e = some inf) (hz : inf.zero = some z)
    (hold : (Builtin.firstCells inf.size n (.slice base n c)).run P w.drew = .ok olds.toArray w.drew) (h0 : 0 < m) (hs : 0 < inf.size) (hg : c < n + m) (h63 : ((n + m : Nat) : Int) ≤ 9223372036854775807) (h48 : m * inf.bytes ≤ 281474976710656)
    (hfit : Builtin.nextslicecap (n + m) c * inf.bytes ≤ 281474976710656) (hx : ev ρ x = .slice base n c) (hy : ev ρ y = .int kq (m : Int))
    (h : kk (.slice (some ⟨w.heap.size, 0, none⟩) (n + m) (grownCap w (n + m) c e)) (w.drew.alloc (.cells (olds.toArray ++ Builtin.zeroCells z.cells m ++ Builtin.zeroCells z.cells (grownCap w (n + m) c e - (n + m))) e))) :
    Does P ⟨d, .call { callee := .builtin .append, args := #[x, y], argTypes := #[t, tn] }, ty, pos, af, g0⟩ ρ w kk := by
  have := Lib.run_append_grow_zeros (P := P) w t tn ty e inf z kq kn ht htn hi hz base n c olds hold m h0 hs hg h63 h48 hfit
  unfold Does
  simp only [execOp, resolve, invoke, builtin, Sem.run_bind, Sem.run_pure, Result.andThen_ok, List.map_toArray, List.map_cons, List.map_nil, hx, hy, this]
  exact h
end

section
variable {P : Program} {ρ : En} {w : World} {d : Option Tmp} {ty : TypeId} {pos : String} {af : Array Edge} {g0 : Option (Nat × Bool)} {x y z : Operand} {α : Type} {k : Kd α} {t e by_ : TypeId} {g n c i : Nat} {kl : IntKind}
theorem rv_preG (el : El P k t e by_) (hi : i ≤ c) (hx : ev ρ x = .slice (some ⟨g, 0, none⟩) n c) (hz : ev ρ z = .int kl (i : Int)) : Rv P ⟨d, .slice t x none (some z) none, ty, pos, af, g0⟩ ρ (.slice (some ⟨g, 0, none⟩) i c) := by
  have := rv_pre (d := d) (ty := ty) (pos := pos) (af := af) (g := g0) (i := (i : Int)) el (by omega) (by simpa using hi) hx hz
  have e1 : (if c = 0 then (some ⟨g, 0, none⟩ : Option Addr) else (some (⟨g, 0, none⟩ : Addr)).map (·.add (0 * k.sz))) = some ⟨g, 0, none⟩ := by
    split
    · rfl
    · simp [Addr.add]
  rw [e1] at this
  simpa using this
theorem rv_sufG (el : El P k t e by_) (hi : i ≤ n) (hn : n ≤ c) (hc : i < c) (hx : ev ρ x = .slice (some ⟨g, 0, none⟩) n c) (hy : ev ρ y = .int kl (i : Int)) : Rv P ⟨d, .slice t x (some y) none none, ty, pos, af, g0⟩ ρ (.slice (some ⟨g, i * k.sz, none⟩) (n - i) (c - i)) := by
  have := rv_suf (d := d) (ty := ty) (pos := pos) (af := af) (g := g0) (i := (i : Int)) el (by omega) (by simpa using hi) hn hx hy
  simp only [Int.toNat_natCast] at this
  rw [if_neg (by omega), Option.map_some, addr_add, Nat.zero_add] at this
  exact this
theorem zeroCells_len (z : Array Value) (n : Nat) : (Builtin.zeroCells z n).toList.length = n * z.size := by simp [Builtin.zeroCells]
theorem zeroCells_size (z : Array Value) (n : Nat) : (Builtin.zeroCells z n).size = n * z.size := by simp [Builtin.zeroCells]
end

/-- A list with an element put in, where memory bears it. -/
def insert_ {α : Type} (by_ : Nat) (xs : List α) (i : Int) (ys : List α) : Option (List α) :=
  match ys with
  | [y] => if 0 ≤ i ∧ i ≤ (xs.length : Int) ∧ (xs.length + 1) * by_ ≤ lim then some (xs.take i.toNat ++ [y] ++ xs.drop i.toNat) else none
  | _ => none
theorem insert_some {α : Type} {by_ : Nat} {xs ys r : List α} {i : Int} (h : insert_ by_ xs i ys = some r) : ∃ y, ys = [y] ∧ 0 ≤ i ∧ i ≤ (xs.length : Int) ∧ (xs.length + 1) * by_ ≤ lim ∧ xs.take i.toNat ++ [y] ++ xs.drop i.toNat = r := by
  unfold insert_ at h
  split at h
  · split at h
    · rename_i y hb
      exact ⟨y, rfl, hb.1, hb.2.1, hb.2.2, Option.some.inj h⟩
    · cases h
  · cases h

theorem up_setRow {w : World} {g : Nat} {cs : Array Value} : Up (One g) w (w.setRow g cs) := ⟨rfl, rfl, rfl, by simp [World.setRow], fun k hk hn => by
  have hne : g ≠ k := fun e => hn e.symm
  simp only [World.setRow, Array.getElem?_modify, if_neg hne]⟩

section
variable {α : Type} {k : Kd α} {S : Nat → Prop} {w : World} {v : Value} {xs : List α} {e base : Nat}
/-- An own row of n cells' form: its block, and the cells. -/
theorem Ow.row {g n c : Nat} (h : Ow k e S base w (.slice (some ⟨g, 0, none⟩) n c) xs) : ∃ cs cur, n = xs.length ∧ w.heap[g]? = some (.cells cur e (0, 0)) ∧ n ≤ c ∧ c ≤ maxLen ∧ cur.size = c * k.sz ∧ cur.toList.take (n * k.sz) = cs ∧ Chk k S w cs xs ∧ base ≤ g ∧ ¬ S g ∧ g < w.heap.size := by
  have hlt := h.lt g rfl
  obtain ⟨cs, ⟨h1, h1'⟩, h2, h3, h4⟩ := h
  rcases h1' with ⟨hv, _⟩ | ⟨g', cap, cur, hv, hbg, hg, hnc, hcm, hcs, htk⟩
  · cases hv
  · cases hv
    exact ⟨cs, cur, rfl, hg, hnc, hcm, hcs, htk, h2, hbg, h4 g rfl, hlt.2⟩
theorem Ow.mkRow {g c : Nat} {cs : List Value} {cur : Array Value} (hg : w.heap[g]? = some (.cells cur e (0, 0))) (hnc : xs.length ≤ c) (hcm : c ≤ maxLen) (hcs : cur.size = c * k.sz) (htk : cur.toList.take (xs.length * k.sz) = cs) (h2 : Chk k S w cs xs) (hb : base ≤ g) (hS : ¬ S g) (hl : xs.length ≤ Mg.lim) :
    Ow k e S base w (.slice (some ⟨g, 0, none⟩) xs.length c) xs :=
  ⟨cs, ⟨h2.len, .inr ⟨g, c, cur, rfl, hb, hg, hnc, hcm, hcs, htk⟩⟩, h2, hl, fun b hb hs => by simp [Value.ownBlock] at hb; subst hb; exact hS hs⟩
/-- One element. -/
theorem Ow.single {p : α} (hpos : 0 < k.sz) (h : Ow k e S base w v [p]) : ∃ g c pc cur, v = .slice (some ⟨g, 0, none⟩) 1 c ∧ w.heap[g]? = some (.cells cur e (0, 0)) ∧ 0 < cur.size ∧ k.rep S w pc p ∧ (∀ j u, pc[j]? = some u → w.cell? ⟨g, j, none⟩ = some u) := by
  obtain ⟨cs, h1, h2, h3, h4⟩ := h
  rcases h1.2 with ⟨rfl, hn⟩ | ⟨g', cap, cur, rfl, hbg, hg, hnc, hcm, hcs, htk⟩
  · simp at hn
  · cases h2 with
    | cons hr hn =>
      cases hn
      rename_i c
      refine ⟨g', cap, c, cur, rfl, hg, ?_, hr, fun j u hj => ?_⟩
      · rw [hcs]
        simp at hnc
        exact Nat.mul_pos (by omega) hpos
      · exact ownsRow_cell h1 j u (by simpa using hj)

theorem splice_lists (cs pc Z : List Value) (a sz : Nat) (hpc : pc.length = sz) (ha : a ≤ cs.length) :
    let csd := cs.drop a
    let cur1 := (cs ++ Z).take (a + sz) ++ csd ++ (cs ++ Z).drop (a + sz + csd.length)
    a + sz + csd.length ≤ (cs ++ Z).length →
    (cur1.take a ++ pc ++ cur1.drop (a + pc.length)).length = (cs ++ Z).length ∧ (cur1.take a ++ pc ++ cur1.drop (a + pc.length)).take (cs.length + sz) = cs.take a ++ pc ++ cs.drop a := by
  intro csd cur1 hle
  have hcsd : csd.length = cs.length - a := List.length_drop ..
  have l1 : ((cs ++ Z).take (a + sz)).length = a + sz := by rw [List.length_take]; omega
  have t1 : cur1.take a = cs.take a := by
    show (((cs ++ Z).take (a + sz) ++ csd) ++ _).take a = _
    rw [List.append_assoc, List.take_append_of_le_length (by omega), List.take_take, Nat.min_eq_left (by omega), List.take_append_of_le_length ha]
  have d1 : cur1.drop (a + pc.length) = csd ++ (cs ++ Z).drop (a + sz + csd.length) := by
    show (((cs ++ Z).take (a + sz) ++ csd) ++ _).drop (a + pc.length) = _
    rw [List.append_assoc, hpc, List.drop_append, l1, Nat.sub_self, List.drop_eq_nil_of_le (by omega)]
    simp
  have lt : (cs.take a).length = a := by rw [List.length_take]; omega
  rw [t1, d1]
  constructor
  · simp only [List.length_append, lt, hpc, List.length_drop] at hle ⊢
    omega
  · rw [← List.append_assoc, List.take_append_of_le_length (by simp only [List.length_append, lt, hpc, hcsd]; omega), List.take_of_length_le (by simp only [List.length_append, lt, hpc, hcsd]; omega)]

theorem splice_lists2 (o pc csd Z : List Value) (sz : Nat) (hpc : pc.length = sz) (hZ : sz + csd.length ≤ Z.length) :
    let cur1 := (o ++ Z).take o.length ++ pc ++ (o ++ Z).drop (o.length + pc.length)
    (cur1.take (o.length + sz) ++ csd ++ cur1.drop (o.length + sz + csd.length)).length = (o ++ Z).length ∧ (cur1.take (o.length + sz) ++ csd ++ cur1.drop (o.length + sz + csd.length)).take (o.length + sz + csd.length) = o ++ pc ++ csd := by
  intro cur1
  have e1 : cur1 = o ++ pc ++ Z.drop sz := by
    show (o ++ Z).take o.length ++ pc ++ (o ++ Z).drop (o.length + pc.length) = _
    rw [List.take_left, hpc, List.drop_append, List.drop_eq_nil_of_le (by omega)]
    simp
  rw [e1]
  have t1 : (o ++ pc ++ Z.drop sz).take (o.length + sz) = o ++ pc := by
    rw [List.take_append_of_le_length (by simp [hpc]), List.take_of_length_le (by simp [hpc])]
  rw [t1]
  constructor
  · simp only [List.length_append, List.length_drop, hpc]
    omega
  · rw [List.take_append_of_le_length (by simp [hpc]; omega), List.take_of_length_le (by simp [hpc]; omega)]
end

/-! ### Functions that capture -/
section
variable {P : Program} {ρ : En} {w : World} {d : Option Tmp} {ty : TypeId} {pos : String} {af : Array Edge} {g : Option (Nat × Bool)} {kk : Value → World → Prop}
/-- A call of a function value that captures. -/
theorem dc_callC {q : Operand} {f : FuncId} {as : List Operand} {ts : Array TypeId} {vs cs : List Value} (hq : ev ρ q = .func (.func f) #[] cs.toArray) (hc : CanE P f = true) (hv : as.map (ev ρ) = vs)
    (h : Calls P f (vs ++ cs).toArray w fun e w' => ∃ v, e = .returned v ∧ kk v w') :
    Does P ⟨d, .call { callee := .value q, args := as.toArray, argTypes := ts }, ty, pos, af, g⟩ ρ w kk := by
  subst hv
  unfold CanE at hc
  cases hf : P.funcs[f]? with
  | none => rw [hf] at hc; cases hc
  | some fn =>
    rw [hf] at hc
    simp only [Bool.and_eq_true, bne_iff_ne, ne_eq] at hc
    obtain ⟨h1, h2⟩ := hc
    have hbn : fn.body.isNone = false := by cases hb : fn.body with
      | none => rw [hb] at h2; cases h2
      | some _ => rfl
    have hrun : (execOp (ev ρ) ⟨d, .call { callee := .value q, args := as.toArray, argTypes := ts }, ty, pos, af, g⟩).run P w = .ok (.enter f (as.map (ev ρ) ++ cs).toArray) w := by
      simp only [execOp, resolve, hq, Deferred.ofValue, Sem.run_bind, Sem.run_pure, Result.andThen_ok, invoke, callFunc, program, Sem.run, hf, hbn, List.map_toArray]
      simp [h1]
    unfold Does
    rw [hrun]
    exact h
theorem rv_mkfn {f : FuncId} {cs : List Operand} {vs : List Value} (h : cs.map (ev ρ) = vs) : Rv P ⟨d, .makeFunc (.func f) #[] cs.toArray, ty, pos, af, g⟩ ρ (.func (.func f) #[] vs.toArray) := fun w => by
  subst h
  simp [execOp, Instr.makeFunc, Sem.run_bind, Sem.run_pure, Result.andThen_ok]
theorem Sl.flat {α : Type} {k : Kd α} (hk : Flat k) {S S' : Nat → Prop} {w w' : World} {v : Value} {x : α} (h : Sl k S w v x) : Sl k S' w' v x := by
  obtain ⟨cs, hv, hr⟩ := h
  exact ⟨cs, hv, hk _ _ _ _ _ _ hr⟩
end
/-- Where the first element is that p tells of, from place i on; -1: nowhere. -/
def indexFunc_ {α : Type} (p : α → Option Bool) : List α → Int → Option Int
  | [], _ => some (-1)
  | x :: xs, i => (p x).bind fun b => bif b then some i else indexFunc_ p xs (i + 1)
theorem Ob.cells1 {e : TypeId} {l : List ((α : Type) × Fk α × α)} {S : Nat → Prop} {w : World} {v : Value} {cs : List Value} {fp : List Nat} (h : Ob e l S w v cs fp) : v.cells = [v].toArray := by
  obtain ⟨b, fq, rfl, _⟩ := h; rfl
theorem Obo.cells1 {T : Type} {e : TypeId} {fs : T → List ((α : Type) × Fk α × α)} {S : Nat → Prop} {w : World} {v : Value} {x : Option T} {cs : List Value} {fp : List Nat} (h : Obo e fs S w v x cs fp) : v.cells = [v].toArray := by
  rcases h.nil_iff with ⟨rfl, _⟩ | ⟨y, _, h⟩
  · rfl
  · exact h.cells1

/-- The cells of an element of an own row: what they stand for is of S alone. -/
theorem Ow.cellsO {α : Type} {k : Kd α} {e : TypeId} {S : Nat → Prop} {base : Nat} {w : World} {v : Value} {xs : List α} {u : α} {i : Int} (h : Ow k e S base w v xs) (hi : at_ xs i = some u) :
    ∃ cs, k.rep S w cs u ∧ ∀ w', Sm (Or S (Blk v)) w w' → ∀ j c, cs[j]? = some c → w'.cell? ⟨sb v, so v + i.toNat * k.sz + j, none⟩ = some c := by
  obtain ⟨h0, h1, h2⟩ := at_some hi
  obtain ⟨cs, hh, hc, hl, hn⟩ := h
  have ho := hh
  rcases hh.2 with ⟨rfl, hz⟩ | ⟨g, cap, cur, rfl, hb, hg, _⟩
  · have : xs = [] := List.eq_nil_of_length_eq_zero hz
    subst this
    simp at h2
  · obtain ⟨c, hr, hj⟩ := hc.at i.toNat u h2
    refine ⟨c, hr, fun w' hw j x hx => ?_⟩
    have := ownsRow_cell ho (i.toNat * k.sz + j) x (hj j x hx)
    have e1 : (⟨sb (.slice (some ⟨g, 0, none⟩) xs.length cap), so (.slice (some ⟨g, 0, none⟩) xs.length cap) + i.toNat * k.sz + j, none⟩ : Addr) = ⟨g, i.toNat * k.sz + j, none⟩ := by simp [sb, so]
    rw [e1]
    exact cell_same this fun hlt => hw g (.inr rfl) hlt
theorem rw_loadO {P : Program} {α : Type} {k : Kd α} {e t by_ : TypeId} {S : Nat → Prop} {base : Nat} {w : World} {v : Value} {xs : List α} {u : α} {i : Int} (el : El P k t e by_) (h : Ow k e S base w v xs) (hi : at_ xs i = some u) :
    ∃ r, Sl k S w r u ∧ ∀ w', Sm (Or S (Blk v)) w w' → ∀ {ρ : En} {d : Option Tmp} {ty : TypeId} {pos : String} {af : Array Edge} {g : Option (Nat × Bool)} {x : Operand},
      ev ρ x = .pointer (some ⟨sb v, so v + i.toNat * k.sz, none⟩) → Rw P ⟨d, .load e x, ty, pos, af, g⟩ ρ w' r := by
  obtain ⟨cs, hr, hc⟩ := h.cellsO hi
  refine ⟨k.val cs, ⟨cs, rfl, hr⟩, fun w' hw ρ d ty pos af g x hx => ?_⟩
  unfold Rw
  simp only [execOp, Instr.loadAt, Instr.sureAddr, hx, Sem.run_bind, Sem.run_pure, Result.andThen_ok]
  rw [run_loadTy el.toTy (k.len hr) rfl (hc w' hw)]
  rfl
end Go.Mg
