/- Arrays of a fixed size as values; keys of maps that are structs, or arrays of two numbers. -/
import Derived.Test.YtbkkobbjmhgkjaaDoorMgV
import Derived.Test.YtbkkobbjmhgkjaaDoorMgM
namespace Go.Mg
open Go
set_option linter.unusedVariables false
variable {P : Program} {w : World}

/-- An array: how many, of what, of how many cells each. -/
def arOf (P : Program) (t : TypeId) : Option (Nat × TypeId × Nat) :=
  match P.underlying t with
  | some (.array n e) => (aggOf P e).map fun p => (n, e, p.2)
  | _ => none

theorem arOf_at {t e : TypeId} {n sz : Nat} (h : arOf P t = some (n, e, sz)) : P.underlying t = some (.array n e) ∧ ∃ a, aggOf P e = some (a, sz) := by
  unfold arOf at h
  split at h
  · rename_i n' e' hu
    rw [Option.map_eq_some_iff] at h
    obtain ⟨⟨a, s⟩, h1, h2⟩ := h
    cases h2
    exact ⟨hu, a, h1⟩
  · cases h

section
variable {ρ : En} {t e t2 : TypeId} {x y : Operand} {d : Option Tmp} {ty : TypeId} {pos : String} {af : Array Edge} {g : Option (Nat × Bool)} {n sz : Nat}

theorem rv_buildAr {ps : List (Nat × Operand)} {zs r : List Value} (hp : arOf P t = some (n, e, sz)) (hz : zeroOf P t = some zs)
    (h : fillL (fun i => some (i * sz, sz)) zs (ps.map fun p => (p.1, (ev ρ p.2).cells.toList)) = some r) :
    Rv P ⟨d, .build t ps.toArray, ty, pos, af, g⟩ ρ (.agg r.toArray) := fun w => by
  have hb : P.built t (ps.map fun p => (p.1, ev ρ p.2)) = some r.toArray := by
    unfold zeroOf at hz
    obtain ⟨hu, a, ha⟩ := arOf_at hp
    have h3 : ∃ i, P.info? e = some i ∧ i.size = sz := by
      unfold aggOf at ha
      cases hu' : P.underlying e with
      | none => rw [hu'] at ha; simp at ha
      | some d' =>
        cases hi' : P.info? e with
        | none => rw [hu', hi'] at ha; cases d' <;> simp at ha
        | some i' => rw [hu', hi'] at ha; cases d' <;> simp at ha <;> exact ⟨i', rfl, ha.2⟩
    obtain ⟨ie, hie, hsz⟩ := h3
    cases hi : P.info? t with
    | none => simp [hi] at hz
    | some inf =>
      cases hzz : inf.zero with
      | none => simp [hi, hzz] at hz
      | some zv =>
        simp [hi, hzz] at hz
        unfold Program.built
        simp only [hi, hu, hzz, hie, hsz]
        rw [show zv.cells = zs.toArray from by rw [← hz]]
        exact fill_of _ _ _ _ (by rw [List.map_map]; exact h)
  have := run_build (P := P) w t ((ps.map fun p => (p.1, ev ρ p.2)).toArray) r.toArray (by simpa using hb)
  simp only [execOp, Sem.run_bind, List.map_toArray]
  have e1 : (ps.map fun x => match x with | (i, x) => (i, ev ρ x)) = ps.map fun p => (p.1, ev ρ p.2) := rfl
  rw [e1, this]
  rfl

/-- The address of an array's element, at a number that is known. -/
theorem rv_indexAr {b o i : Nat} {k : IntKind} (hp : arOf P t = some (n, e, sz)) (hx : ev ρ x = .pointer (some ⟨b, o, none⟩)) (hy : ev ρ y = .int k (i : Int)) (hi : Nat.blt i n = true) :
    Rv P ⟨d, .indexAddr t x y, ty, pos, af, g⟩ ρ (.pointer (some ⟨b, o + i * sz, none⟩)) := fun w => by
  obtain ⟨hu, a, ha⟩ := arOf_at hp
  have hs := (aggOf_run (w := w) ha).2
  have hi : i < n := Nat.le_of_ble_eq_true hi
  simp only [execOp, hx, hy, Instr.indexAt, Instr.sureAddr, asIntOf, Sem.run_bind, Sem.run_pure, Result.andThen_ok, underlying, program, Sem.run, hu]
  rw [if_pos ⟨by omega, by omega⟩]
  simp only [Sem.run_bind, hs, Result.andThen_ok, Sem.run_pure, addr_add, Int.toNat_natCast]
end

theorem Up.fresh {w w1 w2 : World} {b : Nat} (u1 : Up No w w1) (hb : w.heap.size ≤ b) (u2 : Up (One b) w1 w2) : Up No w w2 :=
  ⟨u2.os.trans u1.os, u2.tape.trans u1.tape, u2.output.trans u1.output, Nat.le_trans u1.size u2.size, fun k hk _ =>
    (u2.block k (Nat.lt_of_lt_of_le hk u1.size) (fun h => by have h : k = b := h; omega)).trans (u1.block k hk fun h => h)⟩

/-- A variable that is laid, and written once: as a box. -/
theorem alloc_store {S : Nat → Prop} {w w1 w2 : World} {b : Nat} {cs : List Value} {e : TypeId} (hS : Sb S w) (h1 : w.heap.size ≤ b) (h2 : b < w1.heap.size) (u1 : Up No w w1) (u2 : Up (One b) w1 w2) (k : Bk w2 b cs e) :
    ∃ S', Cx No S w S' w2 ∧ Bs S' w2 b cs e :=
  ⟨_, Cx.one hS (u1.fresh h1 u2) h1 (Nat.lt_of_lt_of_le h2 u2.size), .inr rfl, k⟩

/-! ### Keys -/

theorem run_vEq {t : TypeId} {x y : Value} {r : Bool} (h : vEq P Op.maxDepth t x y = some r) (w : World) : (Op.equal t x y).run P w = .ok r w := vEq_run _ _ _ _ _ h

theorem eq_ar2 {t e : TypeId} {k : IntKind} (ht : P.underlying t = some (.array 2 e)) (he : P.underlying e = some (.int k)) (ha : aggOf P e = some (false, 1)) (a b c d : Int) (m : Nat) (w : World) :
    (Op.equalIn (m + 2) t (.agg #[.int k a, .int k b]) (.agg #[.int k c, .int k d])).run P w = .ok (a == c && b == d) w := by
  obtain ⟨h1, h2⟩ := aggOf_run (w := w) ha
  have hq : ∀ x y : Int, (Op.equalIn (m + 1) e (.int k x) (.int k y)).run P w = .ok (x == y) w := fun x y => by
    simp only [Op.equalIn, Sem.run_bind, run_underlying' he, Result.andThen_ok, Sem.run_pure, if_true]
  have hp0 : ∀ x y : Int, (part e #[.int k x, .int k y] 0).run P w = .ok (.int k x) w := fun x y => by
    unfold part; simp [Sem.run_bind, h1, Result.andThen_ok, Sem.run_pure]
  have hp1 : ∀ x y : Int, (part e #[.int k x, .int k y] 1).run P w = .ok (.int k y) w := fun x y => by
    unfold part; simp [Sem.run_bind, h1, Result.andThen_ok, Sem.run_pure]
  rw [show m + 2 = (m + 1) + 1 from rfl, Op.equalIn]
  simp only [Sem.run_bind, run_underlying' ht, Result.andThen_ok, h2]
  simp only [Std.Legacy.Range.forIn_eq_forIn_range', Std.Legacy.Range.size, Nat.sub_zero, Nat.add_sub_cancel, Nat.div_one, List.range'_succ, List.range'_zero, List.forIn_cons, List.forIn_nil, Nat.zero_mul, Nat.zero_add, Nat.one_mul, Sem.run_bind, hp0, hq, Result.andThen_ok]
  by_cases e1 : a = c <;> by_cases e2 : b = d <;> simp [e1, e2, Sem.run_bind, hp1, hq, Result.andThen_ok, Sem.run_pure]

/-- A value of one cell. -/
def one1 : Value → Bool
  | .int _ _ | .bool _ | .string _ => true
  | _ => false

theorem same_one {v : Value} (h : one1 v = true) (n : Nat) : Instr.sameBits n v v = true := by
  cases v <;> first | (cases h; done) | (cases n <;> simp [Instr.sameBits, ba_beq])

theorem same_agg {cs : List Value} (h : cs.all one1 = true) (n : Nat) : Instr.sameBits (n + 1) (.agg cs.toArray) (.agg cs.toArray) = true := by
  simp only [Instr.sameBits, BEq.rfl, Bool.true_and, List.all_eq_true]
  rintro ⟨x, y⟩ hxy
  have : x = y ∧ x ∈ cs := by
    clear h
    induction cs with
    | nil => simp at hxy
    | cons c cs ih =>
      simp only [List.zip_cons_cons, List.mem_cons] at hxy
      rcases hxy with h | h
      · cases h; exact ⟨rfl, by simp⟩
      · have := ih h; exact ⟨this.1, by simp [this.2]⟩
  obtain ⟨rfl, hm⟩ := this
  exact same_one (List.all_eq_true.1 h _ hm) n

end Go.Mg
