/- '==' of structs, as one Bool. -/
import Derived.Test.YtbkkobbjmhgkjaaDoorMgH
import Derived.Laws.StructEq
namespace Go.Mg
open Go
set_option linter.unusedVariables false
variable {P : Program} {w : World}

theorem run_underlying' {d : TypeDesc} {t : TypeId} (h : P.underlying t = some d) : (underlying t).run P w = .ok d w := by
  simp only [underlying, program, Sem.run_bind, Sem.run, h, Result.andThen_ok, Sem.run_pure]

theorem eqf_cons {d : Nat} {xs ys : Array Value} {f : Field} {fs : List Field} {a b : Value} {r s : Bool} (hn : (f.name == "_") = false) (ha : (part f.type xs f.offset).run P w = .ok a w) (hb : (part f.type ys f.offset).run P w = .ok b w)
    (he : (Op.equalIn d f.type a b).run P w = .ok r w) (hr : (Op.eqFields d xs ys fs).run P w = .ok s w) : (Op.eqFields d xs ys (f :: fs)).run P w = .ok (r && s) w := by
  have hn' : f.name ≠ "_" := by simpa using hn
  rw [Op.eqFields]
  simp only [if_pos hn', Sem.run_bind, ha, hb, he, Result.andThen_ok]
  cases r
  · simp
  · simpa using hr

/-- A part of a struct's cells. -/
def partV (P : Program) (t : TypeId) (cs : List Value) (off : Nat) : Option Value :=
  match aggOf P t with
  | some (true, n) => if ((cs.drop off).take n).length = n then some (.agg ((cs.drop off).take n).toArray) else none
  | some (false, _) => cs[off]?
  | none => none

/-- Equality of values of a type made of numbers, bools, strings, structs. -/
def vEq (P : Program) : Nat → TypeId → Value → Value → Option Bool
  | 0, _, _, _ => none
  | d + 1, t, x, y =>
    match P.underlying t, x, y with
    | some .bool, .bool a, .bool b => some (a == b)
    | some (.int _), .int k a, .int k' b => if k = k' then some (a == b) else none
    | some .string, .string a, .string b => some (a == b)
    | some (.struct fs), .agg xs, .agg ys => if P.stoodInHeld t then none else
        fs.toList.foldr (fun f acc => if f.name == "_" then none else match partV P f.type xs.toList f.offset, partV P f.type ys.toList f.offset with
          | some a, some b => match vEq P d f.type a b, acc with
            | some r, some s => some (r && s)
            | _, _ => none
          | _, _ => none) (some true)
    | _, _, _ => none

theorem part_run {t : TypeId} {cs : Array Value} {off : Nat} {v : Value} (h : partV P t cs.toList off = some v) : (part t cs off).run P w = .ok v w := by
  unfold partV at h
  cases ha : aggOf P t with
  | none => rw [ha] at h; cases h
  | some p =>
    obtain ⟨a, n⟩ := p
    rw [ha] at h
    obtain ⟨h1, h2⟩ := aggOf_run (w := w) ha
    cases a with
    | true =>
      simp only at h
      split at h
      · rename_i hl
        cases h
        have hl' : off + n ≤ cs.size ∨ n = 0 := by
          rw [List.length_take, List.length_drop, Array.length_toList] at hl
          omega
        have he : cs.extract off (off + n) = ((cs.toList.drop off).take n).toArray := by
          apply Array.ext'
          simp [List.take_drop, Array.toList_extract]
        unfold part
        simp only [Sem.run_bind, h1, h2, Result.andThen_ok, if_true, he, Sem.run_pure]
      · cases h
    | false =>
      simp only at h
      have hx : cs[off]? = some v := by simpa using h
      unfold part
      simp [Sem.run_bind, h1, Result.andThen_ok, hx, Sem.run_pure]

theorem vEq_run : ∀ (d : Nat) (t : TypeId) (x y : Value) (r : Bool), vEq P d t x y = some r → (Op.equalIn d t x y).run P w = .ok r w := by
  intro d
  induction d with
  | zero => intro t x y r h; cases h
  | succ d ih =>
    intro t x y r h
    unfold vEq at h
    split at h
    · rename_i a b hu
      cases h
      simp only [Op.equalIn, Sem.run_bind, run_underlying' hu, Result.andThen_ok, Sem.run_pure]
    · rename_i k a k' b hu
      split at h
      · rename_i hk
        cases h
        subst hk
        simp only [Op.equalIn, Sem.run_bind, run_underlying' hu, Result.andThen_ok, Sem.run_pure, if_true]
      · cases h
    · rename_i a b hu
      cases h
      simp only [Op.equalIn, Sem.run_bind, run_underlying' hu, Result.andThen_ok, Sem.run_pure]
    · rename_i fs xs ys hu
      split at h
      · cases h
      · rename_i hp
        have hf : P.fieldsOf t = fs := by simp [Program.fieldsOf, hu]
        rw [run_equalIn_struct (P := P) w d t xs ys (by rw [hf]; exact hu) (by simpa using hp), hf]
        generalize fs.toList = l at h
        clear hu hf
        induction l generalizing r with
        | nil => simp only [List.foldr_nil] at h; cases h; simp [Op.eqFields]
        | cons f l ihl =>
          simp only [List.foldr_cons] at h
          split at h
          · cases h
          · rename_i hn
            split at h
            · rename_i a b ha hb
              split at h
              · rename_i r1 s1 h1 h2
                cases h
                exact eqf_cons (by simpa using hn) (part_run ha) (part_run hb) (ih _ _ _ _ h1) (ihl _ h2)
              · cases h
            · cases h
    · cases h

section
variable {ρ : En} {t t2 : TypeId} {x y : Operand} {d : Option Tmp} {ty : TypeId} {pos : String} {af : Array Edge} {g : Option (Nat × Bool)} {as bs : List Value} {r : Bool}
theorem guard_agg (hg : P.eqGuardType P.depth t = false) (op : BinOp) : (eqGuard op t x y (.agg as.toArray) (.agg bs.toArray)).run P w = .ok () w := by
  unfold eqGuard
  cases op <;> simp [Sem.run_bind, program, Sem.run, hg]
theorem rv_aeql (hg : P.eqGuardType P.depth t = false) (hx : ev ρ x = .agg as.toArray) (hy : ev ρ y = .agg bs.toArray) (h : vEq P Op.maxDepth t (.agg as.toArray) (.agg bs.toArray) = some r) :
    Rv P ⟨d, .binOp .eql t x y t2, ty, pos, af, g⟩ ρ (.bool r) := fun w => run_cmp hx hy (guard_agg hg _) (by
      simp only [binOp, Op.equal, Sem.run_bind, vEq_run _ _ _ _ _ h, Result.andThen_ok, Sem.run_pure])
theorem rv_aneq (hg : P.eqGuardType P.depth t = false) (hx : ev ρ x = .agg as.toArray) (hy : ev ρ y = .agg bs.toArray) (h : vEq P Op.maxDepth t (.agg as.toArray) (.agg bs.toArray) = some r) :
    Rv P ⟨d, .binOp .neq t x y t2, ty, pos, af, g⟩ ρ (.bool (!r)) := fun w => run_cmp hx hy (guard_agg hg _) (by
      simp only [binOp, Op.equal, Sem.run_bind, vEq_run _ _ _ _ _ h, Result.andThen_ok, Sem.run_pure])
end

/-! ### Parts of elements -/
section
variable {e : TypeId} {cs : List Value} {b o off : Nat} {ρ : En} {x : Operand} {d : Option Tmp} {ty : TypeId} {pos : String} {af : Array Edge} {g : Option (Nat × Bool)}
theorem rw_elA {n : Nat} {r : List Value} (ha : aggOf P e = some (true, n)) (hc : ∀ j c, cs[j]? = some c → w.cell? ⟨b, o + j, none⟩ = some c) (hr : (cs.drop off).take n = r) (hl : Nat.beq r.length n = true) (hx : ev ρ x = .pointer (some ⟨b, o + off, none⟩)) :
    Rw P ⟨d, .load e x, ty, pos, af, g⟩ ρ w (.agg r.toArray) := by
  have hl := Nat.eq_of_beq_eq_true hl
  unfold Rw
  simp only [execOp, Instr.loadAt, Instr.sureAddr, hx, Sem.run_bind, Sem.run_pure, Result.andThen_ok, loadVar, (aggOf_run (w := w) ha).1, if_true, (aggOf_run (w := w) ha).2]
  rw [← hl, run_loadCells_list w _ r (fun j u hj => ?_)]
  · rfl
  · rw [addr_add, Nat.add_assoc]
    refine hc _ _ ?_
    rw [← hr, List.getElem?_take, List.getElem?_drop] at hj
    split at hj
    · exact hj
    · cases hj
theorem rw_el1 {c : Value} (ha : aggOf P e = some (false, 1)) (hc : ∀ j c, cs[j]? = some c → w.cell? ⟨b, o + j, none⟩ = some c) (hr : cs[off]? = some c) (hx : ev ρ x = .pointer (some ⟨b, o + off, none⟩)) :
    Rw P ⟨d, .load e x, ty, pos, af, g⟩ ρ w c := rw_cell ha (hc _ _ hr) hx
end
end Go.Mg
