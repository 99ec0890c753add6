/- A range over a text, rune by rune. -/
import Derived.Test.YtbkkobbjmhgkjaaDoorMgI
import Derived.Test.YtbkkobbjmhgkjaaDoorMgM
namespace Go.Mg
open Go
open Go.ChangeMaps (setBlock)
set_option linter.unusedVariables false
set_option linter.unusedSimpArgs false

/-- Where the first rune is that p tells tr of, from place pos on; -1: nowhere. -/
def sidxF (p : Int → Option Bool) (s : ByteArray) (tr : Bool) : Nat → Nat → Option Int
  | 0, pos => if pos < s.size then none else some (-1)
  | n + 1, pos => if pos < s.size then (p ((Utf8.decode s pos).1 : Nat)).bind fun b => bif b == tr then some (pos : Int) else sidxF p s tr n (pos + (Utf8.decode s pos).2) else some (-1)
def sidx_ (p : Int → Option Bool) (s : ByteArray) (tr : Bool) : Option Int := sidxF p s tr s.size 0

/-- An iterator over a text. -/
def SIt (w : World) (r : Nat) (s : ByteArray) (pos : Nat) : Prop := w.heap[r]? = some (.stringIter s pos)

section
variable {P : Program} {w : World} {t : TypeId} {s : ByteArray} {r pos : Nat} {kk : Value → World → Prop} {ρ : En} {d : Option Tmp} {x : Operand} {ty : TypeId} {ps : String} {af : Array Edge} {g : Option (Nat × Bool)}
theorem SIt.lt (h : SIt w r s pos) : r < w.heap.size := (Array.getElem?_eq_some_iff.1 h).1
theorem SIt.to {w' : World} (h : SIt w r s pos) (hb : w'.heap[r]? = w.heap[r]?) : SIt w' r s pos := hb.trans h

theorem dc_srange (ht : P.underlying t = some .string) (hx : ev ρ x = .string s) (h : ∀ r w', w.heap.size ≤ r → SIt w' r s 0 → Up No w w' → kk (.pointer (some ⟨r, 0, none⟩)) w') :
    Does P ⟨d, .range t x, ty, ps, af, g⟩ ρ w kk := by
  have hrun : (execOp (ev ρ) ⟨d, .range t x, ty, ps, af, g⟩).run P w = .ok (.value (.pointer (some ⟨w.heap.size, 0, none⟩))) (w.alloc (.stringIter s 0)) := by
    simp only [execOp, hx, Instr.range, Sem.run_bind, run_underlying ht, Result.andThen_ok, Sem.run_pure]
    rfl
  unfold Does
  rw [hrun]
  exact h _ _ (Nat.le_refl _) (heap_alloc_new _ _) (Up.alloc _ _ _)

theorem dc_snext (I : SIt w r s pos) (hx : ev ρ x = .pointer (some ⟨r, 0, none⟩))
    (h0 : ¬ pos < s.size → kk (.tuple #[.bool false]) w)
    (h1 : ∀ w', pos < s.size → SIt w' r s (pos + (Utf8.decode s pos).2) → Up (One r) w w' → kk (.tuple #[.bool true, .int .i64 (pos : Nat), .int .i32 ((Utf8.decode s pos).1 : Nat)]) w') :
    Does P ⟨d, .next x true, ty, ps, af, g⟩ ρ w kk := by
  have hrl : r < w.heap.size := I.lt
  have hg : (getObj r).run P w = .ok (.stringIter s pos) w := by
    simp only [getObj, Sem.run_bind, Sem.run]
    unfold SIt at I
    simp [Sem.run, I]
  have hs : (setObj r (.stringIter s (pos + (Utf8.decode s pos).2))).run P w = .ok () (setBlock w r (.stringIter s (pos + (Utf8.decode s pos).2))) := by
    unfold SIt at I
    simp [setObj, Sem.run, I, setBlock]
  by_cases hp : pos < s.size
  · have hrun : (execOp (ev ρ) ⟨d, .next x true, ty, ps, af, g⟩).run P w = .ok (.value (.tuple #[.bool true, .int .i64 (pos : Nat), .int .i32 ((Utf8.decode s pos).1 : Nat)])) (setBlock w r (.stringIter s (pos + (Utf8.decode s pos).2))) := by
      simp only [execOp, hx, Instr.next, Sem.run_bind, hg, Result.andThen_ok, if_pos hp, hs, Sem.run_pure, goInt]
    unfold Does
    rw [hrun]
    exact h1 _ hp (by simp [SIt, setBlock, hrl]) Up.setBlock
  · have hrun : (execOp (ev ρ) ⟨d, .next x true, ty, ps, af, g⟩).run P w = .ok (.value (.tuple #[.bool false])) w := by
      simp only [execOp, hx, Instr.next, Sem.run_bind, hg, Result.andThen_ok, if_neg hp, Sem.run_pure]
    unfold Does
    rw [hrun]
    exact h0 hp
end
end Go.Mg
