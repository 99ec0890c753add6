/- A store to a part of an own slice's element. -/
import Derived.Test.YtbkkobbjmhgkjaaDoorMgO
import Derived.Test.YtbkkobbjmhgkjaaDoorMgW
namespace Go.Mg
open Go
set_option linter.unusedVariables false
set_option linter.unusedSimpArgs false

theorem osi {α : Type} {a b : α} (h : some a = some b) : a = b := Option.some.inj h
theorem set_in {β : Type} {cs c : List β} {a off : Nat} {u : β} (hc : ∀ j x, c[j]? = some x → cs[a + j]? = some x) (ho : off < c.length) (hs : a + c.length ≤ cs.length) :
    cs.take a ++ c.set off u ++ cs.drop (a + c.length) = cs.set (a + off) u := by
  have e1 : (cs.take a).length = a := by rw [List.length_take]; omega
  apply List.ext_getElem?
  intro j
  by_cases h1 : j < a
  · rw [List.append_assoc, List.getElem?_append_left (by omega), List.getElem?_take, if_pos h1, List.getElem?_set_ne (by omega)]
  · by_cases h2 : j < a + c.length
    · rw [List.append_assoc, List.getElem?_append_right (by omega), e1, List.getElem?_append_left (by rw [List.length_set]; omega)]
      by_cases h3 : j = a + off
      · subst h3
        rw [List.getElem?_set_self (by omega), show a + off - a = off by omega, List.getElem?_set_self ho]
      · rw [List.getElem?_set_ne (by omega), List.getElem?_set_ne (by omega)]
        have hj : j - a < c.length := by omega
        have := hc (j - a) _ (List.getElem?_eq_getElem hj)
        rw [List.getElem?_eq_getElem hj, ← this, show a + (j - a) = j by omega]
    · rw [List.getElem?_append_right (by rw [List.length_append, List.length_set]; omega), List.length_append, List.length_set, e1, List.getElem?_drop, show a + c.length + (j - (a + c.length)) = j by omega, List.getElem?_set_ne (by omega)]

section
variable {P : Program} {α : Type} {k : Kd α} {e : TypeId} {base : Nat} {S : Nat → Prop} {w : World} {v u : Value} {xs : List α}
theorem dc_storeP {t by_ off : Nat} {te : TypeId} {i : Int} {z z' : α} {ρ : En} {d : Option Tmp} {ty : TypeId} {pos : String} {af : Array Edge} {g : Option (Nat × Bool)} {x q : Operand} {kk : Value → World → Prop}
    (el : El P k t e by_) (ha : aggOf P te = some (false, 1)) (ho : Ow k e S base w v xs) (hi : at_ xs i = some z) (hoff : off < k.sz) (hx : ev ρ x = .pointer (some ⟨sb v, so v + i.toNat * k.sz + off, none⟩)) (hq : ev ρ q = u) (hu : u.oneCell' = true)
    (hz : ∀ cs, k.rep S w cs z → k.rep S w (cs.set off u) z')
    (h : ∀ w', Ow k e S base w' v (xs.set i.toNat z') → Up (Blk v) w w' → kk undef w') : Does P ⟨d, .store te x q, ty, pos, af, g⟩ ρ w kk := by
  obtain ⟨h0, hl, hzx⟩ := at_some hi
  obtain ⟨cs, ⟨h1, h1'⟩, h2, h3, h4⟩ := ho
  rcases h1' with ⟨rfl, hn⟩ | ⟨gb, cap, cur, rfl, hbg, hg, hnc, hcm, hcs, htk⟩
  · omega
  · have hil : i.toNat < xs.length := by omega
    have hfit : i.toNat * k.sz + k.sz ≤ xs.length * k.sz := by rw [← Nat.succ_mul]; exact Nat.mul_le_mul_right _ hil
    have hfit2 : xs.length * k.sz ≤ cap * k.sz := Nat.mul_le_mul_right _ hnc
    have hcl : cur.toList.length = cap * k.sz := by simpa using hcs
    obtain ⟨c, hr, hc⟩ := h2.at i.toNat z hzx
    have hcz := k.len hr
    have hst := run_storeCells_at P gb (i.toNat * k.sz + off) e [u] 0 cur w hg (by simp; omega) (fun c hc => by simp at hc; subst hc; exact hu)
    have hrun : ∃ r : Array Value, r.toList = cur.toList.set (i.toNat * k.sz + off) u ∧ (execOp (ev ρ) ⟨d, .store te x q, ty, pos, af, g⟩).run P w = .ok .skip (w.setRow gb r) := by
      have hx' : ev ρ x = .pointer (some ⟨gb, i.toNat * k.sz + off, none⟩) := by rw [hx]; simp [sb, so]
      have hse : cur.toList.take (i.toNat * k.sz + off) ++ [u] ++ cur.toList.drop (i.toNat * k.sz + off + 1) = cur.toList.set (i.toNat * k.sz + off) u := by
        rw [List.set_eq_take_append_cons_drop, if_pos (by omega)]
        simp
      refine ⟨(cur.toList.set (i.toNat * k.sz + off) u).toArray, by simp, ?_⟩
      simp only [Nat.add_zero, List.length_singleton] at hst
      rw [hse] at hst
      simp only [execOp, Instr.storeAt, Instr.sureAddr, hx', hq, Sem.run_bind, Sem.run_pure, Result.andThen_ok, storeVar, (aggOf_run (w := w) ha).2, cells_one hu]
      simp only [List.size_toArray, List.length_singleton, ne_eq, not_true_eq_false, if_false]
      simpa using congrArg (fun r => Result.andThen r fun _ w' => Result.ok Next.skip w') hst
    obtain ⟨r, hr1, hrun⟩ := hrun
    unfold Does
    rw [hrun]
    have hset := h2.set hil (hz c hr)
    have hsp : cs.take (i.toNat * k.sz) ++ c.set off u ++ cs.drop (i.toNat * k.sz + k.sz) = cs.set (i.toNat * k.sz + off) u := by
      rw [← hcz]; exact set_in (by rw [hcz]; exact hc) (by omega) (by rw [hcz]; omega)
    rw [hsp] at hset
    have up : Up (Blk (.slice (some ⟨gb, 0, none⟩) xs.length cap)) w (w.setRow gb r) := ⟨rfl, rfl, rfl, by simp, fun b _ hb => setRow_other w gb b r fun e => hb (by subst e; rfl)⟩
    refine h _ ⟨cs.set (i.toNat * k.sz + off) u, ⟨?_, .inr ⟨gb, cap, r, by rw [List.length_set], hbg, setRow_heap w gb cur r e _ hg, by rw [List.length_set]; exact hnc, hcm, ?_, ?_⟩⟩, ?_, by rw [List.length_set]; exact h3, h4⟩ up
    · rw [List.length_set, List.length_set, h1]
    · rw [← Array.length_toList, hr1, List.length_set, hcl]
    · rw [hr1, List.length_set, ← htk, List.take_set]
    · exact hset.to (fun _ h => h) (up.sm fun b hb _ hB => h4 b hB hb)
end
/-- A step that turns two objects. -/
theorem Cx.ofc2 {F G1 G2 S0 S S1 : Nat → Prop} {w0 w w1 : World} (C : Cx F S0 w0 S w) (c : Cx (fun b => G1 b ∨ G2 b) S w S1 w1) (h1 : ∀ b, G1 b → F b ∨ w0.heap.size ≤ b) (h2 : ∀ b, G2 b → F b ∨ w0.heap.size ≤ b) : Cx F S0 w0 S1 w1 :=
  C.ofc c fun b hb => hb.elim (h1 b) (h2 b)
end Go.Mg
