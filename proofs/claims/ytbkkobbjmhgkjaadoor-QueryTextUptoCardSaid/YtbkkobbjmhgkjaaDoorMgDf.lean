/- The rest of an own row is cleared; what is taken out of a row by a function. -/
import Derived.Test.YtbkkobbjmhgkjaaDoorMgI
import Derived.Test.YtbkkobbjmhgkjaaDoorMgV
namespace Go.Mg
open Go
set_option linter.unusedVariables false
set_option linter.unusedSimpArgs false

section
variable {P : Program} {α : Type} {k : Kd α} {e t by_ base : Nat} {S : Nat → Prop} {w : World} {v : Value} {xs : List α}

theorem zeroCells_one {z : Array Value} (hz : 0 < z.size) (h : ∀ c ∈ z.toList, c.oneCell' = true) (n : Nat) : ∀ c ∈ (Builtin.zeroCells z n).toList, c.oneCell' = true := by
  intro c hc
  unfold Builtin.zeroCells at hc
  rw [Array.toList_map, List.mem_map] at hc
  obtain ⟨i, _, rfl⟩ := hc
  have hi : i % z.size < z.size := Nat.mod_lt _ hz
  rw [getElem!_pos z _ hi]
  exact h _ (by simp)

theorem dc_clearO {i : Int} {ys : List α} {zc : List Value} (el : El P k t e by_) (hz0 : zeroOf P e = some zc) (hz1 : ∀ c ∈ zc, c.oneCell' = true) (ho : Ow k e S base w v xs) (hi : upto_ xs i = some ys)
    {ρ : En} {d : Option Tmp} {ty : TypeId} {pos : String} {af : Array Edge} {g : Option (Nat × Bool)} {x : Operand} {kk : Value → World → Prop}
    (hx : ∀ A n c, v = .slice A n c → ev ρ x = .slice (if c = i.toNat then A else A.map (·.add (i.toNat * k.sz))) (n - i.toNat) (c - i.toNat))
    (h : ∀ w' u, Ow k e S base w' u ys → (∀ b, Blk u b → Blk v b) → (∀ {ρ : En} {d : Option Tmp} {ty : TypeId} {pos : String} {af : Array Edge} {g : Option (Nat × Bool)} {x z : Operand} {kh : IntKind},
      ev ρ x = v → ev ρ z = .int kh i → Rv P ⟨d, .slice t x none (some z) none, ty, pos, af, g⟩ ρ u) → Up (Blk v) w w' → kk (.tuple #[]) w') :
    Does P ⟨d, .call { callee := .builtin .clear, args := #[x], argTypes := #[t] }, ty, pos, af, g⟩ ρ w kk := by
  obtain ⟨u, hu, hub, hur⟩ := Ow.upto (P := P) ho hi el
  obtain ⟨cs, ⟨h1, h1'⟩, h2, h3, h4⟩ := ho
  have hb : 0 ≤ i ∧ i.toNat ≤ xs.length ∧ ys = xs.take i.toNat := by
    unfold upto_ at hi
    split at hi
    case isFalse => cases hi
    rename_i hb
    cases hi
    exact ⟨hb.1, by omega, rfl⟩
  have fin : ∀ {y : Value}, (ev ρ x = y) → (Builtin.clear_ #[t] ty #[y]).run P w = .ok (.tuple #[]) w → Does P ⟨d, .call { callee := .builtin .clear, args := #[x], argTypes := #[t] }, ty, pos, af, g⟩ ρ w kk := by
    intro y hy hr
    have hrun : (execOp (ev ρ) ⟨d, .call { callee := .builtin .clear, args := #[x], argTypes := #[t] }, ty, pos, af, g⟩).run P w = .ok (.value (.tuple #[])) w := by
      simp only [execOp, resolve, invoke, builtin, Sem.run_bind, Sem.run_pure, Result.andThen_ok, List.map_toArray, List.map_cons, List.map_nil, hy, hr]
    unfold Does
    rw [hrun]
    exact h w u hu hub hur (Up.refl _ _)
  have hclr : ∀ (A : Option Addr) (n c : Nat), A = none ∨ n = 0 → (Builtin.clear_ #[t] ty #[.slice A n c]).run P w = .ok (.tuple #[]) w := by
    intro A n c hA
    cases A with
    | none => simp [Builtin.clear_, run_underlying' el.ht]
    | some a =>
      have hn : n = 0 := hA.elim (fun h => by cases h) id
      subst hn
      simp [Builtin.clear_, run_underlying' el.ht]
  rcases h1' with ⟨rfl, hn⟩ | ⟨gb, cap, cur, rfl, hbg, hg, hnc, hcm, hcs, htk⟩
  · have hx' : ev ρ x = .slice none (0 - i.toNat) (0 - i.toNat) := by rw [hx none 0 0 rfl]; split <;> rfl
    exact fin hx' (hclr _ _ _ (.inl rfl))
  · have hx' := hx _ _ _ rfl
    by_cases hlen : xs.length - i.toNat = 0
    · rw [hlen] at hx'
      exact fin hx' (hclr _ _ _ (.inr rfl))
    · have hne : ¬ cap = i.toNat := by omega
      rw [if_neg hne] at hx'
      have hx' : ev ρ x = .slice (some ⟨gb, i.toNat * k.sz, none⟩) (xs.length - i.toNat) (cap - i.toNat) := by rw [hx']; simp [Addr.add_lit]
      obtain ⟨inf, zv, hinf, hzv, hsz, hby', hzs⟩ := el.hi
      have hzc : zv.cells.toList = zc := by
        unfold zeroOf at hz0
        rw [hinf] at hz0
        simp only [Option.bind_some, hzv, Option.map_some] at hz0
        exact Option.some.inj hz0
      have hpos := el.hs
      have hone := zeroCells_one (z := zv.cells) (by omega) (by rw [hzc]; exact hz1) (xs.length - i.toNat)
      have hzl : (Builtin.zeroCells zv.cells (xs.length - i.toNat)).toList.length = (xs.length - i.toNat) * k.sz := by simp [Builtin.zeroCells, hzs]
      have hfit : i.toNat * k.sz + (xs.length - i.toNat) * k.sz ≤ cur.size := by
        rw [← Nat.add_mul, hcs]; exact Nat.mul_le_mul_right _ (by omega)
      have hst := run_storeCells_at P gb (i.toNat * k.sz) e (Builtin.zeroCells zv.cells (xs.length - i.toNat)).toList 0 cur w hg (by rw [hzl]; omega) hone
      obtain ⟨r, hr1, hst⟩ : ∃ r : Array Value, r.toList.take (i.toNat * k.sz) = cur.toList.take (i.toNat * k.sz) ∧ r.size = cur.size ∧ (storeCells ⟨gb, i.toNat * k.sz, none⟩ (Builtin.zeroCells zv.cells (xs.length - i.toNat)).toList 0).run P w = .ok () (w.setRow gb r) := by
        refine ⟨_, ?_, ?_, hst⟩
        · rw [Nat.add_zero, List.append_assoc, List.take_append_of_le_length (by rw [List.length_take, Array.length_toList]; omega), List.take_take, Nat.min_self]
        · rw [List.size_toArray, List.length_append, List.length_append, List.length_take, List.length_drop, hzl, Array.length_toList]; omega
      obtain ⟨hrs, hst⟩ := hst
      have hz' : (zeroValue e).run P w = .ok zv w := by simp [zeroValue, typeInfo, program, Sem.run, hinf, hzv]
      have hr : (Builtin.clear_ #[t] ty #[.slice (some ⟨gb, i.toNat * k.sz, none⟩) (xs.length - i.toNat) (cap - i.toNat)]).run P w = .ok (.tuple #[]) (w.setRow gb r) := by
        obtain ⟨m, hm⟩ : ∃ m, xs.length - i.toNat = m + 1 := ⟨xs.length - i.toNat - 1, by omega⟩
        rw [hm] at hst ⊢
        simp [Builtin.clear_, Sem.run_bind, run_underlying' el.ht, Result.andThen_ok, hz', hst, Sem.run_pure]
      have hrun : (execOp (ev ρ) ⟨d, .call { callee := .builtin .clear, args := #[x], argTypes := #[t] }, ty, pos, af, g⟩).run P w = .ok (.value (.tuple #[])) (w.setRow gb r) := by
        simp only [execOp, resolve, invoke, builtin, Sem.run_bind, Sem.run_pure, Result.andThen_ok, List.map_toArray, List.map_cons, List.map_nil, hx', hr]
      unfold Does
      rw [hrun]
      have up : Up (Blk (.slice (some ⟨gb, 0, none⟩) xs.length cap)) w (w.setRow gb r) := ⟨rfl, rfl, rfl, by simp, fun b _ hb => setRow_other w gb b r fun e => hb (by subst e; rfl)⟩
      have hS : Sm S w (w.setRow gb r) := up.sm fun b hb _ hB => h4 b hB hb
      refine h _ u ?_ hub hur up
      -- the first ones are as they were
      obtain ⟨cs2, ⟨g1, g1'⟩, g2, g3, g4⟩ := hu
      rcases g1' with ⟨hun, hn⟩ | ⟨gb2, cap2, cur2, rfl, hbg2, hg2, hnc2, hcm2, hcs2, htk2⟩
      · exact ⟨cs2, ⟨g1, .inl ⟨hun, hn⟩⟩, g2.to (fun _ h => h) hS, g3, g4⟩
      · have hgb : gb2 = gb := by
          have := hub gb2 rfl
          simpa [Blk, Value.ownBlock] using this.symm
        subst hgb
        rw [hg] at hg2
        cases hg2
        have hyl : ys.length = i.toNat := by rw [hb.2.2, List.length_take]; omega
        refine ⟨cs2, ⟨g1, .inr ⟨gb2, cap2, r, rfl, hbg2, setRow_heap w gb2 cur r e _ hg, hnc2, hcm2, by rw [hrs]; exact hcs2, ?_⟩⟩, g2.to (fun _ h => h) hS, g3, g4⟩
        rw [← htk2, hyl, hr1]
end

/-- What is left of a list without those that a function names. -/
def delF_ {α : Type} (p : α → Option Bool) : List α → Option (List α)
  | [] => some []
  | x :: l => (p x).bind fun b => bif b then delF_ p l else (delF_ p l).bind fun r => some (x :: r)
theorem delF_split {α : Type} {p : α → Option Bool} : ∀ {l r : List α} {k : Int}, delF_ p l = some r →
    (indexFunc_ p l k = some (-1) ∧ r = l) ∨ ∃ A x B r2, l = A ++ x :: B ∧ indexFunc_ p l k = some (k + A.length) ∧ delF_ p B = some r2 ∧ r = A ++ r2
  | [], r, k, h => .inl ⟨rfl, (Option.some.inj h).symm⟩
  | x :: l, r, k, h => by
    unfold delF_ at h
    obtain ⟨b, hb, h⟩ := bnd_some h
    cases b with
    | true => exact .inr ⟨[], x, l, r, rfl, by simp [indexFunc_, hb], h, rfl⟩
    | false =>
      obtain ⟨r', h1, h2⟩ := bnd_some h
      cases h2
      rcases delF_split (k := k + 1) h1 with ⟨h3, rfl⟩ | ⟨A, y, B, r2, rfl, h3, h4, rfl⟩
      · exact .inl ⟨by simp [indexFunc_, hb, h3], rfl⟩
      · refine .inr ⟨x :: A, y, B, r2, rfl, ?_, h4, rfl⟩
        simp only [indexFunc_, hb, Option.bind_some, cond_false, h3, List.length_cons]
        congr 1
        omega
theorem upto_take {α : Type} {l : List α} {i : Nat} (h : i ≤ l.length) : upto_ l (i : Int) = some (l.take i) := by simp [upto_, h]
end Go.Mg
