/- Operations that look at values alone, and loads. -/
import Derived.Test.YtbkkobbjmhgkjaaDoorMgC
namespace Go.Mg
open Go
variable {P : Program} {N : Nat} {Q : Ps} {ρ : En} {w : World} {ops : Array Oper} {K : En → World → Prop} {l : List Oper}
variable {d : Option Tmp} {ty : TypeId} {pos : String} {af : Array Edge} {g : Option (Nat × Bool)}

/-- The operation yields v, in whatever world, and leaves it. -/
def Rv (P : Program) (o : Oper) (ρ : En) (v : Value) : Prop := ∀ w, (execOp (ev ρ) o).run P w = .ok (.value v) w
/-- .. in this world. -/
def Rw (P : Program) (o : Oper) (ρ : En) (w : World) (v : Value) : Prop := (execOp (ev ρ) o).run P w = .ok (.value v) w

/-! ### Steps -/

theorem wg0 {o : Oper} (h : o.guard = none) : wantedE ops ρ o = true := by unfold wantedE; rw [h]
theorem wgt {o : Oper} {j d' : Nat} {b : Bool} (h : o.guard = some (j, b)) (hd : (ops[j]?).bind (·.dst) = some d') (hv : ρ d' = .bool b) : wantedE ops ρ o = true := by
  unfold wantedE; rw [h]; dsimp only; rw [hd]; dsimp only; rw [hv]; simp
theorem wgf {o : Oper} {j d' : Nat} {b b' : Bool} (h : o.guard = some (j, b)) (hd : (ops[j]?).bind (·.dst) = some d') (hv : ρ d' = .bool b') (hb : (b' == b) = false) : wantedE ops ρ o = false := by
  unfold wantedE; rw [h]; dsimp only; rw [hd]; dsimp only; rw [hv]; exact hb

theorem W.v {o : Oper} {v : Value} (hw : wantedE ops ρ o = true) (h : Rv P o ρ v) (k : W P ops K l (put ρ o.dst v) w) : W P ops K (o :: l) ρ w := by
  unfold W; rw [hw, cond_true]; unfold Does; rw [h w]; exact k
theorem W.r {o : Oper} {v : Value} (hw : wantedE ops ρ o = true) (h : Rw P o ρ w v) (k : W P ops K l (put ρ o.dst v) w) : W P ops K (o :: l) ρ w := by
  unfold W; rw [hw, cond_true]; unfold Does; rw [h]; exact k
theorem W.c {o : Oper} (hw : wantedE ops ρ o = true) (h : Does P o ρ w fun v w' => W P ops K l (put ρ o.dst v) w') : W P ops K (o :: l) ρ w := by
  unfold W; rw [hw, cond_true]; exact h
theorem W.n {o : Oper} (hw : wantedE ops ρ o = false) (k : W P ops K l (put ρ o.dst undef) w) : W P ops K (o :: l) ρ w := by
  unfold W; rw [hw, cond_false]; exact k
theorem W.e (k : K ρ w) : W P ops K [] ρ w := k

variable {C : World → Prop} {σ : List (Nat × Bool)}
theorem M.v {i : Nat} {o : Oper} {v : Value} (ho : ops[i]? = some o) (hw : wantedE ops ρ o = true) (h : Rv P o ρ v) (k : M P ops C K σ (put ρ o.dst v) w) : M P ops C K ((i, true) :: σ) ρ w := by
  unfold M; rw [ho]; dsimp only; rw [hw, cond_true, cond_true]; exact ⟨v, fun w' _ => h w', k⟩
theorem M.r {i : Nat} {o : Oper} {v : Value} (ho : ops[i]? = some o) (hw : wantedE ops ρ o = true) (h : ∀ w', C w' → Rw P o ρ w' v) (k : M P ops C K σ (put ρ o.dst v) w) : M P ops C K ((i, true) :: σ) ρ w := by
  unfold M; rw [ho]; dsimp only; rw [hw, cond_true, cond_true]; exact ⟨v, h, k⟩
theorem M.c {i : Nat} {o : Oper} (ho : ops[i]? = some o) (hw : wantedE ops ρ o = true) (h : Does P o ρ w fun v w' => C w' ∧ M P ops C K σ (put ρ o.dst v) w') : M P ops C K ((i, false) :: σ) ρ w := by
  unfold M; rw [ho]; dsimp only; rw [hw, cond_true, cond_false]; exact h
theorem M.n {i : Nat} {q : Bool} {o : Oper} (ho : ops[i]? = some o) (hw : wantedE ops ρ o = false) (k : M P ops C K σ (put ρ o.dst undef) w) : M P ops C K ((i, q) :: σ) ρ w := by
  unfold M; rw [ho]; dsimp only; rw [hw, cond_false]; exact k
theorem M.e (k : K ρ w) : M P ops C K [] ρ w := k

theorem Rv.rw {o : Oper} {v : Value} (h : Rv P o ρ v) : Rw P o ρ w v := h w

/-! ### Values -/

section
variable {x y z : Operand} {t t2 : TypeId} {k k2 : IntKind} {a b : Int}

theorem rv_move : Rv P ⟨d, .move x, ty, pos, af, g⟩ ρ (ev ρ x) := fun _ => rfl
theorem rv_assign : Rv P ⟨d, .assign x, ty, pos, af, g⟩ ρ (ev ρ x) := fun _ => rfl
theorem rv_move' {v : Value} (h : ev ρ x = v) : Rv P ⟨d, .move x, ty, pos, af, g⟩ ρ v := fun _ => by subst h; rfl
theorem rv_assign' {v : Value} (h : ev ρ x = v) : Rv P ⟨d, .assign x, ty, pos, af, g⟩ ρ v := fun _ => by subst h; rfl
theorem rv_pick_t (hc : ev ρ x = .bool true) : Rv P ⟨d, .pick x y z, ty, pos, af, g⟩ ρ (ev ρ y) := fun w => by simp [execOp, hc, asBool]
theorem rv_pick_f (hc : ev ρ x = .bool false) : Rv P ⟨d, .pick x y z, ty, pos, af, g⟩ ρ (ev ρ z) := fun w => by simp [execOp, hc, asBool]
theorem rv_extract {vs : List Value} {i : Nat} {v : Value} (hx : ev ρ x = .tuple vs.toArray) (hv : vs[i]? = some v) : Rv P ⟨d, .extract x i, ty, pos, af, g⟩ ρ v := fun w => by
  simp [execOp, hx, Instr.extract, hv]

theorem rv_add {r : Int} (hx : ev ρ x = .int k a) (hy : ev ρ y = .int k b) (hr : k.wrap (a + b) = r) : Rv P ⟨d, .binOp .add t x y t2, ty, pos, af, g⟩ ρ (.int k r) := fun w => by
  subst hr; simp [execOp, hx, hy, eqGuard, binOp, Op.intArith]
theorem rv_sub {r : Int} (hx : ev ρ x = .int k a) (hy : ev ρ y = .int k b) (hr : k.wrap (a - b) = r) : Rv P ⟨d, .binOp .sub t x y t2, ty, pos, af, g⟩ ρ (.int k r) := fun w => by
  subst hr; simp [execOp, hx, hy, eqGuard, binOp, Op.intArith]
theorem rv_mul {r : Int} (hx : ev ρ x = .int k a) (hy : ev ρ y = .int k b) (hr : k.wrap (a * b) = r) : Rv P ⟨d, .binOp .mul t x y t2, ty, pos, af, g⟩ ρ (.int k r) := fun w => by
  subst hr; simp [execOp, hx, hy, eqGuard, binOp, Op.intArith]
theorem rv_quo {r : Int} (hx : ev ρ x = .int k a) (hy : ev ρ y = .int k b) (h0 : b ≠ 0) (hr : k.wrap (a.tdiv b) = r) : Rv P ⟨d, .binOp .quo t x y t2, ty, pos, af, g⟩ ρ (.int k r) := fun w => by
  subst hr; simp [execOp, hx, hy, eqGuard, binOp, Op.intDiv, h0]
theorem rv_rem {r : Int} (hx : ev ρ x = .int k a) (hy : ev ρ y = .int k b) (h0 : b ≠ 0) (hr : a.tmod b = r) : Rv P ⟨d, .binOp .rem t x y t2, ty, pos, af, g⟩ ρ (.int k r) := fun w => by
  subst hr; simp [execOp, hx, hy, eqGuard, binOp, Op.intDiv, h0]
def iand (k : IntKind) (a b : Int) : Int := k.wrap (BitVec.ofInt k.bits a &&& BitVec.ofInt k.bits b).toNat
def ior (k : IntKind) (a b : Int) : Int := k.wrap (BitVec.ofInt k.bits a ||| BitVec.ofInt k.bits b).toNat
def ixor (k : IntKind) (a b : Int) : Int := k.wrap (BitVec.ofInt k.bits a ^^^ BitVec.ofInt k.bits b).toNat
def iandn (k : IntKind) (a b : Int) : Int := k.wrap (BitVec.ofInt k.bits a &&& ~~~ BitVec.ofInt k.bits b).toNat
theorem rv_and {r : Int} (hx : ev ρ x = .int k a) (hy : ev ρ y = .int k b) (hr : iand k a b = r) : Rv P ⟨d, .binOp .and t x y t2, ty, pos, af, g⟩ ρ (.int k r) := fun w => by
  subst hr; simp [execOp, hx, hy, eqGuard, binOp, Op.intBits, iand]
theorem rv_or {r : Int} (hx : ev ρ x = .int k a) (hy : ev ρ y = .int k b) (hr : ior k a b = r) : Rv P ⟨d, .binOp .or t x y t2, ty, pos, af, g⟩ ρ (.int k r) := fun w => by
  subst hr; simp [execOp, hx, hy, eqGuard, binOp, Op.intBits, ior]
theorem rv_xor {r : Int} (hx : ev ρ x = .int k a) (hy : ev ρ y = .int k b) (hr : ixor k a b = r) : Rv P ⟨d, .binOp .xor t x y t2, ty, pos, af, g⟩ ρ (.int k r) := fun w => by
  subst hr; simp [execOp, hx, hy, eqGuard, binOp, Op.intBits, ixor]
theorem rv_andNot {r : Int} (hx : ev ρ x = .int k a) (hy : ev ρ y = .int k b) (hr : iandn k a b = r) : Rv P ⟨d, .binOp .andNot t x y t2, ty, pos, af, g⟩ ρ (.int k r) := fun w => by
  subst hr; simp [execOp, hx, hy, eqGuard, binOp, Op.intBits, iandn]
def ishl (k : IntKind) (a b : Int) : Int := k.wrap (a * 2 ^ min b.toNat k.bits)
def ishr (k : IntKind) (a b : Int) : Int := a.fdiv (2 ^ min b.toNat k.bits)
theorem rv_shl {r : Int} (hx : ev ρ x = .int k a) (hy : ev ρ y = .int k2 b) (h0 : 0 ≤ b) (hr : ishl k a b = r) : Rv P ⟨d, .binOp .shl t x y t2, ty, pos, af, g⟩ ρ (.int k r) := fun w => by
  subst hr; simp [execOp, hx, hy, eqGuard, binOp, Op.shift, show ¬ b < 0 from by omega, ishl]
theorem rv_shr {r : Int} (hx : ev ρ x = .int k a) (hy : ev ρ y = .int k2 b) (h0 : 0 ≤ b) (hr : ishr k a b = r) : Rv P ⟨d, .binOp .shr t x y t2, ty, pos, af, g⟩ ρ (.int k r) := fun w => by
  subst hr; simp [execOp, hx, hy, eqGuard, binOp, Op.shift, show ¬ b < 0 from by omega, ishr]
theorem rv_lss (hx : ev ρ x = .int k a) (hy : ev ρ y = .int k b) : Rv P ⟨d, .binOp .lss t x y t2, ty, pos, af, g⟩ ρ (.bool (decide (a < b))) := fun w => by
  simp [execOp, hx, hy, eqGuard, binOp, Op.intCmp]
theorem rv_leq (hx : ev ρ x = .int k a) (hy : ev ρ y = .int k b) : Rv P ⟨d, .binOp .leq t x y t2, ty, pos, af, g⟩ ρ (.bool (decide (a ≤ b))) := fun w => by
  simp [execOp, hx, hy, eqGuard, binOp, Op.intCmp]
theorem rv_gtr (hx : ev ρ x = .int k a) (hy : ev ρ y = .int k b) : Rv P ⟨d, .binOp .gtr t x y t2, ty, pos, af, g⟩ ρ (.bool (decide (b < a))) := fun w => by
  simp [execOp, hx, hy, eqGuard, binOp, Op.intCmp]
theorem rv_geq (hx : ev ρ x = .int k a) (hy : ev ρ y = .int k b) : Rv P ⟨d, .binOp .geq t x y t2, ty, pos, af, g⟩ ρ (.bool (decide (b ≤ a))) := fun w => by
  simp [execOp, hx, hy, eqGuard, binOp, Op.intCmp]
theorem rv_eql (hx : ev ρ x = .int k a) (hy : ev ρ y = .int k b) : Rv P ⟨d, .binOp .eql t x y t2, ty, pos, af, g⟩ ρ (.bool (a == b)) := fun w => by
  simp [execOp, hx, hy, eqGuard, binOp, Op.intCmp]
theorem rv_neq (hx : ev ρ x = .int k a) (hy : ev ρ y = .int k b) : Rv P ⟨d, .binOp .neq t x y t2, ty, pos, af, g⟩ ρ (.bool (a != b)) := fun w => by
  simp [execOp, hx, hy, eqGuard, binOp, Op.intCmp]
theorem rv_not {b : Bool} (hx : ev ρ x = .bool b) : Rv P ⟨d, .unOp .not t x, ty, pos, af, g⟩ ρ (.bool (!b)) := fun w => by
  simp [execOp, hx, Op.unary]
theorem rv_neg {r : Int} (hx : ev ρ x = .int k a) (hr : k.wrap (0 - a) = r) : Rv P ⟨d, .unOp .neg t x, ty, pos, af, g⟩ ρ (.int k r) := fun w => by
  subst hr; simp [execOp, hx, Op.unary, Op.intArith]
theorem rv_conv {src dst : TypeId} {su : TypeDesc} {r : Int} (hs : P.underlying src = some su) (hd : P.underlying dst = some (.int k2)) (hx : ev ρ x = .int k a) (hr : k2.wrap a = r) : Rv P ⟨d, .convert src dst x, ty, pos, af, g⟩ ρ (.int k2 r) := fun w => by
  subst hr; simp [execOp, hx, convert, underlying, program, hs, hd, Sem.run, Conv.intToInt]

/-! ### Strings -/

def strEq (a b : ByteArray) : Bool := a.toList == b.toList
def strLt (a b : ByteArray) : Bool := Op.bytesLess a.toList b.toList
variable {s u : ByteArray}
theorem rv_seql (hx : ev ρ x = .string s) (hy : ev ρ y = .string u) : Rv P ⟨d, .binOp .eql t x y t2, ty, pos, af, g⟩ ρ (.bool (strEq s u)) := fun w => by
  simp [execOp, hx, hy, eqGuard, binOp, Op.stringOp, strEq]
theorem rv_sneq (hx : ev ρ x = .string s) (hy : ev ρ y = .string u) : Rv P ⟨d, .binOp .neq t x y t2, ty, pos, af, g⟩ ρ (.bool (!strEq s u)) := fun w => by
  simp [execOp, hx, hy, eqGuard, binOp, Op.stringOp, strEq]
theorem rv_slss (hx : ev ρ x = .string s) (hy : ev ρ y = .string u) : Rv P ⟨d, .binOp .lss t x y t2, ty, pos, af, g⟩ ρ (.bool (strLt s u)) := fun w => by
  simp [execOp, hx, hy, eqGuard, binOp, Op.stringOp, strLt]
theorem rv_sleq (hx : ev ρ x = .string s) (hy : ev ρ y = .string u) : Rv P ⟨d, .binOp .leq t x y t2, ty, pos, af, g⟩ ρ (.bool (strLt s u || strEq s u)) := fun w => by
  simp [execOp, hx, hy, eqGuard, binOp, Op.stringOp, strLt, strEq]
theorem rv_sgtr (hx : ev ρ x = .string s) (hy : ev ρ y = .string u) : Rv P ⟨d, .binOp .gtr t x y t2, ty, pos, af, g⟩ ρ (.bool (!(strLt s u || strEq s u))) := fun w => by
  simp [execOp, hx, hy, eqGuard, binOp, Op.stringOp, strLt, strEq]
theorem rv_sgeq (hx : ev ρ x = .string s) (hy : ev ρ y = .string u) : Rv P ⟨d, .binOp .geq t x y t2, ty, pos, af, g⟩ ρ (.bool (!strLt s u)) := fun w => by
  simp [execOp, hx, hy, eqGuard, binOp, Op.stringOp, strLt]
theorem rv_sadd (hx : ev ρ x = .string s) (hy : ev ρ y = .string u) (hb : s.size + u.size ≤ 9223372036854775807) : Rv P ⟨d, .binOp .add t x y t2, ty, pos, af, g⟩ ρ (.string (s ++ u)) := fun w => by
  have : ¬ ((s.size + u.size : Nat) : Int) > IntKind.i64.max := by
    have : IntKind.i64.max = 9223372036854775807 := by decide
    rw [this]; omega
  simp only [execOp, hx, hy, Sem.run_bind, eqGuard, binOp, Op.stringOp, if_neg this]
  rfl

/-! ### Lengths, slices -/

theorem rv_len {A : Option Addr} {n c : Nat} {e : TypeId} (ht : P.underlying t = some (.slice e)) (hx : ev ρ x = .slice A n c) :
    Rv P ⟨d, .call { callee := .builtin .len, args := #[x], argTypes := #[t] }, ty, pos, af, g⟩ ρ (.int .i64 n) := fun w => by
  simp [execOp, resolve, invoke, builtin, Builtin.len_, hx, underlying, program, ht, Sem.run, goInt]
theorem rv_slen (ht : P.underlying t = some .string) (hx : ev ρ x = .string s) :
    Rv P ⟨d, .call { callee := .builtin .len, args := #[x], argTypes := #[t] }, ty, pos, af, g⟩ ρ (.int .i64 s.size) := fun w => by
  simp [execOp, resolve, invoke, builtin, Builtin.len_, hx, underlying, program, ht, Sem.run, goInt]
theorem rv_min {ts : Array TypeId} {r : Int} (hx : ev ρ x = .int k a) (hy : ev ρ y = .int k2 b) (hr : (if b < a then b else a) = r) :
    Rv P ⟨d, .call { callee := .builtin .min, args := #[x, y], argTypes := ts }, ty, pos, af, g⟩ ρ (.int k r) := fun w => by
  subst hr; simp [execOp, resolve, invoke, builtin, Builtin.min_, Builtin.min2, hx, hy]
theorem rv_max {ts : Array TypeId} {r : Int} (hx : ev ρ x = .int k a) (hy : ev ρ y = .int k2 b) (hr : (if a < b then b else a) = r) :
    Rv P ⟨d, .call { callee := .builtin .max, args := #[x, y], argTypes := ts }, ty, pos, af, g⟩ ρ (.int k r) := fun w => by
  subst hr; simp [execOp, resolve, invoke, builtin, Builtin.max_, Builtin.max2, hx, hy]

end
end Go.Mg
