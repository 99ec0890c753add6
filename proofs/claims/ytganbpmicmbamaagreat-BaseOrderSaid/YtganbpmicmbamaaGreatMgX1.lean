/- The control layer: a walk over environments (a function from slots to values) in the place of frames; Regions that draw their order: one walk, in an order that a check finds to serve for all; Memory: how values stand for data, and what a step leaves alone; Operations that look at values alone, and loads; Slices that are read, variables in memory, calls; What makes and writes memory: variables, literals, append; Slices of the call's own: literals, append, stores; what a walk carries along; Rounds; how a pure text is taken apart. -/
import Derived.Tactics
import Derived.OrdersHeld
import Derived.KernelRfl
import Derived.Deep.LoopGhost
import Derived.Laws.AppendOwn
import Derived.Laws.OwnMore
import Derived.Laws.MakeOwn
import Derived.Below
import Derived.Laws.Slices
import Derived.Laws.Tables
import Derived.Great.BuildSlice
import Derived.Laws.Cover3
import Derived.Laws.Small
namespace Go.Mg
open Go
set_option linter.unusedVariables false
abbrev En := Nat → Value
def upd (ρ : En) (d : Nat) (v : Value) : En := fun t => bif Nat.beq t d then v else ρ t
def ev (ρ : En) : Operand → Value
 | .tmp t => ρ t
 | .const v => v
 | .global g => .pointer (some ⟨g, 0, none⟩)
 | .func f => .func (.func f) #[] #[]
def put (ρ : En) : Option Tmp → Value → En
 | some d, v => upd ρ d v
 | none, _ => ρ
structure Ag (a : Act) (N : Nat) (ρ : En) : Prop where
 d : a.defers = []
 s : a.tmps.size = N
 g : ∀ t, a.tmps.getD t undef = ρ t
theorem Ag.eval {a : Act} {N : Nat} {ρ : En} (h : Ag a N ρ) : a.eval = ev ρ := by
 funext x; cases x <;> simp [Act.eval, ev, h.g]
theorem beq_ne {a b : Nat} (h : a ≠ b) : Nat.beq a b = false := by
 cases e : Nat.beq a b with
 | false => rfl
 | true => exact absurd (Nat.eq_of_beq_eq_true e) h
theorem Ag.put {a : Act} {N : Nat} {ρ : En} (h : Ag a N ρ) (dst : Option Tmp) (hd : ∀ d, dst = some d → d < N) (v : Value) : Ag (a.put dst v) N (Mg.put ρ dst v) := by
 cases dst with
 | none => exact h
 | some d =>
  have hlt := hd d rfl; refine ⟨h.d, by simp [Act.put, h.s], fun t => ?_⟩; have hg := h.g t
  by_cases e : t = d
  ·subst e; simp [Act.put, Mg.put, upd, Array.getD, h.s, hlt]
  ·have e' : Nat.beq t d = false := beq_ne e; simp only [Act.put, Mg.put, upd, e', cond_false]; rw [← hg]; simp only [Array.getD_eq_getD_getElem?]; rw [Array.getElem?_setIfInBounds_ne (by omega)]
def dstOk (N : Nat) (ops : Array Oper) : Bool := ops.toList.all fun o => match o.dst with | some d => Nat.blt d N | none => true
def okN (N : Nat) : Code → Bool
 | .region _ ops _ => dstOk N ops
 | .seq a b => okN N a && okN N b
 | .cond _ a b => okN N a && okN N b
 | .block _ a => okN N a
 | .loop a => okN N a
 | .scope a => okN N a
 | .rangeFunc .. => false
 | _ => true
structure Ps where
 n : En → World → Prop
 r : En → World → Prop
 x : List (Nat × (En → World → Prop))
def Ps.look : List (Nat × (En → World → Prop)) → Nat → En → World → Prop
 | [], _, _, _ => False
 | (i, E) :: l, j, ρ, w => bif Nat.beq i j then E ρ w else Ps.look l j ρ w
def Ps.ok (Q : Ps) : Exit → En → World → Prop
 | .normal, ρ, w => Q.n ρ w
 | .ret, ρ, w => Q.r ρ w
 | .exit i, ρ, w => Ps.look Q.x i ρ w
 | _, _, _ => False
variable {P : Program}
def CW (P : Program) (N : Nat) (c : Code) (Q : Ps) (ρ : En) (w : World) : Prop :=
 okN N c = true → ∀ a, Ag a N ρ → c.wp P (fun e a' w' => ∃ ρ', Ag a' N ρ' ∧ Q.ok e ρ' w') a w
variable {N : Nat} {Q : Ps} {ρ : En} {w : World} {qn qr : En → World → Prop} {qx : List (Nat × (En → World → Prop))}
theorem CW.mono {c : Code} {Q' : Ps} (hn : ∀ ρ w, Q.n ρ w → Q'.n ρ w) (hr : ∀ ρ w, Q.r ρ w → Q'.r ρ w) (hx : ∀ i ρ w, Ps.look Q.x i ρ w → Ps.look Q'.x i ρ w)
 (h : CW P N c Q ρ w) : CW P N c Q' ρ w := fun hk a ha => Code.wp_mono (fun e a' w' ⟨ρ', hg, hq⟩ => ⟨ρ', hg, by cases e <;> first | exact hn _ _ hq | exact hr _ _ hq | exact hx _ _ _ hq | exact hq.elim⟩) (h hk a ha)
theorem ql {a b : Code} (h : ∀ K : En → World → Prop, (∀ ρ w, CW P N b ⟨qn, qr, qx⟩ ρ w → K ρ w) → CW P N a ⟨K, qr, qx⟩ ρ w) : CW P N (.seq a b) ⟨qn, qr, qx⟩ ρ w := by
 intro hk ac hac; simp only [okN, Bool.and_eq_true] at hk; refine wp_seq (Code.wp_mono ?_ (h (CW P N b ⟨qn, qr, qx⟩) (fun _ _ h => h) hk.1 ac hac)); rintro e a' w' ⟨ρ', hg, hq⟩
 cases e with
 | normal => exact hq hk.2 a' hg
 | _ => exact ⟨ρ', hg, hq⟩
theorem xd {a b : Code} (M : En → World → Prop) (h : CW P N a ⟨M, qr, qx⟩ ρ w) (h2 : ∀ ρ w, M ρ w → CW P N b ⟨qn, qr, qx⟩ ρ w) : CW P N (.seq a b) ⟨qn, qr, qx⟩ ρ w :=
 ql fun _ hK => CW.mono (Q := ⟨M, qr, qx⟩) (fun _ _ hm => hK _ _ (h2 _ _ hm)) (fun _ _ h => h) (fun _ _ _ h => h) h
theorem qs (h : qn ρ w) : CW P N .skip ⟨qn, qr, qx⟩ ρ w := fun _ a ha => wp_skip ⟨ρ, ha, h⟩
theorem qw (h : qr ρ w) : CW P N .ret ⟨qn, qr, qx⟩ ρ w := fun _ a ha => wp_ret ⟨ρ, ha, h⟩
theorem xv {i : Nat} (h : Ps.look qx i ρ w) : CW P N (.exit i) ⟨qn, qr, qx⟩ ρ w := fun _ a ha => wp_exit ⟨ρ, ha, h⟩
theorem cw_true {c : Operand} {x y : Code} (hc : ev ρ c = .bool true) (h : CW P N x Q ρ w) : CW P N (.cond c x y) Q ρ w := fun hk a ha => by
 simp only [okN, Bool.and_eq_true] at hk; exact wp_cond (t := true) (by rw [ha.eval]; exact hc) (h hk.1 a ha)
theorem cw_false {c : Operand} {x y : Code} (hc : ev ρ c = .bool false) (h : CW P N y Q ρ w) : CW P N (.cond c x y) Q ρ w := fun hk a ha => by
 simp only [okN, Bool.and_eq_true] at hk; exact wp_cond (t := false) (by rw [ha.eval]; exact hc) (by simpa using h hk.2 a ha)
theorem qz {i : Nat} {c : Code} (h : CW P N c ⟨qn, qr, (i, qn) :: qx⟩ ρ w) : CW P N (.block i c) ⟨qn, qr, qx⟩ ρ w := fun hk a ha => by
 refine wp_block (Code.wp_mono ?_ (h hk a ha)); rintro e a' w' ⟨ρ', hg, hq⟩
 cases e with
 | exit j =>
  simp only [Ps.ok, Ps.look] at hq
  by_cases e : i = j
  ·subst e; simp only [Nat.beq_refl, cond_true] at hq; simp only [Exit.inBlock, if_true]; exact ⟨ρ', hg, hq⟩
  ·have e' : Nat.beq i j = false := beq_ne e; simp only [e', cond_false] at hq; simp only [Exit.inBlock]; rw [if_neg (by first | exact e | exact fun h => e h.symm)]; exact ⟨ρ', hg, hq⟩
 | _ => exact ⟨ρ', hg, hq⟩
theorem cw_loop {c : Code} (I : Nat → En → World → Prop) (n : Nat) (h0 : I n ρ w)
 (hb : ∀ n ρ w, I n ρ w → CW P N c ⟨fun ρ' w' => ∃ m, m < n ∧ I m ρ' w', qr, qx⟩ ρ w) : CW P N (.loop c) ⟨qn, qr, qx⟩ ρ w := fun hk a ha => by
 refine wp_loop_ghost (fun n a w => ∃ ρ, Ag a N ρ ∧ I n ρ w) n ⟨ρ, ha, h0⟩ ?_; rintro n a w ⟨ρ, ha, h⟩; refine Code.wp_mono ?_ (hb _ ρ w h hk a ha); rintro e a' w' ⟨ρ', hg, hq⟩
 cases e with
 | normal =>
  obtain ⟨m, hm, hIm⟩ := hq; exact ⟨m, hm, ρ', hg, hIm⟩
 | _ => exact ⟨ρ', hg, hq⟩
def wantedE (ops : Array Oper) (ρ : En) (o : Oper) : Bool :=
 match o.guard with
 | none => true
 | some (j, want) => match (ops[j]?).bind (·.dst) with
  | some d => match ρ d with
   | .bool b => b == want
   | _ => false
  | none => false
def Does (P : Program) (o : Oper) (ρ : En) (w : World) (k : Value → World → Prop) : Prop :=
 match (execOp (ev ρ) o).run P w with
 | .ok (.value v) w' => k v w'
 | .ok .skip w' => k undef w'
 | .ok (.enter f args) w' => Calls P f args w' fun e w'' => ∃ v, e = .returned v ∧ k v w''
 | _ => False
def W (P : Program) (ops : Array Oper) (K : En → World → Prop) : List Oper → En → World → Prop
 | [], ρ, w => K ρ w
 | o :: l, ρ, w => bif wantedE ops ρ o then Does P o ρ w (fun v w' => W P ops K l (put ρ o.dst v) w') else W P ops K l (put ρ o.dst undef) w
theorem wanted_of {ops : Array Oper} {a : Act} (hd : dstOk N ops = true) (ha : Ag a N ρ) (o : Oper) : Region.wanted o (yielded ops a.tmps) = wantedE ops ρ o := by
 unfold Region.wanted wantedE; cases hg : o.guard with
 | none => rfl
 | some p =>
  obtain ⟨j, want⟩ := p; simp only [yielded]; cases hj : ((ops[j]?).bind fun x => x.dst) with
  | none => simp
  | some d =>
   have hdN : d < N := by
    cases ho : ops[j]? with
    | none => simp [ho] at hj
    | some oj =>
     simp [ho] at hj
     have hmem : oj ∈ ops.toList := by
      rw [Array.getElem?_eq_some_iff] at ho; obtain ⟨hlt, he⟩ := ho; rw [← he]; simp
     have := List.all_eq_true.1 hd oj hmem; rw [hj] at this; simpa using this
   have hgd := ha.g d
   have hs : d < a.tmps.size := by rw [ha.s]; exact hdN
   simp only [Option.bind_some, Array.getElem?_eq_getElem hs]
   have : a.tmps[d] = ρ d := by rw [← hgd]; simp [Array.getD, hs]
   rw [this]
   cases ρ d <;> simp
theorem Does.wp {o : Oper} {a : Act} {k : Value → World → Prop} (ha : Ag a N ρ) (hd : ∀ d, o.dst = some d → d < N) {K : Act → World → Prop} {Q' : Exit → Act → World → Prop}
 (hK : ∀ v w', k v w' → K (a.put o.dst v) w') (h : Does P o ρ w k) : o.wp P a w K Q' := by
 unfold Oper.wp; unfold Does at h; rw [ha.eval]
 generalize (execOp (ev ρ) o).run P w = r at h ⊢
 cases r with
 | halt x w' => exact h.elim
 | ok n w' =>
  cases n with
  | value v => exact hK _ _ h
  | skip => exact hK _ _ h
  | enter f args => exact Calls.mono h fun e w'' ⟨v, he, hv⟩ => by subst he; exact hK _ _ hv
  | _ => exact h.elim
theorem wpList_of_W {ops : Array Oper} {K : En → World → Prop} (hd : dstOk N ops = true) {Q' : Exit → Act → World → Prop} (hQ : ∀ ρ' a' w', Ag a' N ρ' → K ρ' w' → Q' .normal a' w') :
 ∀ (l : List Oper), (∀ o ∈ l, o ∈ ops.toList) → ∀ (ρ : En) (a : Act) (w : World), Ag a N ρ → W P ops K l ρ w → wpList P ops Q' l a w
 | [], _, ρ, a, w, ha, h => hQ _ _ _ ha h
 | o :: l, hl, ρ, a, w, ha, h => by
  have hdo : ∀ d, o.dst = some d → d < N := fun d e => by
   have := List.all_eq_true.1 hd o (hl o (List.mem_cons_self ..)); rw [e] at this; simpa using this
  have hl' : ∀ o ∈ l, o ∈ ops.toList := fun o' ho' => hl o' (List.mem_cons_of_mem _ ho'); unfold wpList; rw [wanted_of hd ha o]; unfold W at h; cases hw : wantedE ops ρ o with
  | true =>
   rw [hw] at h; simp only [cond_true] at h; rw [if_pos rfl]; exact .inl (Does.wp ha hdo (fun v w' hk => wpList_of_W hd hQ l hl' _ _ _ (ha.put o.dst hdo v) hk) h)
  | false =>
   rw [hw] at h; simp only [cond_false] at h; rw [if_neg (by simp)]; exact wpList_of_W hd hQ l hl' _ _ _ (ha.put o.dst hdo undef) h
theorem qf {id : Nat} {l : List Oper} (h : W P l.toArray qn l ρ w) : CW P N (.region id l.toArray false) ⟨qn, qr, qx⟩ ρ w := fun hk a ha =>
 wp_region_list (wpList_of_W (K := qn) (N := N) hk (fun ρ' a' w' hg hq => ⟨ρ', hg, hq⟩) _ (fun o h => by simpa using h) ρ a w ha (by simpa using h) : wpList P l.toArray (fun e a' w' => ∃ ρ', Ag a' N ρ' ∧ (Ps.mk qn qr qx).ok e ρ' w') l.toArray.toList a w)
def resTs : List ResultVar → Option (List Tmp)
 | [] => some []
 | .tmp t :: l => (resTs l).map (t :: ·)
 | .cell _ _ :: _ => none
def resV (rs : List ResultVar) (ρ : En) : Option Value :=
 match resTs rs with
 | some [t] => some (ρ t)
 | some ts => some (.tuple (ts.map ρ).toArray)
 | none => none
theorem resTs_spec : ∀ {rs : List ResultVar} {ts : List Tmp}, resTs rs = some ts → rs = ts.map .tmp
 | [], ts, h => by simp [resTs] at h; subst h; rfl
 | .tmp t :: l, ts, h => by
  simp only [resTs, Option.map_eq_some_iff] at h; obtain ⟨us, hu, rfl⟩ := h; rw [resTs_spec hu]; rfl
 | .cell _ _ :: _, _, h => by simp [resTs] at h
theorem mapM_tmps (tmps : Array Value) : ∀ (ts : List Tmp), ((ts.map ResultVar.tmp).mapM (m := Sem) fun x => match x with
 | .tmp t => pure (tmps.getD t undef)
 | .cell c t => do loadVar t (← asAddr (tmps.getD c undef))).run P w = .ok (ts.map fun t => tmps.getD t undef) w
 | [] => by simp
 | t :: ts => by
  rw [List.map_cons, List.mapM_cons]; simp only [Sem.run_bind, Sem.run_pure, Result.andThen_ok, mapM_tmps tmps ts, List.map_cons]
theorem results_of {fn : Func} {a : Act} {v : Value} (ha : Ag a N ρ) (h : resV fn.results.toList ρ = some v) : (results fn a.tmps).run P w = .ok v w := by
 unfold resV at h; cases hts : resTs fn.results.toList with
 | none => rw [hts] at h; cases h
 | some ts =>
  rw [hts] at h
  have hr : fn.results = (ts.map ResultVar.tmp).toArray := by rw [← resTs_spec hts]
  have hm := mapM_tmps (P := P) (w := w) a.tmps ts; have hg : (ts.map fun t => a.tmps.getD t undef) = ts.map ρ := List.map_congr_left fun t _ => ha.g t; rw [hg] at hm; unfold results; rw [hr, List.mapM_toArray]; simp only [Sem.run_bind, Sem.run_map]
  erw [hm]
  simp only [Result.andThen_ok, Sem.run_pure, List.size_toArray]
  match ts, h with
  | [t], h => simp at h; subst h; simp
  | [], h => simp at h; subst h; simp
  | t :: u :: ts, h => simp at h; subst h; simp
def Res (rs : List ResultVar) (R : Ending → World → Prop) (ρ : En) (w : World) : Prop := ∃ v, resV rs ρ = some v ∧ R (.returned v) w
theorem enter {f : FuncId} {fn : Func} {c : Code} {args : List Value} {R : Ending → World → Prop} (hf : P.funcs[f]? = some fn) (hb : fn.body = some c)
 (hok : okN fn.ntmps c = true) (hsz : Nat.ble args.length fn.ntmps = true)
 (h : CW P fn.ntmps c ⟨Res fn.results.toList R, Res fn.results.toList R, []⟩ (fun t => args.getD t undef) w) : Calls P f args.toArray w R := by
 refine calls_of_wp hf hb ?_; have hle : args.length ≤ fn.ntmps := Nat.le_of_ble_eq_true hsz; refine Code.wp_mono ?_ (h hok ⟨args.toArray ++ Array.replicate (fn.ntmps - args.toArray.size) undef, []⟩ ⟨rfl, by simp; omega, fun t => ?_⟩)
 ·rintro e a' w' ⟨ρ', hg, hq⟩
  cases e with
  | normal => obtain ⟨v, h1, h2⟩ := hq; exact ⟨hg.d, v, results_of hg h1, h2⟩
  | ret => obtain ⟨v, h1, h2⟩ := hq; exact ⟨hg.d, v, results_of hg h1, h2⟩
  | exit i => exact hq.elim
  | _ => exact hq.elim
 ·simp only [Array.getD_eq_getD_getElem?, List.getD_eq_getElem?_getD]
  by_cases ht : t < args.length
  ·rw [Array.getElem?_append_left (by simpa using ht)]; simp
  ·rw [Array.getElem?_append_right (by simpa using Nat.le_of_not_lt ht)]; rw [List.getElem?_eq_none (Nat.le_of_not_lt ht)]; rw [Array.getElem?_replicate]
   split <;> rfl
end Go.Mg

namespace Go.Mg
open Go
variable {P : Program} {N : Nat} {Q : Ps} {ρ : En} {w : World} {qn qr : En → World → Prop} {qx : List (Nat × (En → World → Prop))}
def M (P : Program) (ops : Array Oper) (C : World → Prop) (K : En → World → Prop) : List (Nat × Bool) → En → World → Prop
 | [], ρ, w => K ρ w
 | (i, q) :: σ, ρ, w => match ops[i]? with
  | none => False
  | some o => bif wantedE ops ρ o then
   (bif q then ∃ v, (∀ w', C w' → (execOp (ev ρ) o).run P w' = .ok (.value v) w') ∧ M P ops C K σ (put ρ o.dst v) w
    else Does P o ρ w fun v w' => C w' ∧ M P ops C K σ (put ρ o.dst v) w')
   else M P ops C K σ (put ρ o.dst undef) w
end Go.Mg

namespace Go.Mg
open Go
def No : Nat → Prop := fun _ => False
def Or (S T : Nat → Prop) : Nat → Prop := fun b => S b ∨ T b
def One (b : Nat) : Nat → Prop := fun k => k = b
structure Up (F : Nat → Prop) (w w' : World) : Prop where
 os : w'.os = w.os
 tape : w'.tape = w.tape
 output : w'.output = w.output
 size : w.heap.size ≤ w'.heap.size
 block : ∀ k, k < w.heap.size → ¬ F k → w'.heap[k]? = w.heap[k]?
def Sm (S : Nat → Prop) (w w' : World) : Prop := ∀ b, S b → b < w.heap.size → w'.heap[b]? = w.heap[b]?
theorem Up.refl (F : Nat → Prop) (w : World) : Up F w w := ⟨rfl, rfl, rfl, Nat.le_refl _, fun _ _ _ => rfl⟩
theorem Up.trans {F : Nat → Prop} {a b c : World} (h : Up F a b) (k : Up F b c) : Up F a c :=
 ⟨k.os.trans h.os, k.tape.trans h.tape, k.output.trans h.output, Nat.le_trans h.size k.size, fun i hi hF => (k.block i (Nat.lt_of_lt_of_le hi h.size) hF).trans (h.block i hi hF)⟩
theorem Up.mono {F G : Nat → Prop} {w w' : World} (h : Up F w w') (hFG : ∀ b, b < w.heap.size → F b → G b) : Up G w w' :=
 ⟨h.os, h.tape, h.output, h.size, fun k hk hG => h.block k hk (fun hF => hG (hFG k hk hF))⟩
theorem Up.then {F G : Nat → Prop} {a b c : World} (h : Up F a b) (k : Up G b c) (hG : ∀ x, x < a.heap.size → G x → F x) : Up F a c :=
 ⟨k.os.trans h.os, k.tape.trans h.tape, k.output.trans h.output, Nat.le_trans h.size k.size, fun i hi hF => (k.block i (Nat.lt_of_lt_of_le hi h.size) (fun hg => hF (hG i hi hg))).trans (h.block i hi hF)⟩
theorem Up.no {F : Nat → Prop} {w w' : World} (h : Up No w w') : Up F w w' := h.mono fun _ _ hf => hf.elim
theorem Up.sm {F S : Nat → Prop} {w w' : World} (h : Up F w w') (hS : ∀ b, S b → b < w.heap.size → ¬ F b) : Sm S w w' := fun b hb hl => h.block b hl (hS b hb hl)
theorem Up.sm0 {S : Nat → Prop} {w w' : World} (h : Up No w w') : Sm S w w' := h.sm fun _ _ _ hf => hf
theorem Up.drew (F : Nat → Prop) (w : World) : Up F w w.drew := ⟨rfl, rfl, rfl, Nat.le_refl _, fun _ _ _ => rfl⟩
theorem Up.alloc (F : Nat → Prop) (w : World) (o : Obj) : Up F w (w.alloc o) := ⟨rfl, rfl, rfl, by simp, fun k hk _ => heap_alloc_old w o k hk⟩
theorem Up.below {w w' : World} (h : Up No w w') : Go.RowKit.Below w.heap.size w w' := ⟨h.os, h.tape, h.output, h.size, fun k hk => h.block k hk (fun h => h)⟩
theorem Sm.refl (S : Nat → Prop) (w : World) : Sm S w w := fun _ _ _ => rfl
theorem Sm.trans {S T : Nat → Prop} {a b c : World} (h : Sm S a b) (k : Sm T b c) (hs : a.heap.size ≤ b.heap.size) (hST : ∀ x, S x → T x) : Sm S a c :=
 fun x hx hl => (k x (hST x hx) (Nat.lt_of_lt_of_le hl hs)).trans (h x hx hl)
theorem Sm.mono {S T : Nat → Prop} {a b : World} (h : Sm S a b) (hTS : ∀ x, T x → S x) : Sm T a b := fun x hx hl => h x (hTS x hx) hl
structure Kd (α : Type) where
 sz : Nat
 agg : Bool
 rep : (Nat → Prop) → World → List Value → α → Prop
 len : ∀ {S w cs x}, rep S w cs x → cs.length = sz
 one : ∀ {S w cs x}, rep S w cs x → ∀ c ∈ cs, c.oneCell' = true
 mono : ∀ {S S' : Nat → Prop} {w w' : World} {cs x}, rep S w cs x → (∀ b, S b → S' b) → Sm S w w' → rep S' w' cs x
 sg : agg = false → sz = 1
def Kd.val {α : Type} (k : Kd α) (cs : List Value) : Value := if k.agg then .agg cs.toArray else cs.headD undef
def Sl {α : Type} (k : Kd α) (S : Nat → Prop) (w : World) (v : Value) (x : α) : Prop := ∃ cs, v = k.val cs ∧ k.rep S w cs x
theorem Sl.up {α : Type} {k : Kd α} {S S' : Nat → Prop} {w w' : World} {v : Value} {x : α} (h : Sl k S w v x) (hS : ∀ b, S b → S' b) (hw : Sm S w w') : Sl k S' w' v x :=
 let ⟨cs, hv, hr⟩ := h
 ⟨cs, hv, k.mono hr hS hw⟩
theorem Sl.to {α : Type} {k : Kd α} {S : Nat → Prop} {w w' : World} {v : Value} {x : α} (h : Sl k S w v x) (hw : Sm S w w') : Sl k S w' v x := h.up (fun _ h => h) hw
theorem Sl.in {α : Type} {k : Kd α} {S S' : Nat → Prop} {w : World} {v : Value} {x : α} (h : Sl k S w v x) (hS : ∀ b, S b → S' b) : Sl k S' w v x := h.up hS (Sm.refl _ _)
theorem cells_one {c : Value} (h : c.oneCell' = true) : c.cells = #[c] := by cases c <;> simp_all [Value.oneCell', Value.cells]
theorem Kd.val_cells {α : Type} (k : Kd α) {S : Nat → Prop} {w : World} {cs : List Value} {x : α} (h : k.rep S w cs x) : (k.val cs).cells = cs.toArray := by
 unfold Kd.val; cases ha : k.agg with
 | true => rfl
 | false =>
  have h1 := k.len h; rw [k.sg ha] at h1
  match cs, h1 with
  | [c], _ => simp [cells_one (k.one h c (by simp))]
def kSc {α : Type} (enc : α → Value) (h : ∀ x, (enc x).oneCell' = true) : Kd α where
 sz := 1
 agg := false
 rep _ _ cs x := cs = [enc x]
 len h := by subst h; rfl
 one e c hc := by subst e; simp at hc; subst hc; exact h _
 mono h _ _ := h
 sg _ := rfl
theorem sl_sc {α : Type} {enc : α → Value} {h : ∀ x, (enc x).oneCell' = true} {S : Nat → Prop} {w : World} {v : Value} {x : α} : Sl (kSc enc h) S w v x ↔ v = enc x :=
 ⟨fun ⟨cs, hv, hr⟩ => by have hr : cs = [enc x] := hr; subst hr; exact hv, fun h => ⟨[enc x], h, rfl⟩⟩
def kI (k : IntKind) : Kd Int := kSc (.int k) (fun _ => rfl)
def kB : Kd Bool := kSc .bool (fun _ => rfl)
def kS : Kd ByteArray := kSc .string (fun _ => rfl)
def Row {α : Type} (k : Kd α) (S : Nat → Prop) (w : World) (b off : Nat) (xs : List α) : Prop :=
 ∀ i x, xs[i]? = some x → ∃ cs, k.rep S w cs x ∧ ∀ j c, cs[j]? = some c → w.cell? ⟨b, off + i * k.sz + j, none⟩ = some c
theorem cell_same {w w' : World} {b o : Nat} {c : Value} (h : w.cell? ⟨b, o, none⟩ = some c) (hb : b < w.heap.size → w'.heap[b]? = w.heap[b]?) : w'.cell? ⟨b, o, none⟩ = some c :=
 (World.cell?_of_block (w := w) (hb (World.block_lt_of_cell? w _ h))).trans h
theorem Row.to {α : Type} {k : Kd α} {S S' : Nat → Prop} {w w' : World} {b off : Nat} {xs : List α} (h : Row k S w b off xs) (hS : ∀ b, S b → S' b) (hw : Sm S w w') (hb : b < w.heap.size → w'.heap[b]? = w.heap[b]?) :
 Row k S' w' b off xs := fun i x hx =>
 let ⟨cs, hr, hc⟩ := h i x hx
 ⟨cs, k.mono hr hS hw, fun j c hj => cell_same (hc j c hj) hb⟩
def lim : Nat := 140737488355328
def kSl {α : Type} (k : Kd α) : Kd (List α) where
 sz := 1
 agg := false
 rep S w cs xs := ∃ A c, cs = [.slice A xs.length c] ∧ xs.length ≤ c ∧ xs.length ≤ lim ∧ (xs = [] ∨ ∃ b off, A = some ⟨b, off, none⟩ ∧ S b ∧ Row k S w b off xs)
 len h := by obtain ⟨A, c, rfl, _⟩ := h; rfl
 one h c hc := by obtain ⟨A, c, rfl, _⟩ := h; simp at hc; subst hc; rfl
 mono h hS hw := by
  obtain ⟨A, c, h1, h2, h3, h4⟩ := h; refine ⟨A, c, h1, h2, h3, ?_⟩; rcases h4 with h4 | ⟨b, off, hA, hb, hr⟩
  ·exact .inl h4
  ·exact .inr ⟨b, off, hA, hS b hb, hr.to hS hw (hw b hb)⟩
 sg _ := rfl
theorem sl_slice {α : Type} {k : Kd α} {S : Nat → Prop} {w : World} {v : Value} {xs : List α} :
 Sl (kSl k) S w v xs ↔ ∃ A c, v = .slice A xs.length c ∧ xs.length ≤ c ∧ xs.length ≤ lim ∧ (xs = [] ∨ ∃ b off, A = some ⟨b, off, none⟩ ∧ S b ∧ Row k S w b off xs) :=
 ⟨fun ⟨cs, hv, A, c, h1, h2⟩ => by subst h1; exact ⟨A, c, hv, h2⟩, fun ⟨A, c, hv, h2⟩ => ⟨[.slice A xs.length c], hv, A, c, rfl, h2⟩⟩
theorem yz {α : Type} (k : Kd α) (S : Nat → Prop) (w : World) : Sl (kSl k) S w (.slice none 0 0) [] :=
 sl_slice.2 ⟨none, 0, rfl, Nat.le_refl _, Nat.zero_le _, .inl rfl⟩
inductive Chk {α : Type} (k : Kd α) (S : Nat → Prop) (w : World) : List Value → List α → Prop
 | nil : Chk k S w [] []
 | cons {c cs x xs} : k.rep S w c x → Chk k S w cs xs → Chk k S w (c ++ cs) (x :: xs)
theorem Chk.to {α : Type} {k : Kd α} {S S' : Nat → Prop} {w w' : World} {cs : List Value} {xs : List α} (h : Chk k S w cs xs) (hS : ∀ b, S b → S' b) (hw : Sm S w w') : Chk k S' w' cs xs := by
 induction h with
 | nil => exact .nil
 | cons h1 _ ih => exact .cons (k.mono h1 hS hw) ih
theorem Chk.append {α : Type} {k : Kd α} {S : Nat → Prop} {w : World} {cs ds : List Value} {xs ys : List α} (h : Chk k S w cs xs) (h2 : Chk k S w ds ys) : Chk k S w (cs ++ ds) (xs ++ ys) := by
 induction h with
 | nil => exact h2
 | cons h1 _ ih => rw [List.append_assoc, List.cons_append]; exact .cons h1 ih
theorem Chk.len {α : Type} {k : Kd α} {S : Nat → Prop} {w : World} {cs : List Value} {xs : List α} (h : Chk k S w cs xs) : cs.length = xs.length * k.sz := by
 induction h with
 | nil => simp
 | cons h1 _ ih => rw [List.length_append, k.len h1, ih, List.length_cons, Nat.succ_mul, Nat.add_comm]
theorem Chk.one {α : Type} {k : Kd α} {S : Nat → Prop} {w : World} {cs : List Value} {xs : List α} (h : Chk k S w cs xs) : ∀ c ∈ cs, c.oneCell' = true := by
 induction h with
 | nil => simp
 | cons h1 _ ih => intro c hc; exact (List.mem_append.1 hc).elim (k.one h1 c) (ih c)
theorem Chk.at {α : Type} {k : Kd α} {S : Nat → Prop} {w : World} {cs : List Value} {xs : List α} (h : Chk k S w cs xs) :
 ∀ i x, xs[i]? = some x → ∃ c, k.rep S w c x ∧ ∀ j u, c[j]? = some u → cs[i * k.sz + j]? = some u := by
 induction h with
 | nil => intro i x hx; simp at hx
 | @cons c cs x xs h1 h2 ih =>
  intro i y hy
  cases i with
  | zero =>
   simp at hy; subst hy; refine ⟨c, h1, fun j u hu => ?_⟩; have hj : j < c.length := (List.getElem?_eq_some_iff.1 hu).1; simp only [Nat.zero_mul, Nat.zero_add]; rw [List.getElem?_append_left hj]; exact hu
  | succ i =>
   simp at hy; obtain ⟨d, hd, hc⟩ := ih i y hy; refine ⟨d, hd, fun j u hu => ?_⟩; have hl := k.len h1; rw [List.getElem?_append_right (by rw [hl, Nat.succ_mul]; omega)]; rw [show (i + 1) * k.sz + j - c.length = i * k.sz + j from by rw [hl, Nat.succ_mul]; omega]; exact hc j u hu
theorem Row.chk {α : Type} {k : Kd α} {S : Nat → Prop} {w : World} {b : Nat} : ∀ {xs : List α} {off : Nat}, Row k S w b off xs →
 ∃ cs, Chk k S w cs xs ∧ ∀ j u, cs[j]? = some u → w.cell? ⟨b, off + j, none⟩ = some u
 | [], off, _ => ⟨[], .nil, fun j u h => by simp at h⟩
 | x :: xs, off, h => by
  obtain ⟨c, hc, hcell⟩ := h 0 x rfl; have hl := k.len hc
  have h' : Row k S w b (off + k.sz) xs := fun i y hy => by
   obtain ⟨d, hd, hdc⟩ := h (i + 1) y (by simpa using hy); refine ⟨d, hd, fun j u hu => ?_⟩; have := hdc j u hu; rwa [show off + (i + 1) * k.sz + j = off + k.sz + i * k.sz + j from by rw [Nat.succ_mul]; omega] at this
  obtain ⟨cs, h1, h2⟩ := Row.chk h'; refine ⟨c ++ cs, .cons hc h1, fun j u hu => ?_⟩
  by_cases hj : j < c.length
  ·rw [List.getElem?_append_left hj] at hu; have := hcell j u hu; simpa using this
  ·rw [List.getElem?_append_right (by omega)] at hu; have := h2 _ u hu; rwa [show off + k.sz + (j - c.length) = off + j from by omega] at this
def Ow {α : Type} (k : Kd α) (e : TypeId) (S : Nat → Prop) (base : Nat) (w : World) (v : Value) (xs : List α) : Prop :=
 ∃ cs, w.ownsRow base e k.sz v xs.length cs ∧ Chk k S w cs xs ∧ xs.length ≤ lim ∧ ∀ b, v.ownBlock = some b → ¬ S b
def Blk (v : Value) : Nat → Prop := fun b => v.ownBlock = some b
theorem Ow.nil {α : Type} (k : Kd α) (e : TypeId) (S : Nat → Prop) (base : Nat) (w : World) : Ow k e S base w (.slice none 0 0) [] :=
 ⟨[], World.ownsRow_nil w base e k.sz, .nil, Nat.zero_le _, fun b h => by simp [Value.ownBlock] at h⟩
theorem Ow.lt {α : Type} {k : Kd α} {e : TypeId} {S : Nat → Prop} {base : Nat} {w : World} {v : Value} {xs : List α} (h : Ow k e S base w v xs) : ∀ b, Blk v b → base ≤ b ∧ b < w.heap.size :=
 let ⟨_, h1, _⟩ := h
 fun b hb => h1.lt b hb
theorem Ow.not {α : Type} {k : Kd α} {e : TypeId} {S : Nat → Prop} {base : Nat} {w : World} {v : Value} {xs : List α} (h : Ow k e S base w v xs) : ∀ b, Blk v b → ¬ S b :=
 let ⟨_, _, _, _, h4⟩ := h
 h4
theorem Ow.lim {α : Type} {k : Kd α} {e : TypeId} {S : Nat → Prop} {base : Nat} {w : World} {v : Value} {xs : List α} (h : Ow k e S base w v xs) : xs.length ≤ Mg.lim :=
 let ⟨_, _, _, h3, _⟩ := h
 h3
theorem Ow.up {α : Type} {k : Kd α} {e : TypeId} {S S' F : Nat → Prop} {base : Nat} {w w' : World} {v : Value} {xs : List α} (h : Ow k e S base w v xs) (hu : Up F w w')
 (hS : ∀ b, S b → S' b) (hS2 : ∀ b, S' b → S b ∨ w.heap.size ≤ b) (hSF : ∀ b, S b → b < w.heap.size → ¬ F b) (hF : ∀ b, Blk v b → ¬ F b) : Ow k e S' base w' v xs := by
 obtain ⟨cs, h1, h2, h3, h4⟩ := h; refine ⟨cs, ⟨h1.1, ?_⟩, h2.to hS (hu.sm hSF), h3, fun b hb hs => ?_⟩
 ·rcases h1.2 with hn | ⟨g, cap, cur, rfl, hbg, hg, rest⟩
  ·exact .inl hn
  ·refine .inr ⟨g, cap, cur, rfl, hbg, ?_, rest⟩; rw [hu.block g (Array.getElem?_eq_some_iff.1 hg).1 (hF g (by simp [Blk, Value.ownBlock]))]; exact hg
 ·rcases hS2 b hs with hs | hs
  ·exact h4 b hb hs
  ·have := (h1.lt b hb).2; omega
theorem Ow.to {α : Type} {k : Kd α} {e : TypeId} {S F : Nat → Prop} {base : Nat} {w w' : World} {v : Value} {xs : List α} (h : Ow k e S base w v xs) (hu : Up F w w')
 (hSF : ∀ b, S b → b < w.heap.size → ¬ F b) (hF : ∀ b, Blk v b → ¬ F b) : Ow k e S base w' v xs := h.up hu (fun _ h => h) (fun _ h => .inl h) hSF hF
theorem Ow.base {α : Type} {k : Kd α} {e : TypeId} {S : Nat → Prop} {base base' : Nat} {w : World} {v : Value} {xs : List α} (h : Ow k e S base w v xs) (hb : base' ≤ base) : Ow k e S base' w v xs := by
 obtain ⟨cs, h1, h2, h3, h4⟩ := h; refine ⟨cs, ⟨h1.1, ?_⟩, h2, h3, h4⟩; rcases h1.2 with hn | ⟨g, cap, cur, hv, hbg, rest⟩
 ·exact .inl hn
 ·exact .inr ⟨g, cap, cur, hv, Nat.le_trans hb hbg, rest⟩
theorem ownsRow_cell {w : World} {base : Nat} {e : TypeId} {size : Nat} {g n cap : Nat} {cs : List Value} (h : w.ownsRow base e size (.slice (some ⟨g, 0, none⟩) n cap) n cs) :
 ∀ j u, cs[j]? = some u → w.cell? ⟨g, j, none⟩ = some u := by
 intro j u hu; have := h.cells (g := g) rfl j u hu
 have hadd : (⟨g, 0, none⟩ : Addr).add j = ⟨g, j, none⟩ := by unfold Addr.add; split <;> simp_all
 rwa [hadd] at this
theorem Ow.sl {α : Type} {k : Kd α} {e : TypeId} {S S' : Nat → Prop} {base : Nat} {w : World} {v : Value} {xs : List α} (h : Ow k e S base w v xs) (hS : ∀ b, S b → S' b) (hb : ∀ b, Blk v b → S' b) : Sl (kSl k) S' w v xs := by
 obtain ⟨cs, h1, h2, h3, h4⟩ := h; rcases h1.2 with ⟨rfl, hn⟩ | ⟨g, cap, cur, rfl, hbg, hg, hnc, hcm, hcs, htk⟩
 ·have : xs = [] := List.eq_nil_of_length_eq_zero hn; subst this; exact yz k _ _
 ·refine sl_slice.2 ⟨_, _, rfl, hnc, h3, .inr ⟨g, 0, rfl, hb g (by simp [Blk, Value.ownBlock]), fun i x hx => ?_⟩⟩; obtain ⟨c, hc, hcc⟩ := h2.at i x hx; refine ⟨c, k.mono hc hS (Sm.refl _ _), fun j u hu => ?_⟩; rw [Nat.zero_add]; exact ownsRow_cell h1 _ u (hcc j u hu)
structure Ge (S S' : Nat → Prop) (n : Nat) : Prop where
 le : ∀ b, S b → S' b
 ge : ∀ b, S' b → S b ∨ n ≤ b
theorem Ge.refl (S : Nat → Prop) (n : Nat) : Ge S S n := ⟨fun _ h => h, fun _ h => .inl h⟩
theorem Ge.trans {S S' S'' : Nat → Prop} {n m : Nat} (h : Ge S S' n) (k : Ge S' S'' m) (hnm : n ≤ m) : Ge S S'' n :=
 ⟨fun b hb => k.le b (h.le b hb), fun b hb => (k.ge b hb).elim (h.ge b) fun hb => .inr (by omega)⟩
theorem Ge.add {S S' T : Nat → Prop} {n : Nat} (h : Ge S S' n) (hT : ∀ b, T b → n ≤ b) : Ge S (Or S' T) n :=
 ⟨fun b hb => .inl (h.le b hb), fun b hb => hb.elim (h.ge b) fun hb => .inr (hT b hb)⟩
end Go.Mg

namespace Go.Mg
open Go
variable {P : Program} {N : Nat} {Q : Ps} {ρ : En} {w : World} {ops : Array Oper} {K : En → World → Prop} {l : List Oper}
variable {d : Option Tmp} {ty : TypeId} {pos : String} {af : Array Edge} {g : Option (Nat × Bool)}
def Rv (P : Program) (o : Oper) (ρ : En) (v : Value) : Prop := ∀ w, (execOp (ev ρ) o).run P w = .ok (.value v) w
def Rw (P : Program) (o : Oper) (ρ : En) (w : World) (v : Value) : Prop := (execOp (ev ρ) o).run P w = .ok (.value v) w
theorem wgt {o : Oper} {j d' : Nat} {b : Bool} (h : o.guard = some (j, b)) (hd : (ops[j]?).bind (·.dst) = some d') (hv : ρ d' = .bool b) : wantedE ops ρ o = true := by
 unfold wantedE; rw [h]; dsimp only; rw [hd]; dsimp only; rw [hv]; simp
theorem wgf {o : Oper} {j d' : Nat} {b b' : Bool} (h : o.guard = some (j, b)) (hd : (ops[j]?).bind (·.dst) = some d') (hv : ρ d' = .bool b') (hb : (b' == b) = false) : wantedE ops ρ o = false := by
 unfold wantedE; rw [h]; dsimp only; rw [hd]; dsimp only; rw [hv]; exact hb
theorem W.v {o : Oper} {v : Value} (hw : wantedE ops ρ o = true) (h : Rv P o ρ v) (k : W P ops K l (put ρ o.dst v) w) : W P ops K (o :: l) ρ w := by
 unfold W; rw [hw, cond_true]; unfold Does; rw [h w]; exact k
theorem W.r {o : Oper} {v : Value} (hw : wantedE ops ρ o = true) (h : Rw P o ρ w v) (k : W P ops K l (put ρ o.dst v) w) : W P ops K (o :: l) ρ w := by
 unfold W; rw [hw, cond_true]; unfold Does; rw [h]; exact k
theorem W.c {o : Oper} (hw : wantedE ops ρ o = true) (h : Does P o ρ w fun v w' => W P ops K l (put ρ o.dst v) w') : W P ops K (o :: l) ρ w := by
 unfold W; rw [hw, cond_true]; exact h
theorem W.n {o : Oper} (hw : wantedE ops ρ o = false) (k : W P ops K l (put ρ o.dst undef) w) : W P ops K (o :: l) ρ w := by
 unfold W; rw [hw, cond_false]; exact k
theorem W.e (k : K ρ w) : W P ops K [] ρ w := k
variable {C : World → Prop} {σ : List (Nat × Bool)}
theorem Rv.rw {o : Oper} {v : Value} (h : Rv P o ρ v) : Rw P o ρ w v := h w
section
variable {x y z : Operand} {t t2 : TypeId} {k k2 : IntKind} {a b : Int}
theorem rv_move : Rv P ⟨d, .move x, ty, pos, af, g⟩ ρ (ev ρ x) := fun _ => rfl
theorem rv_assign : Rv P ⟨d, .assign x, ty, pos, af, g⟩ ρ (ev ρ x) := fun _ => rfl
theorem rv_move' {v : Value} (h : ev ρ x = v) : Rv P ⟨d, .move x, ty, pos, af, g⟩ ρ v := fun _ => by subst h; rfl
theorem rv_assign' {v : Value} (h : ev ρ x = v) : Rv P ⟨d, .assign x, ty, pos, af, g⟩ ρ v := fun _ => by subst h; rfl
theorem rv_pick_t (hc : ev ρ x = .bool true) : Rv P ⟨d, .pick x y z, ty, pos, af, g⟩ ρ (ev ρ y) := fun w => by simp [execOp, hc, asBool]
theorem rv_pick_f (hc : ev ρ x = .bool false) : Rv P ⟨d, .pick x y z, ty, pos, af, g⟩ ρ (ev ρ z) := fun w => by simp [execOp, hc, asBool]
theorem xf {vs : List Value} {i : Nat} {v : Value} (hx : ev ρ x = .tuple vs.toArray) (hv : vs[i]? = some v) : Rv P ⟨d, .extract x i, ty, pos, af, g⟩ ρ v := fun w => by
 simp [execOp, hx, Instr.extract, hv]
theorem xu {r : Int} (hx : ev ρ x = .int k a) (hy : ev ρ y = .int k b) (hr : k.wrap (a + b) = r) : Rv P ⟨d, .binOp .add t x y t2, ty, pos, af, g⟩ ρ (.int k r) := fun w => by
 subst hr; simp [execOp, hx, hy, eqGuard, binOp, Op.intArith]
theorem rv_sub {r : Int} (hx : ev ρ x = .int k a) (hy : ev ρ y = .int k b) (hr : k.wrap (a - b) = r) : Rv P ⟨d, .binOp .sub t x y t2, ty, pos, af, g⟩ ρ (.int k r) := fun w => by
 subst hr; simp [execOp, hx, hy, eqGuard, binOp, Op.intArith]
theorem rv_mul {r : Int} (hx : ev ρ x = .int k a) (hy : ev ρ y = .int k b) (hr : k.wrap (a * b) = r) : Rv P ⟨d, .binOp .mul t x y t2, ty, pos, af, g⟩ ρ (.int k r) := fun w => by
 subst hr; simp [execOp, hx, hy, eqGuard, binOp, Op.intArith]
theorem rv_quo {r : Int} (hx : ev ρ x = .int k a) (hy : ev ρ y = .int k b) (h0 : b ≠ 0) (hr : k.wrap (a.tdiv b) = r) : Rv P ⟨d, .binOp .quo t x y t2, ty, pos, af, g⟩ ρ (.int k r) := fun w => by
 subst hr; simp [execOp, hx, hy, eqGuard, binOp, Op.intDiv, h0]
theorem rv_rem {r : Int} (hx : ev ρ x = .int k a) (hy : ev ρ y = .int k b) (h0 : b ≠ 0) (hr : a.tmod b = r) : Rv P ⟨d, .binOp .rem t x y t2, ty, pos, af, g⟩ ρ (.int k r) := fun w => by
 subst hr; simp [execOp, hx, hy, eqGuard, binOp, Op.intDiv, h0]
def iand (k : IntKind) (a b : Int) : Int := k.wrap (BitVec.ofInt k.bits a &&& BitVec.ofInt k.bits b).toNat
def ior (k : IntKind) (a b : Int) : Int := k.wrap (BitVec.ofInt k.bits a ||| BitVec.ofInt k.bits b).toNat
def iandn (k : IntKind) (a b : Int) : Int := k.wrap (BitVec.ofInt k.bits a &&& ~~~ BitVec.ofInt k.bits b).toNat
theorem rv_and {r : Int} (hx : ev ρ x = .int k a) (hy : ev ρ y = .int k b) (hr : iand k a b = r) : Rv P ⟨d, .binOp .and t x y t2, ty, pos, af, g⟩ ρ (.int k r) := fun w => by
 subst hr; simp [execOp, hx, hy, eqGuard, binOp, Op.intBits, iand]
theorem rv_or {r : Int} (hx : ev ρ x = .int k a) (hy : ev ρ y = .int k b) (hr : ior k a b = r) : Rv P ⟨d, .binOp .or t x y t2, ty, pos, af, g⟩ ρ (.int k r) := fun w => by
 subst hr; simp [execOp, hx, hy, eqGuard, binOp, Op.intBits, ior]
theorem rv_andNot {r : Int} (hx : ev ρ x = .int k a) (hy : ev ρ y = .int k b) (hr : iandn k a b = r) : Rv P ⟨d, .binOp .andNot t x y t2, ty, pos, af, g⟩ ρ (.int k r) := fun w => by
 subst hr; simp [execOp, hx, hy, eqGuard, binOp, Op.intBits, iandn]
def ishl (k : IntKind) (a b : Int) : Int := k.wrap (a * 2 ^ min b.toNat k.bits)
def ishr (k : IntKind) (a b : Int) : Int := a.fdiv (2 ^ min b.toNat k.bits)
theorem rv_shl {r : Int} (hx : ev ρ x = .int k a) (hy : ev ρ y = .int k2 b) (h0 : 0 ≤ b) (hr : ishl k a b = r) : Rv P ⟨d, .binOp .shl t x y t2, ty, pos, af, g⟩ ρ (.int k r) := fun w => by
 subst hr; simp [execOp, hx, hy, eqGuard, binOp, Op.shift, show ¬ b < 0 from by omega, ishl]
theorem rv_shr {r : Int} (hx : ev ρ x = .int k a) (hy : ev ρ y = .int k2 b) (h0 : 0 ≤ b) (hr : ishr k a b = r) : Rv P ⟨d, .binOp .shr t x y t2, ty, pos, af, g⟩ ρ (.int k r) := fun w => by
 subst hr; simp [execOp, hx, hy, eqGuard, binOp, Op.shift, show ¬ b < 0 from by omega, ishr]
theorem xz (hx : ev ρ x = .int k a) (hy : ev ρ y = .int k b) : Rv P ⟨d, .binOp .lss t x y t2, ty, pos, af, g⟩ ρ (.bool (decide (a < b))) := fun w => by
 simp [execOp, hx, hy, eqGuard, binOp, Op.intCmp]
theorem rv_leq (hx : ev ρ x = .int k a) (hy : ev ρ y = .int k b) : Rv P ⟨d, .binOp .leq t x y t2, ty, pos, af, g⟩ ρ (.bool (decide (a ≤ b))) := fun w => by
 simp [execOp, hx, hy, eqGuard, binOp, Op.intCmp]
theorem rv_gtr (hx : ev ρ x = .int k a) (hy : ev ρ y = .int k b) : Rv P ⟨d, .binOp .gtr t x y t2, ty, pos, af, g⟩ ρ (.bool (decide (b < a))) := fun w => by
 simp [execOp, hx, hy, eqGuard, binOp, Op.intCmp]
theorem rv_geq (hx : ev ρ x = .int k a) (hy : ev ρ y = .int k b) : Rv P ⟨d, .binOp .geq t x y t2, ty, pos, af, g⟩ ρ (.bool (decide (b ≤ a))) := fun w => by
 simp [execOp, hx, hy, eqGuard, binOp, Op.intCmp]
theorem rv_eql (hx : ev ρ x = .int k a) (hy : ev ρ y = .int k b) : Rv P ⟨d, .binOp .eql t x y t2, ty, pos, af, g⟩ ρ (.bool (a == b)) := fun w => by
 simp [execOp, hx, hy, eqGuard, binOp, Op.intCmp]
theorem rv_neq (hx : ev ρ x = .int k a) (hy : ev ρ y = .int k b) : Rv P ⟨d, .binOp .neq t x y t2, ty, pos, af, g⟩ ρ (.bool (a != b)) := fun w => by
 simp [execOp, hx, hy, eqGuard, binOp, Op.intCmp]
theorem rv_not {b : Bool} (hx : ev ρ x = .bool b) : Rv P ⟨d, .unOp .not t x, ty, pos, af, g⟩ ρ (.bool (!b)) := fun w => by
 simp [execOp, hx, Op.unary]
theorem rv_conv {src dst : TypeId} {su : TypeDesc} {r : Int} (hs : P.underlying src = some su) (hd : P.underlying dst = some (.int k2)) (hx : ev ρ x = .int k a) (hr : k2.wrap a = r) : Rv P ⟨d, .convert src dst x, ty, pos, af, g⟩ ρ (.int k2 r) := fun w => by
 subst hr; simp [execOp, hx, convert, underlying, program, hs, hd, Sem.run, Conv.intToInt]
def strEq (a b : ByteArray) : Bool := a.toList == b.toList
def strLt (a b : ByteArray) : Bool := Op.bytesLess a.toList b.toList
variable {s u : ByteArray}
theorem rv_seql (hx : ev ρ x = .string s) (hy : ev ρ y = .string u) : Rv P ⟨d, .binOp .eql t x y t2, ty, pos, af, g⟩ ρ (.bool (strEq s u)) := fun w => by
 simp [execOp, hx, hy, eqGuard, binOp, Op.stringOp, strEq]
theorem rv_sneq (hx : ev ρ x = .string s) (hy : ev ρ y = .string u) : Rv P ⟨d, .binOp .neq t x y t2, ty, pos, af, g⟩ ρ (.bool (!strEq s u)) := fun w => by
 simp [execOp, hx, hy, eqGuard, binOp, Op.stringOp, strEq]
theorem rv_slss (hx : ev ρ x = .string s) (hy : ev ρ y = .string u) : Rv P ⟨d, .binOp .lss t x y t2, ty, pos, af, g⟩ ρ (.bool (strLt s u)) := fun w => by
 simp [execOp, hx, hy, eqGuard, binOp, Op.stringOp, strLt]
theorem rv_sleq (hx : ev ρ x = .string s) (hy : ev ρ y = .string u) : Rv P ⟨d, .binOp .leq t x y t2, ty, pos, af, g⟩ ρ (.bool (strLt s u || strEq s u)) := fun w => by
 simp [execOp, hx, hy, eqGuard, binOp, Op.stringOp, strLt, strEq]
theorem rv_sgtr (hx : ev ρ x = .string s) (hy : ev ρ y = .string u) : Rv P ⟨d, .binOp .gtr t x y t2, ty, pos, af, g⟩ ρ (.bool (!(strLt s u || strEq s u))) := fun w => by
 simp [execOp, hx, hy, eqGuard, binOp, Op.stringOp, strLt, strEq]
theorem rv_len {A : Option Addr} {n c : Nat} {e : TypeId} (ht : P.underlying t = some (.slice e)) (hx : ev ρ x = .slice A n c) :
 Rv P ⟨d, .call { callee := .builtin .len, args := #[x], argTypes := #[t] }, ty, pos, af, g⟩ ρ (.int .i64 n) := fun w => by
 simp [execOp, resolve, invoke, builtin, Builtin.len_, hx, underlying, program, ht, Sem.run, goInt]
theorem rv_slen (ht : P.underlying t = some .string) (hx : ev ρ x = .string s) :
 Rv P ⟨d, .call { callee := .builtin .len, args := #[x], argTypes := #[t] }, ty, pos, af, g⟩ ρ (.int .i64 s.size) := fun w => by
 simp [execOp, resolve, invoke, builtin, Builtin.len_, hx, underlying, program, ht, Sem.run, goInt]
theorem rv_min {ts : Array TypeId} {r : Int} (hx : ev ρ x = .int k a) (hy : ev ρ y = .int k2 b) (hr : (if b < a then b else a) = r) :
 Rv P ⟨d, .call { callee := .builtin .min, args := #[x, y], argTypes := ts }, ty, pos, af, g⟩ ρ (.int k r) := fun w => by
 subst hr; simp [execOp, resolve, invoke, builtin, Builtin.min_, Builtin.min2, hx, hy]
theorem rv_max {ts : Array TypeId} {r : Int} (hx : ev ρ x = .int k a) (hy : ev ρ y = .int k2 b) (hr : (if a < b then b else a) = r) :
 Rv P ⟨d, .call { callee := .builtin .max, args := #[x, y], argTypes := ts }, ty, pos, af, g⟩ ρ (.int k r) := fun w => by
 subst hr; simp [execOp, resolve, invoke, builtin, Builtin.max_, Builtin.max2, hx, hy]
end
end Go.Mg

namespace Go.Mg
open Go
variable {P : Program} {N : Nat} {Q : Ps} {ρ : En} {w : World} {ops : Array Oper} {K : En → World → Prop} {l : List Oper}
variable {d : Option Tmp} {ty : TypeId} {pos : String} {af : Array Edge} {g : Option (Nat × Bool)}
variable {α : Type} {k : Kd α} {S : Nat → Prop} {v : Value} {xs : List α}
structure Ty (P : Program) (k : Kd α) (e by_ : Nat) : Prop where
 hi : ∃ i z, P.info? e = some i ∧ i.zero = some z ∧ i.size = k.sz ∧ i.bytes = by_ ∧ z.cells.size = k.sz
 hs : 0 < k.sz
 ag : (match P.underlying e with | some (.struct _) => some true | some (.array _ _) => some true | some _ => some false | none => none) = some k.agg
structure El (P : Program) (k : Kd α) (t e by_ : Nat) : Prop extends Ty P k e by_ where
 ht : P.underlying t = some (.slice e)
theorem Ty.isAgg {e by_ : Nat} (h : Ty P k e by_) : (isAgg e).run P w = .ok k.agg w := by
 have := h.ag; unfold Go.isAgg; cases hu : P.underlying e with
 | none => rw [hu] at this; simp at this
 | some d =>
  rw [hu] at this; simp only [underlying, program, Sem.run_bind, Sem.run, hu, Result.andThen_ok, Sem.run_pure]
  cases d <;> simp_all
theorem Ty.size {e by_ : Nat} (h : Ty P k e by_) : (sizeOf e).run P w = .ok k.sz w := by
 obtain ⟨i, z, hi, _, hs, _⟩ := h.hi; simp [sizeOf, typeInfo, program, hi, hs, Sem.run]
def at_ (xs : List α) (i : Int) : Option α := if 0 ≤ i then xs[i.toNat]? else none
theorem at_some {i : Int} {e : α} (h : at_ xs i = some e) : 0 ≤ i ∧ i < xs.length ∧ xs[i.toNat]? = some e := by
 unfold at_ at h
 by_cases hi : 0 ≤ i
 ·rw [if_pos hi] at h; have := (List.getElem?_eq_some_iff.1 h).1; exact ⟨hi, by omega, h⟩
 ·rw [if_neg hi] at h; cases h
def sb : Value → Nat
 | .slice (some a) _ _ => a.block
 | _ => 0
def so : Value → Nat
 | .slice (some a) _ _ => a.off
 | _ => 0
theorem Sl.len (h : Sl (kSl k) S w v xs) : ∃ A c, v = .slice A xs.length c :=
 let ⟨A, c, h1, _⟩ := sl_slice.1 h
 ⟨A, c, h1⟩
theorem addr_add (b o n : Nat) : (⟨b, o, none⟩ : Addr).add n = ⟨b, o + n, none⟩ := by unfold Addr.add; split <;> simp_all
section
variable {x y z : Operand} {t t2 e by_ : TypeId} {ik : IntKind} {i : Int}
theorem xp (el : El P k t e by_) (hs : Sl (kSl k) S w v xs) (hx : ev ρ x = v) :
 Rv P ⟨d, .call { callee := .builtin .len, args := #[x], argTypes := #[t] }, ty, pos, af, g⟩ ρ (.int .i64 (xs.length : Int)) := by
 obtain ⟨A, c, rfl⟩ := hs.len; exact rv_len el.ht hx
theorem xl {u : α} (el : El P k t e by_) (hs : Sl (kSl k) S w v xs) (hx : ev ρ x = v) (hy : ev ρ y = .int ik i) (hi : at_ xs i = some u) :
 Rv P ⟨d, .indexAddr t x y, ty, pos, af, g⟩ ρ (.pointer (some ⟨sb v, so v + i.toNat * k.sz, none⟩)) := fun w' => by
 obtain ⟨h0, h1, h2⟩ := at_some hi; obtain ⟨A, c, rfl, hc, hl, hr⟩ := sl_slice.1 hs; rcases hr with rfl | ⟨b, off, rfl, hb, hr⟩
 ·simp at h2
 ·have hsz := el.toTy.size (w := w'); simp only [execOp, hx, hy, Instr.indexAt, asIntOf, Sem.run_bind, Sem.run_pure, Result.andThen_ok, underlying, program, Sem.run, el.ht]; rw [if_pos ⟨h0, h1⟩]; simp only [Sem.run_bind, hsz, Result.andThen_ok, Sem.run_pure, sb, so, addr_add]
theorem Sl.cells {u : α} (hs : Sl (kSl k) S w v xs) (hi : at_ xs i = some u) :
 ∃ cs, k.rep S w cs u ∧ ∀ w', Sm S w w' → ∀ j c, cs[j]? = some c → w'.cell? ⟨sb v, so v + i.toNat * k.sz + j, none⟩ = some c := by
 obtain ⟨h0, h1, h2⟩ := at_some hi; obtain ⟨A, c, rfl, hc, hl, hr⟩ := sl_slice.1 hs; rcases hr with rfl | ⟨b, off, rfl, hb, hr⟩
 ·simp at h2
 ·obtain ⟨cs, h3, h4⟩ := hr _ _ h2; exact ⟨cs, h3, fun w' hw j c hj => cell_same (h4 j c hj) (hw b hb)⟩
theorem run_loadTy {a : Addr} {cs : List Value} (T : Ty P k e by_) (hl : cs.length = k.sz) (ha : a.spot = none) (hc : ∀ j c, cs[j]? = some c → w.cell? ⟨a.block, a.off + j, none⟩ = some c) :
 (loadVar e a).run P w = .ok (k.val cs) w := by
 have hadd : ∀ j, a.add j = ⟨a.block, a.off + j, none⟩ := fun j => by
  obtain ⟨b, o, s⟩ := a; simp only at ha; subst ha; exact addr_add b o j
 unfold loadVar; simp only [Sem.run_bind, T.isAgg, Result.andThen_ok]; cases hag : k.agg with
 | true =>
  simp only [if_true, Sem.run_bind, T.size, Result.andThen_ok, Sem.run_pure, Kd.val, hag]; rw [← hl, run_loadCells_list w a cs (fun j c hj => by rw [hadd]; exact hc j c hj)]
  rfl
 | false =>
  have h1 := k.sg hag; rw [h1] at hl
  match cs, hl with
  | [c], _ =>
   have := hc 0 c rfl
   have e0 : (⟨a.block, a.off + 0, none⟩ : Addr) = a := by obtain ⟨b, o, s⟩ := a; simp only at ha; subst ha; rfl
   rw [e0] at this; simp [Kd.val, hag, load, Sem.run, this]
theorem rw_load {u : α} (el : El P k t e by_) (hs : Sl (kSl k) S w v xs) (hi : at_ xs i = some u) (hx : ev ρ x = .pointer (some ⟨sb v, so v + i.toNat * k.sz, none⟩)) :
 ∃ r, Sl k S w r u ∧ ∀ w', Sm S w w' → Rw P ⟨d, .load e x, ty, pos, af, g⟩ ρ w' r := by
 obtain ⟨cs, hr, hc⟩ := hs.cells hi; refine ⟨k.val cs, ⟨cs, rfl, hr⟩, fun w' hw => ?_⟩; unfold Rw; simp only [execOp, Instr.loadAt, Instr.sureAddr, hx, Sem.run_bind, Sem.run_pure, Result.andThen_ok]; rw [run_loadTy el.toTy (k.len hr) rfl (hc w' hw)]
 rfl
theorem rw_loadC {enc : α → Value} {h1 : ∀ x, (enc x).oneCell' = true} {u : α} (el : El P (kSc enc h1) t e by_) (hs : Sl (kSl (kSc enc h1)) S w v xs) (hi : at_ xs i = some u) (hx : ev ρ x = .pointer (some ⟨sb v, so v + i.toNat * 1, none⟩)) :
 ∀ w', Sm S w w' → Rw P ⟨d, .load e x, ty, pos, af, g⟩ ρ w' (enc u) := by
 obtain ⟨r, hr, hc⟩ := rw_load (d := d) (ty := ty) (pos := pos) (af := af) (g := g) el hs hi hx; rw [sl_sc.1 hr] at hc; exact hc
def from_ (xs : List α) (i : Int) : Option (List α) := if 0 ≤ i ∧ i ≤ xs.length then some (xs.drop i.toNat) else none
def upto_ (xs : List α) (i : Int) : Option (List α) := if 0 ≤ i ∧ i ≤ xs.length then some (xs.take i.toNat) else none
theorem Row.drop {b off n : Nat} (h : Row k S w b off xs) : Row k S w b (off + n * k.sz) (xs.drop n) := fun i x hx => by
 rw [List.getElem?_drop] at hx; obtain ⟨cs, h1, h2⟩ := h _ _ hx; refine ⟨cs, h1, fun j c hj => ?_⟩; have := h2 j c hj; rwa [show off + (n + i) * k.sz + j = off + n * k.sz + i * k.sz + j from by rw [Nat.add_mul]; omega] at this
theorem Row.take {b off n : Nat} (h : Row k S w b off xs) : Row k S w b off (xs.take n) := fun i x hx => by
 rw [List.getElem?_take] at hx
 split at hx
 ·exact h i x hx
 ·cases hx
theorem rv_from {kl : IntKind} {lo : Int} {r : List α} (el : El P k t e by_) (hs : Sl (kSl k) S w v xs) (hx : ev ρ x = v) (hy : ev ρ y = .int kl lo) (h : from_ xs lo = some r) :
 ∃ u, Sl (kSl k) S w u r ∧ Rv P ⟨d, .slice t x (some y) none none, ty, pos, af, g⟩ ρ u := by
 unfold from_ at h
 split at h
 case isFalse => cases h
 rename_i hb
 obtain ⟨h0, h1⟩ := hb; cases h; obtain ⟨A, c, rfl, hc, hl, hr⟩ := sl_slice.1 hs; refine ⟨.slice (if c = lo.toNat then A else A.map (·.add (lo.toNat * k.sz))) (xs.length - lo.toNat) (c - lo.toNat), ?_, fun w' => ?_⟩
 ·have hlen : (xs.drop lo.toNat).length = xs.length - lo.toNat := List.length_drop ..; refine sl_slice.2 ⟨_, _, by rw [hlen], by rw [hlen]; omega, by rw [hlen]; omega, ?_⟩; rcases hr with rfl | ⟨b, off, rfl, hb, hr⟩
  ·exact .inl (by simp)
  ·by_cases hcl : c = lo.toNat
   ·left
    apply List.eq_nil_of_length_eq_zero
    rw [hlen]; omega
   ·exact .inr ⟨b, off + lo.toNat * k.sz, by rw [if_neg hcl, Option.map_some, addr_add], hb, hr.drop⟩
 ·have hsz := el.toTy.size (w := w'); have e2 : (Instr.sliceBound (.int kl lo) xs.length .sliceB).run P w' = .ok lo.toNat w' := run_sliceBound w' kl lo xs.length _ (by omega) (by omega)
  simp only [execOp, hx, hy, Option.map_some, Option.map_none, Instr.sliceAt, Instr.slice, underlying, program, Sem.run_bind, Sem.run, el.ht, Result.andThen_ok, Sem.run_pure, Instr.sliceBounds,
   Option.isSome_none, Bool.false_eq_true, if_false, e2, hsz]
def yi (P : Program) (f : FuncId) : Bool := match P.funcs[f]? with
 | some fn => fn.name != "runtime.NumGoroutine" && fn.body.isSome
 | none => false
theorem qp {f : FuncId} {as : List Operand} {ts : Array TypeId} {vs : List Value} {kk : Value → World → Prop} (hc : yi P f = true) (hv : as.map (ev ρ) = vs)
 (h : Calls P f vs.toArray w fun e w' => ∃ v, e = .returned v ∧ kk v w') :
 Does P ⟨d, .call { callee := .value (.func f), args := as.toArray, argTypes := ts }, ty, pos, af, g⟩ ρ w kk := by
 subst hv; unfold yi at hc; cases hf : P.funcs[f]? with
 | none => rw [hf] at hc; cases hc
 | some fn =>
  rw [hf] at hc; simp only [Bool.and_eq_true, bne_iff_ne, ne_eq] at hc; obtain ⟨h1, h2⟩ := hc
  have hbn : fn.body.isNone = false := by cases hb : fn.body with
   | none => rw [hb] at h2; cases h2
   | some _ => rfl
  have hrun : (execOp (ev ρ) ⟨d, .call { callee := .value (.func f), args := as.toArray, argTypes := ts }, ty, pos, af, g⟩).run P w = .ok (.enter f (as.map (ev ρ)).toArray) w := by
   simp only [execOp, resolve, ev, Deferred.ofValue, Sem.run_bind, Sem.run_pure, Result.andThen_ok, invoke, callFunc, program, Sem.run, hf, hbn, List.map_toArray]; simp [h1]
  unfold Does; rw [hrun]; exact h
end
end Go.Mg

namespace Go.Mg
open Go
variable {P : Program} {N : Nat} {Q : Ps} {ρ : En} {w : World} {ops : Array Oper} {K : En → World → Prop} {l : List Oper}
variable {d : Option Tmp} {ty : TypeId} {pos : String} {af : Array Edge} {g : Option (Nat × Bool)}
variable {α : Type} {k : Kd α} {S : Nat → Prop} {v : Value} {xs : List α} {kk : Value → World → Prop}
def Bk (w : World) (b : Nat) (cs : List Value) (e : TypeId) : Prop := w.heap[b]? = some (.cells cs.toArray e (0, 0))
theorem Bk.lt {b : Nat} {cs : List Value} {e : TypeId} (h : Bk w b cs e) : b < w.heap.size := (Array.getElem?_eq_some_iff.1 h).1
theorem Bk.to {b : Nat} {cs : List Value} {e : TypeId} {F : Nat → Prop} {w' : World} (h : Bk w b cs e) (hu : Up F w w') (hF : ¬ F b) : Bk w' b cs e := (hu.block b h.lt hF).trans h
theorem Bk.sm {b : Nat} {cs : List Value} {e : TypeId} {w' : World} (h : Bk w b cs e) {T : Nat → Prop} (hu : Sm T w w') (hF : T b) : Bk w' b cs e := (hu b hF h.lt).trans h
theorem Bk.cell {b : Nat} {cs : List Value} {e : TypeId} (h : Bk w b cs e) (j : Nat) : w.cell? ⟨b, j, none⟩ = cs[j]? := by
 rw [cell_of_row w b j cs.toArray e (0, 0) h]; simp
section
variable {x y z : Operand} {t t2 e by_ : TypeId} {ik : IntKind} {i : Int} {b o : Nat} {cs : List Value}
theorem dc_new {e : TypeId} {cs : Array Value} (h : ∀ b w', w.heap.size ≤ b → b < w'.heap.size → Up No w w' → Bk w' b cs.toList e → kk (.pointer (some ⟨b, 0, none⟩)) w') :
 kk (.pointer (some ⟨w.heap.size, 0, none⟩)) (w.alloc (.cells cs e)) := by
 refine h _ _ (Nat.le_refl _) (by simp) (Up.alloc _ _ _) ?_; unfold Bk; rw [heap_alloc_new]
theorem dc_box {cs : List Value} (hx : (ev ρ x).cells = cs.toArray)
 (h : ∀ b w', w.heap.size ≤ b → b < w'.heap.size → Up No w w' → Bk w' b cs e → kk (.pointer (some ⟨b, 0, none⟩)) w') :
 Does P ⟨d, .box e x, ty, pos, af, g⟩ ρ w kk := by
 have hrun : (execOp (ev ρ) ⟨d, .box e x, ty, pos, af, g⟩).run P w = .ok (.value (.pointer (some ⟨w.heap.size, 0, none⟩))) (w.alloc (.cells cs.toArray e)) := by
  simp [execOp, Instr.box, newVar, newRow, hx]
 unfold Does; rw [hrun]; exact dc_new (cs := cs.toArray) (by simpa using h)
def zeroOf (P : Program) (e : TypeId) : Option (List Value) := ((P.info? e).bind (·.zero)).map (·.cells.toList)
theorem dc_alloc {cs : List Value} (hz : zeroOf P e = some cs)
 (h : ∀ b w', w.heap.size ≤ b → b < w'.heap.size → Up No w w' → Bk w' b cs e → kk (.pointer (some ⟨b, 0, none⟩)) w') :
 Does P ⟨d, .alloc e, ty, pos, af, g⟩ ρ w kk := by
 unfold zeroOf at hz; cases hi : P.info? e with
 | none => simp [hi] at hz
 | some inf =>
  cases hzz : inf.zero with
  | none => simp [hi, hzz] at hz
  | some zv =>
   simp [hi, hzz] at hz
   have hrun : (execOp (ev ρ) ⟨d, .alloc e, ty, pos, af, g⟩).run P w = .ok (.value (.pointer (some ⟨w.heap.size, 0, none⟩))) (w.alloc (.cells cs.toArray e)) := by
    simp [execOp, Instr.alloc, zeroValue, typeInfo, program, Sem.run, hi, hzz, newVar, newRow, newObj, ← hz]
   unfold Does; rw [hrun]; exact dc_new (cs := cs.toArray) (by simpa using h)
def aggOf (P : Program) (e : TypeId) : Option (Bool × Nat) :=
 match P.underlying e, P.info? e with
 | some (.struct _), some i => some (true, i.size)
 | some (.array _ _), some i => some (true, i.size)
 | some _, some i => some (false, i.size)
 | _, _ => none
theorem aggOf_run {a : Bool} {n : Nat} (h : aggOf P e = some (a, n)) : (isAgg e).run P w = .ok a w ∧ (sizeOf e).run P w = .ok n w := by
 unfold aggOf at h; cases hu : P.underlying e with
 | none => rw [hu] at h; simp at h
 | some dd =>
  cases hi : P.info? e with
  | none => rw [hu, hi] at h; cases dd <;> simp at h
  | some inf =>
   rw [hu, hi] at h
   cases dd <;> simp at h <;> obtain ⟨rfl, rfl⟩ := h <;> simp [isAgg, sizeOf, typeInfo, underlying, program, Sem.run, hu, hi]
theorem rw_cell {c : Value} (ha : aggOf P e = some (false, 1)) (hb : w.cell? ⟨b, o, none⟩ = some c) (hx : ev ρ x = .pointer (some ⟨b, o, none⟩)) : Rw P ⟨d, .load e x, ty, pos, af, g⟩ ρ w c := by
 unfold Rw; simp only [execOp, Instr.loadAt, Instr.sureAddr, hx, Sem.run_bind, Sem.run_pure, Result.andThen_ok, loadVar, (aggOf_run (w := w) ha).1]; simp [load, Sem.run, hb]
theorem yy {c : Value} {e0 : TypeId} (ha : aggOf P e = some (false, 1)) (hb : Bk w b cs e0) (hx : ev ρ x = .pointer (some ⟨b, o, none⟩)) (hc : cs[o]? = some c) : Rw P ⟨d, .load e x, ty, pos, af, g⟩ ρ w c :=
 rw_cell ha ((hb.cell o).trans hc) hx
theorem rw_bkA {n : Nat} {r : List Value} {e0 : TypeId} (ha : aggOf P e = some (true, n)) (hb : Bk w b cs e0) (hx : ev ρ x = .pointer (some ⟨b, o, none⟩)) (hc : (cs.drop o).take n = r) (hl : Nat.beq r.length n = true) :
 Rw P ⟨d, .load e x, ty, pos, af, g⟩ ρ w (.agg r.toArray) := by
 have hl := Nat.eq_of_beq_eq_true hl; unfold Rw; simp only [execOp, Instr.loadAt, Instr.sureAddr, hx, Sem.run_bind, Sem.run_pure, Result.andThen_ok, loadVar, (aggOf_run (w := w) ha).1, if_true, (aggOf_run (w := w) ha).2]; rw [← hl, run_loadCells_list w _ r (fun j u hj => ?_)]
 ·rfl
 ·rw [addr_add, hb.cell, ← hj, ← hc, List.getElem?_take, List.getElem?_drop]; have : j < r.length := (List.getElem?_eq_some_iff.1 hj).1; rw [if_pos (by omega)]
theorem dc_store {vs r : List Value} {e0 : TypeId} {n : Nat} {a : Bool} (ha : aggOf P e = some (a, n)) (hb : Bk w b cs e0) (hx : ev ρ x = .pointer (some ⟨b, o, none⟩)) (hy : (ev ρ y).cells = vs.toArray)
 (h1 : ∀ c ∈ vs, c.oneCell' = true) (hn : Nat.beq vs.length n = true) (hfit : Nat.ble (o + n) cs.length = true) (hr : cs.take o ++ vs ++ cs.drop (o + n) = r)
 (h : ∀ w', Up (One b) w w' → w'.heap.size = w.heap.size → Bk w' b r e0 → kk undef w') : Does P ⟨d, .store e x y, ty, pos, af, g⟩ ρ w kk := by
 have hn := Nat.eq_of_beq_eq_true hn; have hfit := Nat.le_of_ble_eq_true hfit; have hst := run_storeCells_at P b o e0 vs 0 cs.toArray w hb (by simp; omega) h1
 have hrun : (execOp (ev ρ) ⟨d, .store e x y, ty, pos, af, g⟩).run P w = .ok .skip (w.setRow b r.toArray) := by
  simp only [Nat.add_zero, hn] at hst; rw [hr] at hst; simp only [execOp, Instr.storeAt, Instr.sureAddr, hx, Sem.run_bind, Sem.run_pure, Result.andThen_ok, storeVar, (aggOf_run (w := w) ha).2, hy]; simp only [List.size_toArray, hn, ne_eq, not_true_eq_false, if_false]; simpa using congrArg (fun r => Result.andThen r fun _ w' => Result.ok Next.skip w') hst
 unfold Does; rw [hrun]; exact h _ ⟨rfl, rfl, rfl, by simp, fun k _ hk => setRow_other w b k _ hk⟩ (by simp) (setRow_heap w b cs.toArray _ e0 _ hb)
def stOf (P : Program) (t : TypeId) : Option (List (Nat × Nat × Bool)) :=
 match P.underlying t with
 | some (.struct fs) => fs.toList.mapM fun f => (aggOf P f.type).map fun (a, n) => (f.offset, n, a)
 | _ => none
theorem mapM_get {α β : Type} (f : α → Option β) : ∀ (l : List α) (r : List β), l.mapM f = some r → ∀ i : Nat, r[i]? = (l[i]?).bind f
 | [], r, h, i => by simp at h; subst h; simp
 | a :: l, r, h, i => by
  rw [List.mapM_cons] at h; simp only [bind, Option.bind_eq_some_iff] at h; obtain ⟨b, hb, r', hr, he⟩ := h; cases he
  cases i with
  | zero => simp [hb]
  | succ i => simpa using mapM_get f l r' hr i
theorem stOf_at {pl : List (Nat × Nat × Bool)} {f off n : Nat} {a : Bool} (h : stOf P t = some pl) (hf : pl[f]? = some (off, n, a)) :
 ∃ fs fd, P.underlying t = some (.struct fs) ∧ fs[f]? = some fd ∧ fd.offset = off ∧ aggOf P fd.type = some (a, n) := by
 unfold stOf at h; cases hu : P.underlying t with
 | none => rw [hu] at h; cases h
 | some dd =>
  rw [hu] at h
  cases dd with
  | struct fs =>
   have := mapM_get _ _ _ h f; rw [hf] at this; have this := this.symm; rw [Option.bind_eq_some_iff] at this; obtain ⟨fd, h1, h2⟩ := this; rw [Option.map_eq_some_iff] at h2; obtain ⟨⟨a', n'⟩, h3, h4⟩ := h2; cases h4; exact ⟨fs, fd, rfl, by simpa using h1, rfl, h3⟩
  | _ => cases h
theorem qe {pl : List (Nat × Nat × Bool)} {f off n : Nat} {a : Bool} (h : stOf P t = some pl) (hf : pl[f]? = some (off, n + 1, a)) (hx : ev ρ x = .pointer (some ⟨b, o, none⟩)) :
 Rv P ⟨d, .fieldAddr t x f, ty, pos, af, g⟩ ρ (.pointer (some ⟨b, o + off, none⟩)) := fun w => by
 obtain ⟨fs, fd, h1, h2, h3, h4⟩ := stOf_at h hf; have hs := (aggOf_run (w := w) h4).2; simp only [execOp, Instr.fieldAt, Instr.sureAddr, hx, underlying, program, Sem.run_bind, Sem.run, h1, h2, Result.andThen_ok, Sem.run_pure, fieldPlace, hs]; rw [if_neg (by omega), Sem.run_pure, h3, addr_add]
 rfl
theorem rv_nilCheck (hx : ev ρ x = .pointer (some ⟨b, o, none⟩)) : Rv P ⟨d, .nilCheck x, ty, pos, af, g⟩ ρ (.pointer (some ⟨b, o, none⟩)) := fun w => by
 simp [execOp, hx]
def fillL (place : Nat → Option (Nat × Nat)) : List Value → List (Nat × List Value) → Option (List Value)
 | cs, [] => some cs
 | cs, (i, vs) :: rest => match place i with
  | none => none
  | some (off, n) => bif Nat.beq vs.length n && Nat.ble (off + n) cs.length then fillL place (cs.take off ++ vs ++ cs.drop (off + n)) rest else none
theorem foldl_set (off : Nat) : ∀ (vs : List Value) (j : Nat) (cs : Array Value), off + j + vs.length ≤ cs.size →
 ((vs.zipIdx j).foldl (fun cs p => cs.setIfInBounds (off + p.2) p.1) cs).toList = cs.toList.take (off + j) ++ vs ++ cs.toList.drop (off + j + vs.length)
 | [], j, cs, _ => by simp
 | v :: vs, j, cs, h => by
  rw [List.zipIdx_cons, List.foldl_cons, foldl_set off vs (j + 1) _ (by simp at h ⊢; omega)]; have e := list_seg_step cs.toList (off + j) v vs (by simp at h ⊢; omega); simpa [Array.toList_setIfInBounds, Nat.add_assoc] using e
theorem fill_of (place : Nat → Option (Nat × Nat)) : ∀ (parts : List (Nat × Value)) (cs r : List Value), fillL place cs (parts.map fun p => (p.1, p.2.cells.toList)) = some r →
 Instr.fill place cs.toArray parts = some r.toArray
 | [], cs, r, h => by simp [fillL] at h; subst h; rfl
 | (i, v) :: rest, cs, r, h => by
  simp only [List.map_cons, fillL] at h; unfold Instr.fill; cases hp : place i with
  | none => rw [hp] at h; cases h
  | some p =>
   obtain ⟨off, n⟩ := p; rw [hp] at h; dsimp only at h ⊢; cases hc : (Nat.beq v.cells.toList.length n && Nat.ble (off + n) cs.length) with
   | false => rw [hc] at h; cases h
   | true =>
    rw [hc] at h; simp only [cond_true] at h; simp only [Bool.and_eq_true] at hc; have h1 := Nat.eq_of_beq_eq_true hc.1; have h2 := Nat.le_of_ble_eq_true hc.2
    have hs : v.cells.size = n := by simpa using h1
    rw [if_neg (by simp; omega)]; have hf := foldl_set off v.cells.toList 0 cs.toArray (by simp; omega)
    have : (Array.foldl (fun cs x => match x with | (c, j) => cs.setIfInBounds (off + j) c) cs.toArray v.cells.zipIdx) = (cs.take off ++ v.cells.toList ++ cs.drop (off + n)).toArray := by
     apply Array.toList_inj.1
     rw [← Array.foldl_toList, Array.toList_zipIdx]; have hf' := hf; simp only [Nat.add_zero] at hf'; rw [show (fun (cs : Array Value) (x : Value × Nat) => match x with | (c, j) => cs.setIfInBounds (off + j) c) = fun cs p => cs.setIfInBounds (off + p.2) p.1 from rfl, hf', h1]
    rw [this]; exact fill_of place rest _ r h
theorem yp {pl : List (Nat × Nat × Bool)} {ps : List (Nat × Operand)} {zs r : List Value} (hp : stOf P t = some pl) (hz : zeroOf P t = some zs)
 (h : fillL (fun i => (pl[i]?).map fun p => (p.1, p.2.1)) zs (ps.map fun p => (p.1, (ev ρ p.2).cells.toList)) = some r) :
 Rv P ⟨d, .build t ps.toArray, ty, pos, af, g⟩ ρ (.agg r.toArray) := fun w => by
 have hb : P.built t (ps.map fun p => (p.1, ev ρ p.2)) = some r.toArray := by
  unfold zeroOf at hz; cases hi : P.info? t with
  | none => simp [hi] at hz
  | some inf =>
   cases hzz : inf.zero with
   | none => simp [hi, hzz] at hz
   | some zv =>
    simp [hi, hzz] at hz; unfold stOf at hp; cases hu : P.underlying t with
    | none => rw [hu] at hp; cases hp
    | some dd =>
     rw [hu] at hp
     cases dd with
     | struct fs =>
      simp only at hp
      have hmap : fs.toList.mapM (fun f => (P.info? f.type).map fun i => (f.offset, i.size)) = some (pl.map fun p => (p.1, p.2.1)) := by
       have key : ∀ (l : List Field) (r : List (Nat × Nat × Bool)), l.mapM (fun f => (aggOf P f.type).map fun (a, n) => (f.offset, n, a)) = some r →
        l.mapM (fun f => (P.info? f.type).map fun i => (f.offset, i.size)) = some (r.map fun p => (p.1, p.2.1)) := by
        intro l
        induction l with
        | nil => intro r h; simp at h; subst h; rfl
        | cons f l ih =>
         intro r h; rw [List.mapM_cons] at h; simp only [bind, Option.bind_eq_some_iff] at h; obtain ⟨b, hb, r', hr, he⟩ := h; cases he; rw [Option.map_eq_some_iff] at hb; obtain ⟨⟨a, n⟩, h1, h2⟩ := hb; cases h2
         have h3 : ∃ i, P.info? f.type = some i ∧ i.size = n := by
          unfold aggOf at h1; cases hu' : P.underlying f.type with
          | none => rw [hu'] at h1; simp at h1
          | some d' =>
           cases hi' : P.info? f.type with
           | none => rw [hu', hi'] at h1; cases d' <;> simp at h1
           | some i' => rw [hu', hi'] at h1; cases d' <;> simp at h1 <;> exact ⟨i', rfl, h1.2⟩
         obtain ⟨i, h3, h4⟩ := h3; rw [List.mapM_cons]; simp [h3, h4, ih _ hr]
       exact key _ _ hp
      unfold Program.built; simp only [hi, hu, hzz, hmap]; rw [show zv.cells = zs.toArray from by rw [← hz]]; rw [show (fun i => ((pl.map fun p => (p.1, p.2.1)).toArray)[i]?) = fun i => (pl[i]?).map fun p => (p.1, p.2.1) from by funext i; simp]; exact fill_of _ _ _ _ (by rw [List.map_map]; exact h)
     | _ => cases hp
 have := run_build (P := P) w t ((ps.map fun p => (p.1, ev ρ p.2)).toArray) r.toArray (by simpa using hb); simp only [execOp, Sem.run_bind, List.map_toArray]; have e1 : (ps.map fun x => match x with | (i, x) => (i, ev ρ x)) = ps.map fun p => (p.1, ev ρ p.2) := rfl; rw [e1, this]
 rfl
end
end Go.Mg

namespace Go.Mg
open Go
variable {P : Program} {N : Nat} {Q : Ps} {ρ : En} {w : World} {ops : Array Oper} {K : En → World → Prop} {l : List Oper}
variable {d : Option Tmp} {ty : TypeId} {pos : String} {af : Array Edge} {g : Option (Nat × Bool)}
variable {α : Type} {k : Kd α} {S : Nat → Prop} {v u : Value} {xs ys : List α} {kk : Value → World → Prop}
def Sb (S : Nat → Prop) (w : World) : Prop := ∀ b, S b → b < w.heap.size
theorem Sb.up {F : Nat → Prop} {w' : World} (h : Sb S w) (hu : Up F w w') : Sb S w' := fun b hb => Nat.lt_of_lt_of_le (h b hb) hu.size
structure Cx (F S0 : Nat → Prop) (w0 : World) (S : Nat → Prop) (w : World) : Prop where
 up : Up F w0 w
 ge : Ge S0 S w0.heap.size
 sb : Sb S w
theorem Cx.refl {F : Nat → Prop} (h : Sb S w) : Cx F S w S w := ⟨Up.refl _ _, Ge.refl _ _, h⟩
theorem Cx.then {F G S0 S' : Nat → Prop} {w0 w' : World} (h : Cx F S0 w0 S w) (k : Cx G S w S' w') (hG : ∀ b, b < w0.heap.size → G b → F b) : Cx F S0 w0 S' w' :=
 ⟨h.up.then k.up hG, h.ge.trans k.ge h.up.size, k.sb⟩
theorem Cx.trans {F S0 S' : Nat → Prop} {w0 w' : World} (h : Cx F S0 w0 S w) (k : Cx No S w S' w') : Cx F S0 w0 S' w' := h.then k fun _ _ hf => hf.elim
theorem Cx.upd {F G S0 : Nat → Prop} {w0 w' : World} (h : Cx F S0 w0 S w) (k : Up G w w') (hG : ∀ b, b < w0.heap.size → G b → F b) : Cx F S0 w0 S w' :=
 ⟨h.up.then k hG, h.ge, h.sb.up k⟩
theorem Cx.new {F S0 : Nat → Prop} {w0 w' : World} (h : Cx F S0 w0 S w) (k : Up No w w') : Cx F S0 w0 S w' := h.upd k fun _ _ hf => hf.elim
theorem Cx.sealB {F S0 T : Nat → Prop} {w0 : World} (h : Cx F S0 w0 S w) (hT : ∀ b, T b → w0.heap.size ≤ b ∧ b < w.heap.size) : Cx F S0 w0 (Or S T) w :=
 ⟨h.up, h.ge.add fun b hb => (hT b hb).1, fun b hb => hb.elim (h.sb b) fun hb => (hT b hb).2⟩
theorem Cx.f {F G S0 : Nat → Prop} {w0 : World} (h : Cx F S0 w0 S w) (hG : ∀ b, b < w0.heap.size → F b → G b) : Cx G S0 w0 S w := ⟨h.up.mono hG, h.ge, h.sb⟩
theorem Sl.cx {S' : Nat → Prop} {w' : World} {β : Type} {kb : Kd β} {x : β} (h : Sl kb S w v x) (c : Cx No S w S' w') : Sl kb S' w' v x := h.up c.ge.le c.up.sm0
theorem Sl.nw {w' : World} {β : Type} {kb : Kd β} {x : β} (h : Sl kb S w v x) (c : Up No w w') : Sl kb S w' v x := h.to c.sm0
theorem Sl.wr {F : Nat → Prop} {w' : World} {β : Type} {kb : Kd β} {x : β} (h : Sl kb S w v x) (c : Up F w w') (hF : ∀ b, F b → ¬ S b) : Sl kb S w' v x := h.to (c.sm fun b hb _ hf => hF b hf hb)
theorem Ow.cx {e : TypeId} {base : Nat} {S' : Nat → Prop} {w' : World} (h : Ow k e S base w v xs) (c : Cx No S w S' w') : Ow k e S' base w' v xs :=
 h.up c.up c.ge.le c.ge.ge (fun _ _ _ hf => hf) (fun _ _ hf => hf)
theorem Ow.nw {e : TypeId} {base : Nat} {w' : World} (h : Ow k e S base w v xs) (c : Up No w w') : Ow k e S base w' v xs := h.to c (fun _ _ _ hf => hf) (fun _ _ hf => hf)
theorem Ow.wr {e : TypeId} {base : Nat} {F : Nat → Prop} {w' : World} (h : Ow k e S base w v xs) (c : Up F w w') (hF : ∀ b, F b → ¬ S b) (hd : ∀ b, Blk v b → ¬ F b) : Ow k e S base w' v xs :=
 h.to c (fun b hb _ hf => hF b hf hb) hd
def Src (k : Kd α) (S : Nat → Prop) (w : World) (u : Value) (ys : List α) : Prop :=
 ∃ A c, u = .slice A ys.length c ∧ (ys = [] ∨ ∃ b off, A = some ⟨b, off, none⟩ ∧ Row k S w b off ys)
theorem Sl.src {S' : Nat → Prop} (h : Sl (kSl k) S w u ys) (hS : ∀ b, S b → S' b) : Src k S' w u ys := by
 obtain ⟨A, c, h1, _, _, h4⟩ := sl_slice.1 h; refine ⟨A, c, h1, ?_⟩; rcases h4 with h4 | ⟨b, off, hA, _, hr⟩
 ·exact .inl h4
 ·exact .inr ⟨b, off, hA, hr.to hS (Sm.refl _ _) fun _ => rfl⟩
theorem Chk.row {cs : List Value} {b off : Nat} (h : Chk k S w cs xs) (hc : ∀ j u, cs[j]? = some u → w.cell? ⟨b, off + j, none⟩ = some u) : Row k S w b off xs := fun i x hx => by
 obtain ⟨c, h1, h2⟩ := h.at i x hx; exact ⟨c, h1, fun j u hj => by rw [Nat.add_assoc]; exact hc _ _ (h2 j u hj)⟩
theorem Ow.src {e : TypeId} {base : Nat} (h : Ow k e S base w u ys) : Src k S w u ys := by
 obtain ⟨cs, h1, h2, _, _⟩ := h; rcases h1.2 with ⟨rfl, hn⟩ | ⟨g, cap, cur, rfl, _⟩
 ·have : ys = [] := List.eq_nil_of_length_eq_zero hn; subst this; exact ⟨none, 0, rfl, .inl rfl⟩
 ·exact ⟨_, cap, rfl, .inr ⟨g, 0, rfl, h2.row fun j u hj => by rw [Nat.zero_add]; exact ownsRow_cell h1 j u hj⟩⟩
theorem run_append_none {t e : TypeId} {i : TypeInfo} {base n size c : Nat} {cells : List Value} (ht : P.underlying t = some (.slice e)) (hi : P.info? e = some i) (h : w.ownsRow base e size v n cells) :
 (Builtin.append_ #[t, t] ty #[v, .slice none 0 c]).run P w = .ok v w := by
 rcases h.2 with ⟨rfl, rfl⟩ | ⟨g, cap, cur, rfl, _, _, hnc, _⟩
 ·simp [Builtin.append_, run_underlying ht, sizeOf, typeInfo, hi, Builtin.lenOf, Builtin.firstCells]
 ·simp [Builtin.append_, run_underlying ht, sizeOf, typeInfo, hi, Builtin.lenOf, Builtin.firstCells, hnc, storeCells]
theorem append_block {t ty e : TypeId} {i : TypeInfo} {z : Value} {size bytes base n m c : Nat} {v v' : Value} {w w' : World} {xs news : List Value} {a : Addr} {b : Nat}
 (ht : P.underlying t = some (.slice e)) (hi : P.info? e = some i) (hz : i.zero = some z) (hsize : i.size = size) (hby : i.bytes = bytes)
 (hown : w.ownsRow base e size v n xs) (hl : news.length = m * size) (hnews : ∀ j u, news[j]? = some u → w.cell? (a.add j) = some u) (h1 : ∀ u ∈ news, u.oneCell' = true)
 (h63 : n + m ≤ maxLen) (hbytes : (n + m) * bytes ≤ 140737488355328)
 (hr : (Builtin.append_ #[t, t] ty #[v, .slice (some a) m c]).run P w = .ok v' w') (hb : v'.ownBlock = some b) (hne : ¬ v.ownBlock = some b) (hlt : b < w.heap.size) : False := by
 subst hsize hby
 have hsmall : n + m ≤ 9223372036854775807 := by simp only [maxLen] at h63; omega
 rcases hown.2 with ⟨rfl, rfl⟩ | ⟨g, cap, cur, rfl, hbg, hg, hnc, hcm, hcs, htake⟩
 ·by_cases hm : m = 0
  ·subst hm; have hn : news = [] := List.eq_nil_of_length_eq_zero (by simpa using hl); subst hn
   have h2 : (Builtin.append_ #[t, t] ty #[.slice none 0 0, .slice (some a) 0 c]).run P w = .ok (.slice none 0 0) w := by
    simp [Builtin.append_, run_underlying ht, sizeOf, typeInfo, hi, Builtin.lenOf, Builtin.firstCells, loadCells, loadCellsFrom]
   rw [h2] at hr; cases hr; simp [Value.ownBlock] at hb
  ·have h2 := run_append_nil (P := P) w t ty e i z ht hi hz a m c news hl hnews (by omega) (by omega) (by have hb := hbytes; simp only [Nat.zero_add] at hb; omega); rw [h2] at hr; cases hr; simp [Value.ownBlock] at hb
   omega
 ·by_cases hroom : n + m ≤ cap
  ·have hfit : n * i.size + news.length ≤ cur.size := by rw [hl, hcs, ← Nat.add_mul]; exact Nat.mul_le_mul_right _ hroom
   have h2 := run_append_room (P := P) w t ty e i ht hi g n cap cur hg a m c news hl hnews h1 hroom hfit; rw [h2] at hr; cases hr; simp [Value.ownBlock] at hb hne; exact hne hb
  ·have holds : ∀ j u, xs[j]? = some u → w.cell? ((⟨g, 0, none⟩ : Addr).add j) = some u := World.ownsRow.cells (base := base) (e := e) (size := i.size) (n := n) ⟨hown.1, hown.2⟩ (g := g) rfl; have h2 := run_append_grow (P := P) w t ty e i z ht hi hz ⟨g, 0, none⟩ n cap xs hown.1 holds a m c news hl hnews (by omega) (by omega) (growslice_fits (by omega) hbytes); rw [h2] at hr; cases hr; simp [Value.ownBlock] at hb
   omega
section
variable {x y z : Operand} {t t2 e by_ : TypeId} {ik : IntKind} {i : Int} {b o : Nat} {cs : List Value} {base : Nat}
def app_ (by_ : Nat) (xs ys : List α) : Option (List α) := if (xs.length + ys.length) * by_ ≤ lim then some (xs ++ ys) else none
theorem yq {zs : List α} (el : El P k t e by_) (hby : 0 < by_) (ho : Ow k e S base w v xs) (hs : Src k S w u ys) (hx : ev ρ x = v) (hy : ev ρ y = u) (ha : app_ by_ xs ys = some zs) (hbase : base ≤ w.heap.size) (hS : Sb S w)
 (h : ∀ v' w', Ow k e S base w' v' zs → Up (Blk v) w w' → (∀ b, Blk v' b → Blk v b ∨ w.heap.size ≤ b) → kk v' w') :
 Does P ⟨d, .call { callee := .builtin .append, args := #[x, y], argTypes := #[t, t] }, ty, pos, af, g⟩ ρ w kk := by
 unfold app_ at ha
 split at ha
 case isFalse => cases ha
 rename_i hbytes
 cases ha; have hlen : xs.length + ys.length ≤ Mg.lim := Nat.le_trans (Nat.le_mul_of_pos_right _ hby) hbytes; obtain ⟨cs, h1, h2, h3, h4⟩ := ho; obtain ⟨A, c, rfl, hrow⟩ := hs; obtain ⟨inf, zv, hi, hz, hsz, hby', hzs⟩ := el.hi; have hpos := el.hs
 have fin : ∀ v' w' (ds : List Value), (Builtin.append_ #[t, t] ty #[v, .slice A ys.length c]).run P w = .ok v' w' → Chk k S w ds ys → w'.ownsRow base e k.sz v' (xs.length + ys.length) (cs ++ ds) →
  w.grownBy w' v.ownBlock → (∀ b, v'.ownBlock = some b → v.ownBlock = some b ∨ w.heap.size ≤ b) → Does P ⟨d, .call { callee := .builtin .append, args := #[x, y], argTypes := #[t, t] }, ty, pos, af, g⟩ ρ w kk := by
  intro v' w' ds hr hds hown hgr hblk; have hup : Up (Blk v) w w' := ⟨hgr.os, hgr.tape, hgr.output, hgr.size, fun k hk hn => hgr.block k hk (fun e => hn e.symm)⟩; have hsm : Sm S w w' := hup.sm fun b hb _ hf => h4 b hf hb
  have hown' : Ow k e S base w' v' (xs ++ ys) := ⟨cs ++ ds, by rw [List.length_append]; exact hown, (h2.append hds).to (fun _ h => h) hsm, by rw [List.length_append]; exact hlen, fun b hb hs => by
   rcases hblk b hb with hb | hb
   ·exact h4 b hb hs
   ·have := hS b hs; omega⟩
  have hrun : (execOp (ev ρ) ⟨d, .call { callee := .builtin .append, args := #[x, y], argTypes := #[t, t] }, ty, pos, af, g⟩).run P w = .ok (.value v') w' := by
   simp only [execOp, resolve, invoke, builtin, Sem.run_bind, Sem.run_pure, Result.andThen_ok, List.map_toArray, List.map_cons, List.map_nil, hx, hy, hr]
  unfold Does; rw [hrun]; exact h _ _ hown' hup hblk
 have hsame : ∀ b, v.ownBlock = some b → v.ownBlock = some b ∨ w.heap.size ≤ b := fun b hb => .inl hb
 cases A with
 | none =>
  have hy0 : ys = [] := hrow.elim (fun h => h) fun ⟨b, off, hA, _⟩ => by cases hA
  subst hy0; refine fin v w [] (run_append_none el.ht hi h1) .nil (by simpa using h1) ⟨rfl, rfl, rfl, Nat.le_refl _, fun _ _ _ => rfl⟩ hsame
 | some ad =>
  have hnews : ∃ ds, Chk k S w ds ys ∧ ∀ j u, ds[j]? = some u → w.cell? (ad.add j) = some u := by
   rcases hrow with rfl | ⟨b, off, hA, hr⟩
   ·exact ⟨[], .nil, fun j u hj => by simp at hj⟩
   ·cases hA; obtain ⟨ds, hd1, hd2⟩ := hr.chk; exact ⟨ds, hd1, fun j u hj => by rw [addr_add]; exact hd2 j u hj⟩
  obtain ⟨ds, hd1, hd2⟩ := hnews
  have hmax : xs.length + ys.length ≤ maxLen := by unfold Mg.lim at hlen; unfold maxLen; omega
  obtain ⟨v', w', hr, hown, hgr, _⟩ := run_append_own (P := P) w base t ty e inf zv k.sz by_ el.ht hi hz hsz hby' hzs hpos v xs.length cs h1 ad ys.length c ds hd1.len hd2 hd1.one hmax hbytes hbase; refine fin v' w' ds hr hd1 hown hgr fun b hb => ?_
  -- its block: the same, or a new one
  by_cases hvb : v.ownBlock = some b
  ·exact .inl hvb
  ·right
   have hb' := hown.lt b hb; rcases Nat.lt_or_ge b w.heap.size with hlt | hge
   ·exfalso
    exact append_block el.ht hi hz hsz hby' h1 hd1.len hd2 hd1.one hmax hbytes hr hb hvb hlt
   ·exact hge
inductive Sls (k : Kd α) (S : Nat → Prop) (w : World) : List Value → List α → Prop
 | nil : Sls k S w [] []
 | cons {v vs x xs} : Sl k S w v x → Sls k S w vs xs → Sls k S w (v :: vs) (x :: xs)
theorem Sls.chk {vs : List Value} (h : Sls k S w vs xs) : Chk k S w (vs.map (·.cells.toList)).flatten xs := by
 induction h with
 | nil => exact .nil
 | cons h1 _ ih =>
  obtain ⟨cs, rfl, hr⟩ := h1; rw [List.map_cons, List.flatten_cons, k.val_cells hr]; exact .cons hr ih
theorem Sls.len {vs : List Value} (h : Sls k S w vs xs) : vs.length = xs.length := by
 induction h with
 | nil => rfl
 | cons _ _ ih => simp [ih]
theorem Sls.sizes {vs : List Value} (h : Sls k S w vs xs) : ∀ v ∈ vs, v.cells.size = k.sz := by
 induction h with
 | nil => simp
 | cons h1 _ ih =>
  intro v hv; rcases List.mem_cons.1 hv with rfl | hv
  ·obtain ⟨cs, rfl, hr⟩ := h1; rw [k.val_cells hr]; simpa using k.len hr
  ·exact ih v hv
theorem fillL_seq (sz : Nat) : ∀ (vs : List Value) (j : Nat) (cs : List Value), (∀ v ∈ vs, v.cells.size = sz) → (j + vs.length) * sz = cs.length →
 fillL (fun i => some (i * sz, sz)) cs ((vs.zipIdx j).map fun p => (p.2, p.1.cells.toList)) = some (cs.take (j * sz) ++ (vs.map (·.cells.toList)).flatten)
 | [], j, cs, _, hl => by
  simp only [List.length_nil, Nat.add_zero] at hl; simp [fillL, hl]
 | v :: vs, j, cs, hv, hl => by
  have h1 := hv v (List.mem_cons_self ..); simp only [List.length_cons] at hl
  have hmul : (j + (vs.length + 1)) * sz = j * sz + sz + vs.length * sz := by rw [Nat.add_mul, Nat.add_mul]; omega
  rw [hmul] at hl
  have hlen : (cs.take (j * sz) ++ v.cells.toList ++ cs.drop (j * sz + sz)).length = cs.length := by
   simp only [List.length_append, List.length_take, List.length_drop, Array.length_toList, h1]; omega
  rw [List.zipIdx_cons, List.map_cons]; unfold fillL; dsimp only
  have hc : (Nat.beq v.cells.toList.length sz && Nat.ble (j * sz + sz) cs.length) = true := by
   rw [Array.length_toList, h1, Nat.beq_refl, Bool.true_and]; exact Nat.ble_eq_true_of_le (by omega)
  rw [hc, cond_true, fillL_seq sz vs (j + 1) _ (fun u hu => hv u (List.mem_cons_of_mem _ hu)) (by rw [hlen, Nat.add_mul, Nat.succ_mul]; omega)]
  have ht : (cs.take (j * sz) ++ v.cells.toList ++ cs.drop (j * sz + sz)).take ((j + 1) * sz) = cs.take (j * sz) ++ v.cells.toList := by
   rw [List.take_append_of_le_length (by simp only [List.length_append, List.length_take, Array.length_toList, h1, Nat.succ_mul]; omega)]; rw [List.take_of_length_le (by simp only [List.length_append, List.length_take, Array.length_toList, h1, Nat.succ_mul]; omega)]
  rw [ht, List.map_cons, List.flatten_cons, List.append_assoc]
theorem dc_lit {ps : List (Nat × Operand)} {vs : List Value} {n : Nat} (el : El P k t e by_) (hv : ps.map (fun p => (p.1, ev ρ p.2)) = vs.zipIdx.map fun p => (p.2, p.1))
 (hn : n = vs.length) (hsl : Sls k S w vs xs) (hsmall : vs.length * k.sz ≤ 16777216) (hbase : base ≤ w.heap.size) (hS : Sb S w)
 (h : ∀ u w', Ow k e S base w' u xs → (∀ b, Blk u b → w.heap.size ≤ b) → Up No w w' → kk u w') :
 Does P ⟨d, .buildSlice t n ps.toArray, ty, pos, af, g⟩ ρ w kk := by
 subst hn; obtain ⟨inf, zv, hi, hz, hsz, hby', hzs⟩ := el.hi; have hpos := el.hs; have hxl := hsl.len; have hflat := hsl.chk
 have hfill : ∀ Z : Array Value, Instr.fill (fun i => some (i * k.sz, k.sz)) ((Array.range (vs.length * k.sz)).map fun x => Z[x % Z.size]!) (ps.map fun p => (p.1, ev ρ p.2)) = some ((vs.map (·.cells.toList)).flatten).toArray := by
  intro Z; have h1 := fillL_seq k.sz vs 0 ((Array.range (vs.length * k.sz)).map fun x => Z[x % Z.size]!).toList hsl.sizes (by simp); rw [Nat.zero_mul, List.take_zero, List.nil_append] at h1; have h2 := fill_of (fun i => some (i * k.sz, k.sz)) (ps.map fun p => (p.1, ev ρ p.2)) _ _ (by rw [hv, List.map_map]; exact h1); rw [Array.toArray_toList] at h2; exact h2
 have hrun : (execOp (ev ρ) ⟨d, .buildSlice t vs.length ps.toArray, ty, pos, af, g⟩).run P w =
  .ok (.value (.slice (some ⟨w.heap.size, 0, none⟩) vs.length vs.length)) (w.alloc (.cells ((vs.map (·.cells.toList)).flatten).toArray e)) := by
  have hns : ¬ vs.length * k.sz > 2 ^ 24 := by simp only [show (2 : Nat) ^ 24 = 16777216 from by decide]; omega
  have hzv : (zeroValue e).run P w = .ok zv w := by simp [zeroValue, typeInfo, program, Sem.run, hi, hz]
  have hsz' : (sizeOf e).run P w = .ok k.sz w := el.toTy.size; simp only [execOp, Instr.buildSlice, Sem.run_bind, run_underlying el.ht, Result.andThen_ok, hsz', if_neg hns, List.map_toArray]
  by_cases h0 : vs.length * k.sz = 0
  ·simp only [if_pos h0, Sem.run_bind, Result.andThen_ok, Sem.run_pure, hfill]; simp [newRow, newObj, Sem.run]
  ·simp only [if_neg h0, Sem.run_bind, hzv, Result.andThen_ok, Sem.run_pure, hfill]; simp [newRow, newObj, Sem.run]
 unfold Does; rw [hrun]; have hup : Up No w (w.alloc (.cells ((vs.map (·.cells.toList)).flatten).toArray e)) := Up.alloc _ _ _; refine h _ _ ⟨_, ?_, hflat.to (fun _ h => h) hup.sm0, ?_, fun b hb hs => ?_⟩ (fun b hb => ?_) hup
 ·rw [hxl]; refine ⟨by rw [hflat.len], .inr ⟨w.heap.size, xs.length, _, rfl, hbase, heap_alloc_new _ _, Nat.le_refl _, ?_, ?_, ?_⟩⟩
  ·unfold maxLen; have := Nat.le_mul_of_pos_right xs.length hpos; rw [hxl] at hsmall; omega
  ·simpa using hflat.len
  ·rw [← hflat.len]; exact List.take_length
 ·unfold Mg.lim; have := Nat.le_mul_of_pos_right xs.length hpos; rw [hxl] at hsmall; omega
 ·simp only [Value.ownBlock, Option.some.injEq] at hb; have := hS b hs; omega
 ·simp only [Blk, Value.ownBlock, Option.some.injEq] at hb
  omega
end
end Go.Mg

namespace Go.Mg
open Go
variable {P : Program} {N : Nat} {Q : Ps} {ρ : En} {w : World} {qn qr : En → World → Prop} {qx : List (Nat × (En → World → Prop))}
def iterN {σ τ : Type} (step : σ → Option (σ ⊕ τ)) : Nat → σ → Option τ
 | 0, _ => none
 | n + 1, s => match step s with
  | none => none
  | some (.inl s') => iterN step n s'
  | some (.inr r) => some r
theorem iterN_mono {σ τ : Type} (step : σ → Option (σ ⊕ τ)) : ∀ (n m : Nat) (s : σ) (r : τ), n ≤ m → iterN step n s = some r → iterN step m s = some r
 | 0, _, _, _, _, h => by simp [iterN] at h
 | n + 1, 0, _, _, hm, _ => by omega
 | n + 1, m + 1, s, r, hm, h => by
  unfold iterN at h ⊢; cases hs : step s with
  | none => rw [hs] at h; cases h
  | some o =>
   rw [hs] at h
   cases o with
   | inl s' => exact iterN_mono step n m s' r (by omega) h
   | inr r' => exact h
open Classical in
noncomputable def iter {σ τ : Type} (step : σ → Option (σ ⊕ τ)) (s : σ) : Option τ :=
 if h : ∃ r, ∃ n, iterN step n s = some r then some (Classical.choose h) else none
theorem iter_eq {σ τ : Type} {step : σ → Option (σ ⊕ τ)} {s : σ} {r : τ} : iter step s = some r ↔ ∃ n, iterN step n s = some r := by
 unfold iter
 constructor
 ·intro h
  split at h
  ·rename_i hx
   have := Classical.choose_spec hx; cases h; exact this
  ·cases h
 ·rintro ⟨n, hn⟩; have hx : ∃ r, ∃ n, iterN step n s = some r := ⟨r, n, hn⟩; rw [dif_pos hx]; obtain ⟨m, hm⟩ := Classical.choose_spec hx; have h1 := iterN_mono step n (max n m) s r (by omega) hn; have h2 := iterN_mono step m (max n m) s _ (by omega) hm; rw [h1] at h2; cases h2
  rfl
theorem iter_unfold {σ τ : Type} (step : σ → Option (σ ⊕ τ)) (s : σ) : iter step s = (step s).bind fun o => match o with
 | .inl s' => iter step s'
 | .inr r => some r := by
 apply Option.ext
 intro r; rw [iter_eq]; cases hs : step s with
 | none =>
  simp only [Option.bind_none]
  constructor
  ·rintro ⟨n, hn⟩; cases n <;> simp [iterN, hs] at hn
  ·intro h; cases h
 | some o =>
  simp only [Option.bind_some]
  cases o with
  | inl s' =>
   rw [iter_eq]
   constructor
   ·rintro ⟨n, hn⟩
    cases n with
    | zero => simp [iterN] at hn
    | succ n => exact ⟨n, by simpa [iterN, hs] using hn⟩
   ·rintro ⟨n, hn⟩; exact ⟨n + 1, by simpa [iterN, hs] using hn⟩
  | inr r' =>
   constructor
   ·rintro ⟨n, hn⟩
    cases n with
    | zero => simp [iterN] at hn
    | succ n => simpa [iterN, hs] using hn
   ·intro h; exact ⟨1, by simpa [iterN, hs] using h⟩
theorem iter_next {σ τ : Type} {step : σ → Option (σ ⊕ τ)} {s s' : σ} (h : step s = some (.inl s')) : iter step s = iter step s' := by rw [iter_unfold, h]; rfl
theorem iter_end {σ τ : Type} {step : σ → Option (σ ⊕ τ)} {s : σ} {r : τ} (h : step s = some (.inr r)) : iter step s = some r := by rw [iter_unfold, h]; rfl
def Then {σ τ : Type} (step : σ → Option (σ ⊕ τ)) (r : τ) : σ ⊕ τ → Prop
 | .inl s' => iter step s' = some r
 | .inr r' => r' = r
theorem iter_some {σ τ : Type} {step : σ → Option (σ ⊕ τ)} {s : σ} {r : τ} (h : iter step s = some r) : ∃ o, step s = some o ∧ Then step r o := by
 rw [iter_unfold, Option.bind_eq_some_iff] at h; obtain ⟨o, h1, h2⟩ := h; refine ⟨o, h1, ?_⟩
 cases o with
 | inl s' => exact h2
 | inr r' => cases h2; rfl
theorem yn {σ τ : Type} {step : σ → Option (σ ⊕ τ)} {r : τ} {s0 : σ} {c : Code} (h : iter step s0 = some r) (J : σ → En → World → Prop) (h0 : J s0 ρ w)
 (hb : ∀ s o ρ w, J s ρ w → step s = some o → Then step r o → CW P N c ⟨fun ρ' w' => ∃ s', o = .inl s' ∧ J s' ρ' w', qr, qx⟩ ρ w) : CW P N (.loop c) ⟨qn, qr, qx⟩ ρ w := by
 obtain ⟨n, hn⟩ := iter_eq.1 h; refine cw_loop (fun n ρ w => ∃ s, iterN step n s = some r ∧ J s ρ w) n ⟨s0, hn, h0⟩ ?_; rintro n ρ w ⟨s, hs, hJ⟩
 cases n with
 | zero => simp [iterN] at hs
 | succ n =>
  obtain ⟨o, h1, h2⟩ := iter_some (iter_eq.2 ⟨_, hs⟩); refine CW.mono (Q := ⟨fun ρ' w' => ∃ s', o = .inl s' ∧ J s' ρ' w', qr, qx⟩) ?_ (fun _ _ h => h) (fun _ _ _ h => h) (hb s o ρ w hJ h1 h2); rintro ρ' w' ⟨s', rfl, hJ'⟩; refine ⟨n, by omega, s', ?_, hJ'⟩; simpa [iterN, h1] using hs
def pur {α β : Type} (a : α) (f : α → Option β) : Option β := f a
theorem qj {α β : Type} {a : α} {f : α → Option β} {r : β} (h : pur a f = some r) : ∃ t, a = t ∧ f t = some r := ⟨a, rfl, h⟩
theorem qb {α β : Type} {a : Option α} {f : α → Option β} {r : β} (h : a.bind f = some r) : ∃ t, a = some t ∧ f t = some r := Option.bind_eq_some_iff.1 h
theorem yk {α β γ : Type} {a : Option (α ⊕ β)} {f : α → Option γ} {g : β → Option γ} {r : γ} (h : a.bind (Sum.elim f g) = some r) :
 ∃ t, a = some t ∧ (∀ x, t = .inl x → f x = some r) ∧ ∀ x, t = .inr x → g x = some r := by
 obtain ⟨t, h1, h2⟩ := qb h; exact ⟨t, h1, fun x e => by subst e; exact h2, fun x e => by subst e; exact h2⟩
theorem qi {α : Type} {c : Bool} {a b : Option α} {r : α} (h : (bif c then a else b) = some r) : (c = true ∧ a = some r) ∨ (c = false ∧ b = some r) := by
 cases c with
 | true => exact .inl ⟨rfl, h⟩
 | false => exact .inr ⟨rfl, h⟩
theorem xq {c : Operand} {x y : Code} {b : Bool} (hc : ev ρ c = .bool b) (hb : b = true) (h : CW P N x Q ρ w) : CW P N (.cond c x y) Q ρ w := cw_true (by rw [hc, hb]) h
theorem xr {c : Operand} {x y : Code} {b : Bool} (hc : ev ρ c = .bool b) (hb : b = false) (h : CW P N y Q ρ w) : CW P N (.cond c x y) Q ρ w := cw_false (by rw [hc, hb]) h
def Has (ρ : En) : List (Nat × Value) → Prop
 | [] => True
 | (d, v) :: l => ρ d = v ∧ Has ρ l
def ld (ρ : En) : List (Nat × Value) → En
 | [] => ρ
 | (d, v) :: l => upd (ld ρ l) d v
theorem Has.eq {ρ : En} : ∀ {l : List (Nat × Value)}, Has ρ l → ld ρ l = ρ
 | [], _ => rfl
 | (d, v) :: l, h => by
  unfold ld; rw [Has.eq h.2]
  funext t
  unfold upd; cases hb : Nat.beq t d with
  | false => rfl
  | true => rw [Nat.eq_of_beq_eq_true hb, cond_true]; exact h.1.symm
theorem Has.go {ρ : En} {l : List (Nat × Value)} {G : En → Prop} (h : Has ρ l) (k : ∀ ρ', G (ld ρ' l)) : G ρ := by
 have := k ρ; rwa [h.eq] at this
theorem Has.cw {l : List (Nat × Value)} {c : Code} (h : Has ρ l) (k : ∀ ρ', CW P N c Q (ld ρ' l) w) : CW P N c Q ρ w := h.go (G := fun ρ => CW P N c Q ρ w) k
section
variable {ops : Array Oper} {K : En → World → Prop} {l : List Oper} {d : Option Tmp} {op : Op} {ty : TypeId} {pos : String} {af : Array Edge} {v : Value} {C : World → Prop} {σ : List (Nat × Bool)}
theorem sv (h : Rv P ⟨d, op, ty, pos, af, none⟩ ρ v) (k : W P ops K l (put ρ d v) w) : W P ops K (⟨d, op, ty, pos, af, none⟩ :: l) ρ w := W.v rfl h k
theorem sr (h : Rw P ⟨d, op, ty, pos, af, none⟩ ρ w v) (k : W P ops K l (put ρ d v) w) : W P ops K (⟨d, op, ty, pos, af, none⟩ :: l) ρ w := W.r rfl h k
theorem sc (h : Does P ⟨d, op, ty, pos, af, none⟩ ρ w fun v w' => W P ops K l (put ρ d v) w') : W P ops K (⟨d, op, ty, pos, af, none⟩ :: l) ρ w := W.c rfl h
theorem gy {o : Oper} {j d' : Nat} {b b' : Bool} (h : o.guard = some (j, b)) (hd : (ops[j]?).bind (·.dst) = some d') (hv : ρ d' = .bool b') (hb : b' = b) : wantedE ops ρ o = true := wgt h hd (by rw [hv, hb])
theorem gn {o : Oper} {j d' : Nat} {b b' : Bool} (h : o.guard = some (j, b)) (hd : (ops[j]?).bind (·.dst) = some d') (hv : ρ d' = .bool b') (hb : b' = !b) : wantedE ops ρ o = false := wgf h hd hv (by rw [hb]; cases b <;> rfl)
theorem gu {o : Oper} {j d' : Nat} {b : Bool} (h : o.guard = some (j, b)) (hd : (ops[j]?).bind (·.dst) = some d') (hv : ρ d' = undef) : wantedE ops ρ o = false := by
 unfold wantedE; rw [h]; dsimp only; rw [hd]; dsimp only; rw [hv]; rfl
theorem mvv (v : Value) {x : Operand} {g : Option (Nat × Bool)} (h : ev ρ x = v) : Rv P ⟨d, .move x, ty, pos, af, g⟩ ρ v := rv_move' h
theorem asv (v : Value) {x : Operand} {g : Option (Nat × Bool)} (h : ev ρ x = v) : Rv P ⟨d, .assign x, ty, pos, af, g⟩ ρ v := rv_assign' h
theorem ptk (v : Value) {c x y : Operand} {b : Bool} {g : Option (Nat × Bool)} (hc : ev ρ c = .bool b) (hb : b = true) (hv : ev ρ x = v) : Rv P ⟨d, .pick c x y, ty, pos, af, g⟩ ρ v := by subst hv; exact rv_pick_t (by rw [hc, hb])
theorem pfk (v : Value) {c x y : Operand} {b : Bool} {g : Option (Nat × Bool)} (hc : ev ρ c = .bool b) (hb : b = false) (hv : ev ρ y = v) : Rv P ⟨d, .pick c x y, ty, pos, af, g⟩ ρ v := by subst hv; exact rv_pick_f (by rw [hc, hb])
theorem Sm.nx {S : Nat → Prop} {a b c : World} (h : Sm S a b) (k : Up No b c) (hs : a.heap.size ≤ b.heap.size) : Sm S a c := h.trans (T := S) k.sm0 hs fun _ h => h
def Ap (v u : Value) : Prop := ∀ b, Blk v b → ¬ Blk u b
theorem Cx.ow {F S0 S : Nat → Prop} {w0 w' : World} {α : Type} {k : Kd α} {e : TypeId} {xs : List α} (c : Cx F S0 w0 S w) (o : Ow k e S w0.heap.size w v xs) (u : Up (Blk v) w w') : Cx F S0 w0 S w' :=
 c.upd u fun b hb hf => by have := (o.lt b hf).1; omega
theorem Cx.sealO {F S0 S : Nat → Prop} {w0 : World} {α : Type} {k : Kd α} {e : TypeId} {xs : List α} (c : Cx F S0 w0 S w) (o : Ow k e S w0.heap.size w v xs) : Cx F S0 w0 (Or S (Blk v)) w := c.sealB fun b hb => o.lt b hb
theorem Ow.sealed {S : Nat → Prop} {α : Type} {k : Kd α} {e : TypeId} {base : Nat} {xs : List α} (o : Ow k e S base w v xs) : Sl (kSl k) (Or S (Blk v)) w v xs := o.sl (fun _ h => .inl h) fun _ h => .inr h
theorem Ow.or {S : Nat → Prop} {α : Type} {k : Kd α} {e : TypeId} {base : Nat} {xs : List α} {u : Value} (o : Ow k e S base w v xs) (ap : Ap v u) : Ow k e (Or S (Blk u)) base w v xs := by
 obtain ⟨cs, h1, h2, h3, h4⟩ := o; exact ⟨cs, h1, h2.to (fun _ h => .inl h) (Sm.refl _ _), h3, fun b hb hs => hs.elim (h4 b hb) (ap b hb)⟩
theorem Sl.or {S T : Nat → Prop} {α : Type} {k : Kd α} {x : α} (h : Sl k S w v x) : Sl k (Or S T) w v x := h.in fun _ h => .inl h
end
def Bs (S : Nat → Prop) (w : World) (b : Nat) (cs : List Value) (e : TypeId) : Prop := S b ∧ Bk w b cs e
theorem Bs.cx {S S' : Nat → Prop} {w' : World} {b : Nat} {cs : List Value} {e : TypeId} (h : Bs S w b cs e) (c : Cx No S w S' w') : Bs S' w' b cs e := ⟨c.ge.le b h.1, h.2.to c.up fun h => h⟩
theorem Bs.nw {S : Nat → Prop} {w' : World} {b : Nat} {cs : List Value} {e : TypeId} (h : Bs S w b cs e) (c : Up No w w') : Bs S w' b cs e := ⟨h.1, h.2.to c fun h => h⟩
theorem Bs.wr {S F : Nat → Prop} {w' : World} {b : Nat} {cs : List Value} {e : TypeId} (h : Bs S w b cs e) (c : Up F w w') (hF : ∀ b, F b → ¬ S b) : Bs S w' b cs e := ⟨h.1, h.2.to c fun hf => hF b hf h.1⟩
theorem Bs.or {S T : Nat → Prop} {b : Nat} {cs : List Value} {e : TypeId} (h : Bs S w b cs e) : Bs (Or S T) w b cs e := ⟨.inl h.1, h.2⟩
theorem Bs.sm {S : Nat → Prop} {w' : World} {b : Nat} {cs : List Value} {e : TypeId} (h : Bs S w b cs e) (c : Sm S w w') : Bk w' b cs e := h.2.sm c h.1
section
variable {d : Option Tmp} {ty : TypeId} {pos : String} {af : Array Edge} {g : Option (Nat × Bool)} {S : Nat → Prop} {e : TypeId} {x : Operand} {cs : List Value} {kk : Value → World → Prop}
theorem Cx.one {b : Nat} {w' : World} (hS : Sb S w) (u : Up No w w') (h1 : w.heap.size ≤ b) (h2 : b < w'.heap.size) : Cx No S w (Or S (One b)) w' :=
 ⟨u, (Ge.refl S _).add fun x hx => by cases hx; exact h1, fun x hx => hx.elim (fun hx => Nat.lt_of_lt_of_le (hS x hx) u.size) fun hx => by cases hx; exact h2⟩
theorem dc_boxS (hS : Sb S w) (hx : (ev ρ x).cells = cs.toArray) (h : ∀ b S' w', Cx No S w S' w' → Bs S' w' b cs e → kk (.pointer (some ⟨b, 0, none⟩)) w') :
 Does P ⟨d, .box e x, ty, pos, af, g⟩ ρ w kk :=
 dc_box hx fun b w' h1 h2 u hb => h b _ w' (Cx.one hS u h1 h2) ⟨.inr rfl, hb⟩
end
section
variable {α : Type} {k : Kd α} {S : Nat → Prop} {v : Value} {xs : List α} {t e by_ : Nat}
theorem rw_loadA {u : α} {i : Int} (el : El P k t e by_) (hs : Sl (kSl k) S w v xs) (hi : at_ xs i = some u) :
 ∃ r, Sl k S w r u ∧ ∀ w', Sm S w w' → ∀ {ρ : En} {d : Option Tmp} {ty : TypeId} {pos : String} {af : Array Edge} {g : Option (Nat × Bool)} {x : Operand},
  ev ρ x = .pointer (some ⟨sb v, so v + i.toNat * k.sz, none⟩) → Rw P ⟨d, .load e x, ty, pos, af, g⟩ ρ w' r := by
 obtain ⟨cs, hr, hc⟩ := hs.cells hi; refine ⟨k.val cs, ⟨cs, rfl, hr⟩, fun w' hw ρ d ty pos af g x hx => ?_⟩; unfold Rw; simp only [execOp, Instr.loadAt, Instr.sureAddr, hx, Sem.run_bind, Sem.run_pure, Result.andThen_ok]; rw [run_loadTy el.toTy (k.len hr) rfl (hc w' hw)]
 rfl
theorem rv_fromA {lo : Int} {r : List α} (el : El P k t e by_) (hs : Sl (kSl k) S w v xs) (h : from_ xs lo = some r) :
 ∃ u, Sl (kSl k) S w u r ∧ ∀ {ρ : En} {d : Option Tmp} {ty : TypeId} {pos : String} {af : Array Edge} {g : Option (Nat × Bool)} {x y : Operand} {kl : IntKind},
  ev ρ x = v → ev ρ y = .int kl lo → Rv P ⟨d, .slice t x (some y) none none, ty, pos, af, g⟩ ρ u := by
 obtain ⟨u, hu, _⟩ := rv_from (P := P) (ρ := fun n => bif Nat.beq n 0 then v else .int .i64 lo) (x := .tmp 0) (y := .tmp 1) (d := none) (ty := 0) (pos := "") (af := #[]) (g := none) el hs rfl rfl h; obtain ⟨A, c, rfl, hc, hl, hr⟩ := sl_slice.1 hs; unfold from_ at h
 split at h
 case isFalse => cases h
 rename_i hb
 obtain ⟨h0, h1⟩ := hb; cases h; refine ⟨.slice (if c = lo.toNat then A else A.map (·.add (lo.toNat * k.sz))) (xs.length - lo.toNat) (c - lo.toNat), ?_, fun {ρ d ty pos af g x y kl} hx hy w' => ?_⟩
 ·have hlen : (xs.drop lo.toNat).length = xs.length - lo.toNat := List.length_drop ..; refine sl_slice.2 ⟨_, _, by rw [hlen], by rw [hlen]; omega, by rw [hlen]; omega, ?_⟩; rcases hr with rfl | ⟨b, off, rfl, hb, hr⟩
  ·exact .inl (by simp)
  ·by_cases hcl : c = lo.toNat
   ·left
    apply List.eq_nil_of_length_eq_zero
    rw [hlen]; omega
   ·exact .inr ⟨b, off + lo.toNat * k.sz, by rw [if_neg hcl, Option.map_some, addr_add], hb, hr.drop⟩
 ·have hsz := el.toTy.size (w := w'); have e2 : (Instr.sliceBound (.int kl lo) xs.length .sliceB).run P w' = .ok lo.toNat w' := run_sliceBound w' kl lo xs.length _ (by omega) (by omega)
  simp only [execOp, hx, hy, Option.map_some, Option.map_none, Instr.sliceAt, Instr.slice, underlying, program, Sem.run_bind, Sem.run, el.ht, Result.andThen_ok, Sem.run_pure, Instr.sliceBounds,
   Option.isSome_none, Bool.false_eq_true, if_false, e2, hsz]
theorem rv_uptoA {hi : Int} {r : List α} (el : El P k t e by_) (hs : Sl (kSl k) S w v xs) (h : upto_ xs hi = some r) :
 ∃ u, Sl (kSl k) S w u r ∧ ∀ {ρ : En} {d : Option Tmp} {ty : TypeId} {pos : String} {af : Array Edge} {g : Option (Nat × Bool)} {x z : Operand} {kh : IntKind},
  ev ρ x = v → ev ρ z = .int kh hi → Rv P ⟨d, .slice t x none (some z) none, ty, pos, af, g⟩ ρ u := by
 unfold upto_ at h
 split at h
 case isFalse => cases h
 rename_i hb
 obtain ⟨h0, h1⟩ := hb; cases h; obtain ⟨A, c, rfl, hc, hl, hr⟩ := sl_slice.1 hs; refine ⟨.slice (if c = 0 then A else A.map (·.add (0 * k.sz))) (hi.toNat - 0) (c - 0), ?_, fun {ρ d ty pos af g x z kh} hx hz w' => ?_⟩
 ·have hlen : (xs.take hi.toNat).length = hi.toNat := by rw [List.length_take]; omega
  refine sl_slice.2 ⟨_, _, by rw [hlen]; rfl, by rw [hlen]; omega, by rw [hlen]; omega, ?_⟩; rcases hr with rfl | ⟨b, off, rfl, hb, hr⟩
  ·exact .inl (by simp)
  ·refine .inr ⟨b, off, ?_, hb, hr.take⟩
   split
   ·rfl
   ·rw [Nat.zero_mul, Option.map_some, addr_add]
    rfl
 ·have hsz := el.toTy.size (w := w'); have e1 : (Instr.sliceBound (.int kh hi) c .sliceAcap).run P w' = .ok hi.toNat w' := run_sliceBound w' kh hi c _ (by omega) (by omega)
  simp only [execOp, hx, hz, Option.map_some, Option.map_none, Instr.sliceAt, Instr.slice, underlying, program, Sem.run_bind, Sem.run, el.ht, Result.andThen_ok, Sem.run_pure, Instr.sliceBounds,
   if_true, Option.isSome_none, Bool.false_eq_true, if_false, e1, hsz]
end
theorem rep_sc {α : Type} {enc : α → Value} {h : ∀ x, (enc x).oneCell' = true} {S : Nat → Prop} {cs : List Value} {x : α} : (kSc enc h).rep S w cs x ↔ cs = [enc x] := Iff.rfl
theorem rep_sl {α : Type} {k : Kd α} {S : Nat → Prop} {cs : List Value} {xs : List α} : (kSl k).rep S w cs xs ↔ ∃ c, cs = [c] ∧ Sl (kSl k) S w c xs :=
 ⟨fun h => by obtain ⟨A, c, rfl, h1⟩ := h; exact ⟨_, rfl, sl_slice.2 ⟨A, c, rfl, h1⟩⟩, fun ⟨c, hc, h⟩ => by obtain ⟨A, c', h0, h1⟩ := sl_slice.1 h; subst hc; exact ⟨A, c', by rw [h0], h1⟩⟩
def kPair {α β : Type} (a : Kd α) (b : Kd β) : Kd (α × β) where
 sz := a.sz + b.sz
 agg := true
 rep S w cs p := ∃ c1 c2, cs = c1 ++ c2 ∧ a.rep S w c1 p.1 ∧ b.rep S w c2 p.2
 len h := by obtain ⟨c1, c2, rfl, h1, h2⟩ := h; rw [List.length_append, a.len h1, b.len h2]
 one h c hc := by
  obtain ⟨c1, c2, rfl, h1, h2⟩ := h; exact (List.mem_append.1 hc).elim (a.one h1 c) (b.one h2 c)
 mono h hS hw := by obtain ⟨c1, c2, e, h1, h2⟩ := h; exact ⟨c1, c2, e, a.mono h1 hS hw, b.mono h2 hS hw⟩
 sg h := by cases h
def kAgg {α : Type} (a : Kd α) : Kd α where
 sz := a.sz
 agg := true
 rep := a.rep
 len := a.len
 one := a.one
 mono := a.mono
 sg h := by cases h
def kIso {α β : Type} (a : Kd α) (f : β → α) : Kd β where
 sz := a.sz
 agg := a.agg
 rep S w cs x := a.rep S w cs (f x)
 len h := a.len h
 one h := a.one h
 mono h := a.mono h
 sg := a.sg
section
variable {t t2 : TypeId} {x y : Operand} {a b : Bool} {d : Option Tmp} {ty : TypeId} {pos : String} {af : Array Edge} {g : Option (Nat × Bool)}
theorem run_cmp {op : BinOp} {u z r : Value} (hx : ev ρ x = u) (hy : ev ρ y = z) (hg : (eqGuard op t x y u z).run P w = .ok () w) (hb : (binOp op t u z).run P w = .ok r w) :
 (execOp (ev ρ) ⟨d, .binOp op t x y t2, ty, pos, af, g⟩).run P w = .ok (.value r) w := by
 simp only [execOp, hx, hy, Sem.run_bind, hg, hb, Result.andThen_ok, Sem.run_pure]
theorem rv_beql (ht : P.underlying t = some .bool) (hx : ev ρ x = .bool a) (hy : ev ρ y = .bool b) : Rv P ⟨d, .binOp .eql t x y t2, ty, pos, af, g⟩ ρ (.bool (a == b)) := fun w =>
 run_cmp hx hy (by simp [eqGuard]) (run_eql_bool w t a b ht)
theorem rv_slnil {e : TypeId} {A : Option Addr} {n c : Nat} (ht : P.underlying t = some (.slice e)) (hx : ev ρ x = .slice A n c) (hy : ev ρ y = .slice none 0 0) : Rv P ⟨d, .binOp .eql t x y t2, ty, pos, af, g⟩ ρ (.bool A.isNone) := fun w =>
 run_cmp hx hy (by simp [eqGuard]) (by simp only [binOp, Sem.run_bind, run_equal_slice_nil w t e A n c ht, Result.andThen_ok, Sem.run_pure])
end
def clone_ {α : Type} (by_ : Nat) (xs : List α) : Option (List α) := if xs.length * by_ ≤ lim then some xs else none
theorem clone_some {α : Type} {by_ : Nat} {xs r : List α} (h : clone_ by_ xs = some r) : r = xs := by
 unfold clone_ at h
 split at h
 ·exact (Option.some.inj h).symm
 ·cases h
theorem clone_nil {α : Type} {by_ : Nat} {r : List α} (h : clone_ by_ [] = some r) : [] = r := (clone_some h).symm
theorem clone_app {α : Type} {by_ : Nat} {xs r : List α} (h : clone_ by_ xs = some r) : app_ by_ [] xs = some r := by
 have e := clone_some h; subst e; unfold clone_ at h
 split at h
 ·rename_i hb; unfold app_; rw [if_pos (by simpa using hb)]; rfl
 ·cases h
def nz_ (b r : Int) : Option Int := if b = 0 then none else some r
theorem nz_some {b r y : Int} (h : nz_ b r = some y) : b ≠ 0 ∧ r = y := by
 unfold nz_ at h
 split at h
 ·cases h
 ·rename_i hb; exact ⟨hb, Option.some.inj h⟩
end Go.Mg
