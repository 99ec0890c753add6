/- The control layer: a walk over environments (a function from slots to values) in the place of frames. -/
import Derived.Tactics
import Derived.OrdersHeld
import Derived.KernelRfl
import Derived.Deep.LoopGhost
namespace Go.Mg
open Go
set_option linter.unusedVariables false

abbrev En := Nat → Value
def upd (ρ : En) (d : Nat) (v : Value) : En := fun t => bif Nat.beq t d then v else ρ t
def ev (ρ : En) : Operand → Value
  | .tmp t => ρ t
  | .const v => v
  | .global g => .pointer (some ⟨g, 0, none⟩)
  | .func f => .func (.func f) #[] #[]
def put (ρ : En) : Option Tmp → Value → En
  | some d, v => upd ρ d v
  | none, _ => ρ

structure Ag (a : Act) (N : Nat) (ρ : En) : Prop where
  d : a.defers = []
  s : a.tmps.size = N
  g : ∀ t, a.tmps.getD t undef = ρ t

theorem Ag.eval {a : Act} {N : Nat} {ρ : En} (h : Ag a N ρ) : a.eval = ev ρ := by
  funext x; cases x <;> simp [Act.eval, ev, h.g]

theorem beq_ne {a b : Nat} (h : a ≠ b) : Nat.beq a b = false := by
  cases e : Nat.beq a b with
  | false => rfl
  | true => exact absurd (Nat.eq_of_beq_eq_true e) h

theorem Ag.put {a : Act} {N : Nat} {ρ : En} (h : Ag a N ρ) (dst : Option Tmp) (hd : ∀ d, dst = some d → d < N) (v : Value) : Ag (a.put dst v) N (Mg.put ρ dst v) := by
  cases dst with
  | none => exact h
  | some d =>
    have hlt := hd d rfl
    refine ⟨h.d, by simp [Act.put, h.s], fun t => ?_⟩
    have hg := h.g t
    by_cases e : t = d
    · subst e
      simp [Act.put, Mg.put, upd, Array.getD, h.s, hlt]
    · have e' : Nat.beq t d = false := beq_ne e
      simp only [Act.put, Mg.put, upd, e', cond_false]
      rw [← hg]
      simp only [Array.getD_eq_getD_getElem?]
      rw [Array.getElem?_setIfInBounds_ne (by omega)]

/-- The slots that a region writes are there. -/
def dstOk (N : Nat) (ops : Array Oper) : Bool := ops.toList.all fun o => match o.dst with | some d => Nat.blt d N | none => true
def okN (N : Nat) : Code → Bool
  | .region _ ops _ => dstOk N ops
  | .seq a b => okN N a && okN N b
  | .cond _ a b => okN N a && okN N b
  | .block _ a => okN N a
  | .loop a => okN N a
  | .scope a => okN N a
  | .rangeFunc .. => false
  | _ => true

/-- What is asked at each way out. -/
structure Ps where
  n : En → World → Prop
  r : En → World → Prop
  x : List (Nat × (En → World → Prop))

def Ps.look : List (Nat × (En → World → Prop)) → Nat → En → World → Prop
  | [], _, _, _ => False
  | (i, E) :: l, j, ρ, w => bif Nat.beq i j then E ρ w else Ps.look l j ρ w
def Ps.ok (Q : Ps) : Exit → En → World → Prop
  | .normal, ρ, w => Q.n ρ w
  | .ret, ρ, w => Q.r ρ w
  | .exit i, ρ, w => Ps.look Q.x i ρ w
  | _, _, _ => False

variable {P : Program}

def CW (P : Program) (N : Nat) (c : Code) (Q : Ps) (ρ : En) (w : World) : Prop :=
  okN N c = true → ∀ a, Ag a N ρ → c.wp P (fun e a' w' => ∃ ρ', Ag a' N ρ' ∧ Q.ok e ρ' w') a w

variable {N : Nat} {Q : Ps} {ρ : En} {w : World} {qn qr : En → World → Prop} {qx : List (Nat × (En → World → Prop))}

theorem CW.mono {c : Code} {Q' : Ps} (hn : ∀ ρ w, Q.n ρ w → Q'.n ρ w) (hr : ∀ ρ w, Q.r ρ w → Q'.r ρ w) (hx : ∀ i ρ w, Ps.look Q.x i ρ w → Ps.look Q'.x i ρ w)
    (h : CW P N c Q ρ w) : CW P N c Q' ρ w := fun hk a ha => Code.wp_mono (fun e a' w' ⟨ρ', hg, hq⟩ => ⟨ρ', hg, by cases e <;> first | exact hn _ _ hq | exact hr _ _ hq | exact hx _ _ _ hq | exact hq.elim⟩) (h hk a ha)

theorem cw_seq {a b : Code} (h : ∀ K : En → World → Prop, (∀ ρ w, CW P N b ⟨qn, qr, qx⟩ ρ w → K ρ w) → CW P N a ⟨K, qr, qx⟩ ρ w) : CW P N (.seq a b) ⟨qn, qr, qx⟩ ρ w := by
  intro hk ac hac
  simp only [okN, Bool.and_eq_true] at hk
  refine wp_seq (Code.wp_mono ?_ (h (CW P N b ⟨qn, qr, qx⟩) (fun _ _ h => h) hk.1 ac hac))
  rintro e a' w' ⟨ρ', hg, hq⟩
  cases e with
  | normal => exact hq hk.2 a' hg
  | _ => exact ⟨ρ', hg, hq⟩

theorem cw_seq' {a b : Code} (M : En → World → Prop) (h : CW P N a ⟨M, qr, qx⟩ ρ w) (h2 : ∀ ρ w, M ρ w → CW P N b ⟨qn, qr, qx⟩ ρ w) : CW P N (.seq a b) ⟨qn, qr, qx⟩ ρ w :=
  cw_seq fun _ hK => CW.mono (Q := ⟨M, qr, qx⟩) (fun _ _ hm => hK _ _ (h2 _ _ hm)) (fun _ _ h => h) (fun _ _ _ h => h) h

theorem cw_skip (h : qn ρ w) : CW P N .skip ⟨qn, qr, qx⟩ ρ w := fun _ a ha => wp_skip ⟨ρ, ha, h⟩
theorem cw_ret (h : qr ρ w) : CW P N .ret ⟨qn, qr, qx⟩ ρ w := fun _ a ha => wp_ret ⟨ρ, ha, h⟩
theorem cw_exit {i : Nat} (h : Ps.look qx i ρ w) : CW P N (.exit i) ⟨qn, qr, qx⟩ ρ w := fun _ a ha => wp_exit ⟨ρ, ha, h⟩

theorem cw_true {c : Operand} {x y : Code} (hc : ev ρ c = .bool true) (h : CW P N x Q ρ w) : CW P N (.cond c x y) Q ρ w := fun hk a ha => by
  simp only [okN, Bool.and_eq_true] at hk
  exact wp_cond (t := true) (by rw [ha.eval]; exact hc) (h hk.1 a ha)
theorem cw_false {c : Operand} {x y : Code} (hc : ev ρ c = .bool false) (h : CW P N y Q ρ w) : CW P N (.cond c x y) Q ρ w := fun hk a ha => by
  simp only [okN, Bool.and_eq_true] at hk
  exact wp_cond (t := false) (by rw [ha.eval]; exact hc) (by simpa using h hk.2 a ha)
theorem cw_cond {c : Operand} {x y : Code} {b : Bool} (hc : ev ρ c = .bool b) (ht : b = true → CW P N x Q ρ w) (hf : b = false → CW P N y Q ρ w) : CW P N (.cond c x y) Q ρ w := by
  cases b with
  | true => exact cw_true hc (ht rfl)
  | false => exact cw_false hc (hf rfl)

theorem cw_block {i : Nat} {c : Code} (h : CW P N c ⟨qn, qr, (i, qn) :: qx⟩ ρ w) : CW P N (.block i c) ⟨qn, qr, qx⟩ ρ w := fun hk a ha => by
  refine wp_block (Code.wp_mono ?_ (h hk a ha))
  rintro e a' w' ⟨ρ', hg, hq⟩
  cases e with
  | exit j =>
    simp only [Ps.ok, Ps.look] at hq
    by_cases e : i = j
    · subst e
      simp only [Nat.beq_refl, cond_true] at hq
      simp only [Exit.inBlock, if_true]
      exact ⟨ρ', hg, hq⟩
    · have e' : Nat.beq i j = false := beq_ne e
      simp only [e', cond_false] at hq
      simp only [Exit.inBlock]
      rw [if_neg (by first | exact e | exact fun h => e h.symm)]
      exact ⟨ρ', hg, hq⟩
  | _ => exact ⟨ρ', hg, hq⟩

/-- A loop by a measure that hangs on ghosts. -/
theorem cw_loop {c : Code} (I : Nat → En → World → Prop) (n : Nat) (h0 : I n ρ w)
    (hb : ∀ n ρ w, I n ρ w → CW P N c ⟨fun ρ' w' => ∃ m, m < n ∧ I m ρ' w', qr, qx⟩ ρ w) : CW P N (.loop c) ⟨qn, qr, qx⟩ ρ w := fun hk a ha => by
  refine wp_loop_ghost (fun n a w => ∃ ρ, Ag a N ρ ∧ I n ρ w) n ⟨ρ, ha, h0⟩ ?_
  rintro n a w ⟨ρ, ha, h⟩
  refine Code.wp_mono ?_ (hb _ ρ w h hk a ha)
  rintro e a' w' ⟨ρ', hg, hq⟩
  cases e with
  | normal =>
    obtain ⟨m, hm, hIm⟩ := hq
    exact ⟨m, hm, ρ', hg, hIm⟩
  | _ => exact ⟨ρ', hg, hq⟩

/-! ### Operations in the text's order -/

def wantedE (ops : Array Oper) (ρ : En) (o : Oper) : Bool :=
  match o.guard with
  | none => true
  | some (j, want) => match (ops[j]?).bind (·.dst) with
    | some d => match ρ d with
      | .bool b => b == want
      | _ => false
    | none => false

/-- An operation's run, and what is asked of what it yields. -/
def Does (P : Program) (o : Oper) (ρ : En) (w : World) (k : Value → World → Prop) : Prop :=
  match (execOp (ev ρ) o).run P w with
  | .ok (.value v) w' => k v w'
  | .ok .skip w' => k undef w'
  | .ok (.enter f args) w' => Calls P f args w' fun e w'' => ∃ v, e = .returned v ∧ k v w''
  | _ => False

theorem Does.mono {o : Oper} {k k' : Value → World → Prop} (h : Does P o ρ w k) (hk : ∀ v w', k v w' → k' v w') : Does P o ρ w k' := by
  unfold Does at *
  generalize (execOp (ev ρ) o).run P w = r at h ⊢
  cases r with
  | halt x w' => exact h.elim
  | ok n w' =>
    cases n with
    | value v => exact hk _ _ h
    | skip => exact hk _ _ h
    | enter f args => exact Calls.mono h fun e w'' ⟨v, he, hv⟩ => ⟨v, he, hk _ _ hv⟩
    | _ => exact h.elim

def W (P : Program) (ops : Array Oper) (K : En → World → Prop) : List Oper → En → World → Prop
  | [], ρ, w => K ρ w
  | o :: l, ρ, w => bif wantedE ops ρ o then Does P o ρ w (fun v w' => W P ops K l (put ρ o.dst v) w') else W P ops K l (put ρ o.dst undef) w

theorem wanted_of {ops : Array Oper} {a : Act} (hd : dstOk N ops = true) (ha : Ag a N ρ) (o : Oper) : Region.wanted o (yielded ops a.tmps) = wantedE ops ρ o := by
  unfold Region.wanted wantedE
  cases hg : o.guard with
  | none => rfl
  | some p =>
    obtain ⟨j, want⟩ := p
    simp only [yielded]
    cases hj : ((ops[j]?).bind fun x => x.dst) with
    | none => simp
    | some d =>
      have hdN : d < N := by
        cases ho : ops[j]? with
        | none => simp [ho] at hj
        | some oj =>
          simp [ho] at hj
          have hmem : oj ∈ ops.toList := by
            rw [Array.getElem?_eq_some_iff] at ho
            obtain ⟨hlt, he⟩ := ho
            rw [← he]; simp
          have := List.all_eq_true.1 hd oj hmem
          rw [hj] at this
          simpa using this
      have hgd := ha.g d
      have hs : d < a.tmps.size := by rw [ha.s]; exact hdN
      simp only [Option.bind_some, Array.getElem?_eq_getElem hs]
      have : a.tmps[d] = ρ d := by rw [← hgd]; simp [Array.getD, hs]
      rw [this]
      cases ρ d <;> simp

theorem Does.wp {o : Oper} {a : Act} {k : Value → World → Prop} (ha : Ag a N ρ) (hd : ∀ d, o.dst = some d → d < N) {K : Act → World → Prop} {Q' : Exit → Act → World → Prop}
    (hK : ∀ v w', k v w' → K (a.put o.dst v) w') (h : Does P o ρ w k) : o.wp P a w K Q' := by
  unfold Oper.wp
  unfold Does at h
  rw [ha.eval]
  generalize (execOp (ev ρ) o).run P w = r at h ⊢
  cases r with
  | halt x w' => exact h.elim
  | ok n w' =>
    cases n with
    | value v => exact hK _ _ h
    | skip => exact hK _ _ h
    | enter f args => exact Calls.mono h fun e w'' ⟨v, he, hv⟩ => by subst he; exact hK _ _ hv
    | _ => exact h.elim

theorem wpList_of_W {ops : Array Oper} {K : En → World → Prop} (hd : dstOk N ops = true) {Q' : Exit → Act → World → Prop} (hQ : ∀ ρ' a' w', Ag a' N ρ' → K ρ' w' → Q' .normal a' w') :
    ∀ (l : List Oper), (∀ o ∈ l, o ∈ ops.toList) → ∀ (ρ : En) (a : Act) (w : World), Ag a N ρ → W P ops K l ρ w → wpList P ops Q' l a w
  | [], _, ρ, a, w, ha, h => hQ _ _ _ ha h
  | o :: l, hl, ρ, a, w, ha, h => by
    have hdo : ∀ d, o.dst = some d → d < N := fun d e => by
      have := List.all_eq_true.1 hd o (hl o (List.mem_cons_self ..))
      rw [e] at this
      simpa using this
    have hl' : ∀ o ∈ l, o ∈ ops.toList := fun o' ho' => hl o' (List.mem_cons_of_mem _ ho')
    unfold wpList
    rw [wanted_of hd ha o]
    unfold W at h
    cases hw : wantedE ops ρ o with
    | true =>
      rw [hw] at h
      simp only [cond_true] at h
      rw [if_pos rfl]
      exact .inl (Does.wp ha hdo (fun v w' hk => wpList_of_W hd hQ l hl' _ _ _ (ha.put o.dst hdo v) hk) h)
    | false =>
      rw [hw] at h
      simp only [cond_false] at h
      rw [if_neg (by simp)]
      exact wpList_of_W hd hQ l hl' _ _ _ (ha.put o.dst hdo undef) h

theorem cw_region {id : Nat} {l : List Oper} (h : W P l.toArray qn l ρ w) : CW P N (.region id l.toArray false) ⟨qn, qr, qx⟩ ρ w := fun hk a ha =>
  wp_region_list (wpList_of_W (K := qn) (N := N) hk (fun ρ' a' w' hg hq => ⟨ρ', hg, hq⟩) _ (fun o h => by simpa using h) ρ a w ha (by simpa using h) : wpList P l.toArray (fun e a' w' => ∃ ρ', Ag a' N ρ' ∧ (Ps.mk qn qr qx).ok e ρ' w') l.toArray.toList a w)

/-! ### Entering a function -/

def resTs : List ResultVar → Option (List Tmp)
  | [] => some []
  | .tmp t :: l => (resTs l).map (t :: ·)
  | .cell _ _ :: _ => none
def resV (rs : List ResultVar) (ρ : En) : Option Value :=
  match resTs rs with
  | some [t] => some (ρ t)
  | some ts => some (.tuple (ts.map ρ).toArray)
  | none => none

theorem resTs_spec : ∀ {rs : List ResultVar} {ts : List Tmp}, resTs rs = some ts → rs = ts.map .tmp
  | [], ts, h => by simp [resTs] at h; subst h; rfl
  | .tmp t :: l, ts, h => by
    simp only [resTs, Option.map_eq_some_iff] at h
    obtain ⟨us, hu, rfl⟩ := h
    rw [resTs_spec hu]; rfl
  | .cell _ _ :: _, _, h => by simp [resTs] at h

theorem mapM_tmps (tmps : Array Value) : ∀ (ts : List Tmp), ((ts.map ResultVar.tmp).mapM (m := Sem) fun x => match x with
        | .tmp t => pure (tmps.getD t undef)
        | .cell c t => do loadVar t (← asAddr (tmps.getD c undef))).run P w = .ok (ts.map fun t => tmps.getD t undef) w
  | [] => by simp
  | t :: ts => by
    rw [List.map_cons, List.mapM_cons]
    simp only [Sem.run_bind, Sem.run_pure, Result.andThen_ok, mapM_tmps tmps ts, List.map_cons]

theorem results_of {fn : Func} {a : Act} {v : Value} (ha : Ag a N ρ) (h : resV fn.results.toList ρ = some v) : (results fn a.tmps).run P w = .ok v w := by
  unfold resV at h
  cases hts : resTs fn.results.toList with
  | none => rw [hts] at h; cases h
  | some ts =>
    rw [hts] at h
    have hr : fn.results = (ts.map ResultVar.tmp).toArray := by rw [← resTs_spec hts]
    have hm := mapM_tmps (P := P) (w := w) a.tmps ts
    have hg : (ts.map fun t => a.tmps.getD t undef) = ts.map ρ := List.map_congr_left fun t _ => ha.g t
    rw [hg] at hm
    unfold results
    rw [hr, List.mapM_toArray]
    simp only [Sem.run_bind, Sem.run_map]
    erw [hm]
    simp only [Result.andThen_ok, Sem.run_pure, List.size_toArray]
    match ts, h with
    | [t], h => simp at h; subst h; simp
    | [], h => simp at h; subst h; simp
    | t :: u :: ts, h => simp at h; subst h; simp

def Res (rs : List ResultVar) (R : Ending → World → Prop) (ρ : En) (w : World) : Prop := ∃ v, resV rs ρ = some v ∧ R (.returned v) w

theorem enter {f : FuncId} {fn : Func} {c : Code} {args : List Value} {R : Ending → World → Prop} (hf : P.funcs[f]? = some fn) (hb : fn.body = some c)
    (hok : okN fn.ntmps c = true) (hsz : Nat.ble args.length fn.ntmps = true)
    (h : CW P fn.ntmps c ⟨Res fn.results.toList R, Res fn.results.toList R, []⟩ (fun t => args.getD t undef) w) : Calls P f args.toArray w R := by
  refine calls_of_wp hf hb ?_
  have hle : args.length ≤ fn.ntmps := Nat.le_of_ble_eq_true hsz
  refine Code.wp_mono ?_ (h hok ⟨args.toArray ++ Array.replicate (fn.ntmps - args.toArray.size) undef, []⟩ ⟨rfl, by simp; omega, fun t => ?_⟩)
  · rintro e a' w' ⟨ρ', hg, hq⟩
    cases e with
    | normal => obtain ⟨v, h1, h2⟩ := hq; exact ⟨hg.d, v, results_of hg h1, h2⟩
    | ret => obtain ⟨v, h1, h2⟩ := hq; exact ⟨hg.d, v, results_of hg h1, h2⟩
    | exit i => exact hq.elim
    | _ => exact hq.elim
  · simp only [Array.getD_eq_getD_getElem?, List.getD_eq_getElem?_getD]
    by_cases ht : t < args.length
    · rw [Array.getElem?_append_left (by simpa using ht)]; simp
    · rw [Array.getElem?_append_right (by simpa using Nat.le_of_not_lt ht)]
      rw [List.getElem?_eq_none (Nat.le_of_not_lt ht)]
      rw [Array.getElem?_replicate]
      split <;> rfl

end Go.Mg
