/- Regions that draw their order: an operation that only reads may be taken first where whoever could come ahead of it leaves alone what it reads. -/
import Derived.Test.YtbkkobbjmhgkjaaDoorMgH
namespace Go.Mg
open Go
set_option linter.unusedVariables false

section
variable {P : Program} {ops : Array Oper} {Q : Exit → Act → World → Prop} {md : Region.Mode} {S : Nat → World → World → Prop}

/-- Whatever order is picked; behind operation i the world is as S i says. -/
def wpAnyS (P : Program) (md : Region.Mode) (ops : Array Oper) (Q : Exit → Act → World → Prop) (S : Nat → World → World → Prop) : Nat → Array Bool → Act → World → Prop
  | 0, listed, a, w => Region.ready md ops listed = [] ∧ Q .normal a w
  | n + 1, listed, a, w => (Region.ready md ops listed = [] → Q .normal a w) ∧
      ∀ i ∈ Region.ready md ops listed, wpOp P ops Q i (fun a' w' => S i w w' ∧ wpAnyS P md ops Q S n (listed.setIfInBounds i true) a' w') a w

theorem wpAny_of_S : ∀ (n : Nat) (listed : Array Bool) (a : Act) (w : World), wpAnyS P md ops Q S n listed a w → wpAny P md ops Q n listed a w
  | 0, _, _, _, h => h
  | n + 1, _, _, _, h => ⟨h.1, fun i hi => wpOp_mono (fun a' w' h' => wpAny_of_S n _ a' w' h'.2) (h.2 i hi)⟩

/-- Operation i is taken first: it yields v in every world that meets R; R holds now, and behind each operation that does not wait for i. -/
theorem wpAnyS_first {i : Nat} {oi : Oper} {v : Value} {R : World → Prop} (hi : ops[i]? = some oi) (hsel : ∀ (j : Nat) (o : Oper) cs b, ops[j]? = some o → o.op ≠ .select cs b)
    (hQ : ∀ c a w, Q (.panic c) (a.put oi.dst v) w → Q (.panic c) a w) (hSi : ∀ w, S i w w)
    (hR : ∀ j oj, ops[j]? = some oj → j ≠ i → (∀ e ∈ oj.after, Region.binds md e = true → e.on ≠ i) → (∀ e ∈ oi.after, Region.binds md e = true → e.on ≠ j) → ∀ w w', R w → S j w w' → R w') :
    ∀ (n : Nat) (listed : Array Bool) (a : Act) (w : World),
      (∀ j oj, ops[j]? = some oj → j ≠ i → listed.getD j true = false → (∀ e ∈ oj.after, Region.binds md e = true → e.on ≠ i) → oi.apart ops oj = true) →
      i ∈ Region.ready md ops listed → YieldsIf P ops R oi v a → R w →
      wpAnyS P md ops Q S n (listed.setIfInBounds i true) (a.put oi.dst v) w → wpAnyS P md ops Q S (n + 1) listed a w := by
  intro n
  induction n with
  | zero =>
    intro listed a w _ hr hy hw H
    refine ⟨fun h => (by rw [h] at hr; cases hr), fun j hj => ?_⟩
    by_cases hji : j = i
    · subst hji; exact hy.wpOp hi hw ⟨hSi w, H⟩
    · have := ready_mono hj hji
      rw [H.1] at this
      cases this
  | succ n ih =>
    intro listed a w hfree hr hy hw H
    refine ⟨fun h => (by rw [h] at hr; cases hr), fun j hj => ?_⟩
    by_cases hji : j = i
    · subst hji; exact hy.wpOp hi hw ⟨hSi w, H⟩
    · have h1 := H.2 j (ready_mono hj hji)
      obtain ⟨hjun, oj, hoj, hall⟩ := mem_ready.1 hj
      have hnot : ∀ e ∈ oj.after, Region.binds md e = true → e.on ≠ i := fun e he hb heq => by
        have h1 := hall e he hb
        have h0 := (mem_ready.1 hr).1
        rw [heq] at h1
        rcases Nat.lt_or_ge i listed.size with h' | h'
        · simp [h'] at h0 h1; rw [h0] at h1; cases h1
        · simp [Array.getElem?_eq_none h'] at h1
      have hnot2 : ∀ e ∈ oi.after, Region.binds md e = true → e.on ≠ j := fun e he hb heq => by
        obtain ⟨_, o2, ho2, hall2⟩ := mem_ready.1 hr
        rw [hi] at ho2
        cases ho2
        have h1 := hall2 e he hb
        rw [heq] at h1
        rcases Nat.lt_or_ge j listed.size with h' | h'
        · simp [h'] at hjun h1; rw [hjun] at h1; cases h1
        · simp [Array.getElem?_eq_none h'] at h1
      have h2 := wpOp_putIf hoj (hfree j oj hoj hji hjun hnot) (fun cs b => hsel i oi cs b hi) (fun cs b => hsel j oj cs b hoj) hQ hy h1
      have hfree' : ∀ k ok, ops[k]? = some ok → k ≠ i → (listed.setIfInBounds j true).getD k true = false →
          (∀ e ∈ ok.after, Region.binds md e = true → e.on ≠ i) → oi.apart ops ok = true := fun k ok hk hki hun hno => by
        refine hfree k ok hk hki ?_ hno
        by_cases hjk : j = k
        · subst hjk; exact hjun
        · rw [getD_set_ne true hjk] at hun; exact hun
      refine wpOp_mono (fun a' w' h3 => ⟨h3.2.1, ih (listed.setIfInBounds j true) a' w' hfree' (ready_mono hr (Ne.symm hji)) h3.1 (hR j oj hoj hji hnot hnot2 w w' hw h3.2.1) ?_⟩) h2
      rw [Array.setIfInBounds_comm _ _ hji]
      exact h3.2.2
end

variable {P : Program} {N : Nat} {Q : Ps} {ρ : En} {w : World} {qn qr : En → World → Prop} {qx : List (Nat × (En → World → Prop))}

/-- An order; where two may come up, two. -/
inductive Ot
  | done
  | one (i : Nat) (q : Bool) (k : Ot)
  | two (i j : Nat) (a b : Ot)
def Ot.len : Ot → Nat
  | .done => 0
  | .one _ _ k => k.len + 1
  | .two _ _ a _ => a.len + 1

/-- What an operation reads (by numbers of classes of blocks), or has to leave alone. -/
def cls (U : List (Nat × List Nat)) (i : Nat) : List Nat := match U with
  | [] => []
  | (j, l) :: U => bif Nat.beq i j then l else cls U i
def subB (a b : List Nat) : Bool := a.all fun c => b.any fun d => Nat.beq c d
/-- Every operation leaves alone what i reads, or waits for i; behind i itself nothing is asked. -/
def isAct (T : List (Nat × List Nat)) (i : Nat) : Bool := T.any fun x => Nat.beq i x.1
def readOK (ops : Array Oper) (U T : List (Nat × List Nat)) (i : Nat) : Bool :=
  !isAct T i && ((List.range ops.size).all fun j => !isAct T j || Nat.beq j i || (match ops[j]? with
    | none => true
    | some o => (o.after.any fun e => Region.binds .any e && Nat.beq e.on i) || (match ops[i]? with
      | none => false
      | some oi => oi.after.any fun e => Region.binds .any e && Nat.beq e.on j) || subB (cls U i) (cls T j)))
def otOK (ops : Array Oper) (U T : List (Nat × List Nat)) : Ot → Array Bool → Bool
  | .done, listed => (Region.ready .any ops listed).isEmpty
  | .one i true k, listed => Region.free .any ops listed i && (Region.ready .any ops listed).contains i && readOK ops U T i && otOK ops U T k (listed.setIfInBounds i true)
  | .one i false k, listed => (Region.ready .any ops listed == [i]) && isAct T i && otOK ops U T k (listed.setIfInBounds i true)
  | .two i j a b, listed => (Region.ready .any ops listed == [i, j]) && isAct T i && isAct T j && Nat.beq a.len b.len && otOK ops U T a (listed.setIfInBounds i true) && otOK ops U T b (listed.setIfInBounds j true)

/-- All classes' blocks are as they were. -/
def Kept (Cl : Nat → Nat → Prop) (w0 : World) : List Nat → World → Prop
  | [], _ => True
  | c :: l, w => Sm (Cl c) w0 w ∧ Kept Cl w0 l w

theorem Kept.sub {Cl : Nat → Nat → Prop} {w0 w : World} {a b : List Nat} (h : subB a b = true) (hb : Kept Cl w0 b w) : Kept Cl w0 a w := by
  have hm : ∀ {l : List Nat}, Kept Cl w0 l w → ∀ c ∈ l, Sm (Cl c) w0 w := by
    intro l
    induction l with
    | nil => intro _ c hc; cases hc
    | cons d l ih =>
      intro h c hc
      rcases List.mem_cons.1 hc with rfl | hc
      · exact h.1
      · exact ih h.2 c hc
  have h := List.all_eq_true.1 h
  induction a with
  | nil => trivial
  | cons c a ih =>
    refine ⟨?_, ih (List.all_eq_true.2 fun x hx => h x (List.mem_cons_of_mem _ hx)) fun x hx => h x (List.mem_cons_of_mem _ hx)⟩
    obtain ⟨d, hd, he⟩ := List.any_eq_true.1 (h c List.mem_cons_self)
    have := Nat.eq_of_beq_eq_true he
    subst this
    exact hm hb _ hd

/-- One operation that may write. -/
def StpT (P : Program) (ops : Array Oper) (C : World → Prop) (i : Nat) (ρ : En) (w : World) (k : En → World → Prop) : Prop := match ops[i]? with
  | none => False
  | some o => bif wantedE ops ρ o then Does P o ρ w fun v w' => C w' ∧ k (put ρ o.dst v) w' else C w ∧ k (put ρ o.dst undef) w

def MT (P : Program) (ops : Array Oper) (U T : List (Nat × List Nat)) (Cl : Nat → Nat → Prop) (w0 : World) (K : En → World → Prop) : Ot → En → World → Prop
  | .done, ρ, w => K ρ w
  | .one i true k, ρ, w => match ops[i]? with
    | none => False
    | some o => Kept Cl w0 (cls U i) w ∧ bif wantedE ops ρ o then ∃ v, (∀ w', Kept Cl w0 (cls U i) w' → (execOp (ev ρ) o).run P w' = .ok (.value v) w') ∧ MT P ops U T Cl w0 K k (put ρ o.dst v) w
      else MT P ops U T Cl w0 K k (put ρ o.dst undef) w
  | .one i false k, ρ, w => StpT P ops (Kept Cl w0 (cls T i)) i ρ w (MT P ops U T Cl w0 K k)
  | .two i j a b, ρ, w => StpT P ops (Kept Cl w0 (cls T i)) i ρ w (MT P ops U T Cl w0 K a) ∧ StpT P ops (Kept Cl w0 (cls T j)) j ρ w (MT P ops U T Cl w0 K b)

theorem wpOp_of_StpT {ops : Array Oper} {C : World → Prop} (hd : dstOk N ops = true) {Q' : Exit → Act → World → Prop} {i : Nat} {S : Nat → World → World → Prop} (hC : ∀ w w', C w' → S i w w') {n : Nat} {listed : Array Bool} {k : En → World → Prop} {ρ : En} {a : Act} {w : World} (ha : Ag a N ρ)
    (h : StpT P ops C i ρ w k) (hk : ∀ ρ a w, Ag a N ρ → k ρ w → wpAnyS P .any ops Q' S n listed a w) :
    wpOp P ops Q' i (fun a' w' => S i w w' ∧ wpAnyS P .any ops Q' S n listed a' w') a w := by
  unfold StpT at h
  cases ho : ops[i]? with
  | none => rw [ho] at h; exact h.elim
  | some o =>
    rw [ho] at h
    dsimp only at h
    have hmem : o ∈ ops.toList := by
      rw [Array.getElem?_eq_some_iff] at ho
      obtain ⟨hlt, he⟩ := ho
      rw [← he]; simp
    have hdo : ∀ d, o.dst = some d → d < N := fun d e => by
      have := List.all_eq_true.1 hd o hmem
      rw [e] at this
      simpa using this
    unfold wpOp
    rw [ho]
    dsimp only
    rw [wanted_of hd ha o]
    cases hw : wantedE ops ρ o with
    | true =>
      rw [hw] at h
      simp only [cond_true] at h
      rw [if_pos rfl]
      exact .inl (Does.wp ha hdo (fun v w' hk' => ⟨hC _ _ hk'.1, hk _ _ _ (ha.put o.dst hdo v) hk'.2⟩) h)
    | false =>
      rw [hw] at h
      simp only [cond_false] at h
      rw [if_neg (by simp)]
      exact ⟨hC _ _ h.1, hk _ _ _ (ha.put o.dst hdo undef) h.2⟩

/-- What holds behind an operation: an act leaves its classes alone, the others do nothing. -/
def TS (Cl : Nat → Nat → Prop) (w0 : World) (T : List (Nat × List Nat)) (i : Nat) (w w' : World) : Prop := bif isAct T i then Kept Cl w0 (cls T i) w' else w' = w

theorem anyS_of_MT {ops : Array Oper} {U T : List (Nat × List Nat)} {Cl : Nat → Nat → Prop} {w0 : World} {K : En → World → Prop} (hd : dstOk N ops = true) (hsel : Region.noSelect ops = true) {Q' : Exit → Act → World → Prop}
    (hp : ∀ c a w, ¬ Q' (.panic c) a w) (hQ : ∀ ρ' a' w', Ag a' N ρ' → K ρ' w' → Q' .normal a' w') :
    ∀ (σ : Ot) (listed : Array Bool), otOK ops U T σ listed = true → ∀ (ρ : En) (a : Act) (w : World), Ag a N ρ → MT P ops U T Cl w0 K σ ρ w →
      wpAnyS P .any ops Q' (TS Cl w0 T) σ.len listed a w
  | .done, listed, hm, ρ, a, w, ha, h => ⟨by simpa [otOK] using hm, hQ _ _ _ ha h⟩
  | .one i true k, listed, hm, ρ, a, w, ha, h => by
    unfold MT at h
    cases ho : ops[i]? with
    | none => rw [ho] at h; exact h.elim
    | some o =>
      rw [ho] at h
      dsimp only at h
      have hmem : o ∈ ops.toList := by
        rw [Array.getElem?_eq_some_iff] at ho
        obtain ⟨hlt, he⟩ := ho
        rw [← he]; simp
      have hdo : ∀ d, o.dst = some d → d < N := fun d e => by
        have := List.all_eq_true.1 hd o hmem
        rw [e] at this
        simpa using this
      simp only [otOK, Bool.and_eq_true] at hm
      obtain ⟨⟨⟨hf, hr⟩, hro⟩, hm'⟩ := hm
      simp only [readOK, Bool.and_eq_true] at hro
      obtain ⟨hTi, hall⟩ := hro
      have hTi : isAct T i = false := by simpa using hTi
      have hall := List.all_eq_true.1 hall
      have hR : ∀ j oj, ops[j]? = some oj → j ≠ i → (∀ e ∈ oj.after, Region.binds .any e = true → e.on ≠ i) → (∀ e ∈ o.after, Region.binds .any e = true → e.on ≠ j) → ∀ w w', Kept Cl w0 (cls U i) w → TS Cl w0 T j w w' → Kept Cl w0 (cls U i) w' := by
        intro j oj hj hji hno hno2 w w' hkw hk
        have hlt : j < ops.size := (Array.getElem?_eq_some_iff.1 hj).1
        have := hall j (List.mem_range.2 hlt)
        rw [hj, ho] at this
        dsimp only at this
        simp only [Bool.or_eq_true] at this
        unfold TS at hk
        cases ha : isAct T j with
        | false => rw [ha, cond_false] at hk; rw [hk]; exact hkw
        | true =>
        rw [ha, cond_true] at hk
        rw [ha] at this
        rcases this with (h1 | h1) | (h1 | h1) | h1
        · cases h1
        · exact absurd (Nat.eq_of_beq_eq_true h1) hji
        · obtain ⟨n, hn, he⟩ := Array.any_eq_true.1 h1
          simp only [Bool.and_eq_true] at he
          exact absurd (Nat.eq_of_beq_eq_true he.2) (hno _ (Array.getElem_mem hn) he.1)
        · obtain ⟨n, hn, he⟩ := Array.any_eq_true.1 h1
          simp only [Bool.and_eq_true] at he
          exact absurd (Nat.eq_of_beq_eq_true he.2) (hno2 _ (Array.getElem_mem hn) he.1)
        · exact Kept.sub h1 hk
      obtain ⟨hKw, h⟩ := h
      cases hw : wantedE ops ρ o with
      | true =>
        rw [hw] at h
        simp only [cond_true] at h
        obtain ⟨v, hv, hk⟩ := h
        exact wpAnyS_first (R := Kept Cl w0 (cls U i)) ho (Region.noSelect_spec hsel) (fun c a w hq => (hp _ _ _ hq).elim) (fun w => by unfold TS; rw [hTi]; rfl) hR _ _ _ _ (Region.free_spec ho hf) (by simpa using hr)
          (.inl ⟨by rw [wanted_of hd ha o, hw], by rw [ha.eval]; exact hv⟩) hKw (anyS_of_MT hd hsel hp hQ k _ hm' _ _ _ (ha.put o.dst hdo v) hk)
      | false =>
        rw [hw] at h
        simp only [cond_false] at h
        exact wpAnyS_first (R := Kept Cl w0 (cls U i)) ho (Region.noSelect_spec hsel) (fun c a w hq => (hp _ _ _ hq).elim) (fun w => by unfold TS; rw [hTi]; rfl) hR _ _ _ _ (Region.free_spec ho hf) (by simpa using hr)
          (.inr ⟨by rw [wanted_of hd ha o, hw], rfl⟩) hKw (anyS_of_MT hd hsel hp hQ k _ hm' _ _ _ (ha.put o.dst hdo undef) h)
  | .one i false k, listed, hm, ρ, a, w, ha, h => by
    simp only [otOK, Bool.and_eq_true] at hm
    obtain ⟨⟨hr, hai⟩, hm'⟩ := hm
    have hr : Region.ready .any ops listed = [i] := by simpa using hr
    refine ⟨fun h0 => (by rw [hr] at h0; cases h0), fun j hj => ?_⟩
    rw [hr] at hj
    obtain rfl : j = i := by simpa using hj
    exact wpOp_of_StpT (S := TS Cl w0 T) hd (fun _ _ h => by unfold TS; rw [hai]; exact h) ha h fun ρ a w ha h => anyS_of_MT hd hsel hp hQ k _ hm' ρ a w ha h
  | .two i j x y, listed, hm, ρ, a, w, ha, h => by
    simp only [otOK, Bool.and_eq_true] at hm
    obtain ⟨⟨⟨⟨⟨hr, hai⟩, haj⟩, hl⟩, hm1⟩, hm2⟩ := hm
    have hl := Nat.eq_of_beq_eq_true hl
    have hr : Region.ready .any ops listed = [i, j] := by simpa using hr
    refine ⟨fun h0 => (by rw [hr] at h0; cases h0), fun q hq => ?_⟩
    rw [hr] at hq
    simp only [List.mem_cons, List.not_mem_nil, or_false] at hq
    by_cases hqi : q = i
    · subst hqi
      exact wpOp_of_StpT (S := TS Cl w0 T) hd (fun _ _ h => by unfold TS; rw [hai]; exact h) ha h.1 fun ρ a w ha h => anyS_of_MT hd hsel hp hQ x _ hm1 ρ a w ha h
    · obtain rfl : q = j := hq.resolve_left hqi
      have := wpOp_of_StpT (Q' := Q') (S := TS Cl w0 T) (n := y.len) (listed := listed.setIfInBounds q true) hd (fun _ _ h => by unfold TS; rw [haj]; exact h) ha h.2 fun ρ a w ha h => anyS_of_MT hd hsel hp hQ y _ hm2 ρ a w ha h
      rw [← hl] at this
      exact this

/-- A region that draws its order. -/
theorem cw_drawT {id : Nat} {l : List Oper} (σ : Ot) (U T : List (Nat × List Nat)) (hf : P.follows .mixedOrders = true)
    (hσ : (Region.noSelect l.toArray && Nat.beq σ.len l.length && otOK l.toArray U T σ (Array.replicate l.length false)) = true)
    (h : ∀ w1, Up No w w1 → ∃ Cl : Nat → Nat → Prop, MT P l.toArray U T Cl w1 qn σ ρ w1) : CW P N (.region id l.toArray true) ⟨qn, qr, qx⟩ ρ w := fun hk a ha => by
  obtain ⟨Cl, h⟩ := h w.drew (Up.drew _ _)
  simp only [Bool.and_eq_true] at hσ
  obtain ⟨⟨h1, h2⟩, h3⟩ := hσ
  have hlen := Nat.eq_of_beq_eq_true h2
  have := anyS_of_MT (P := P) (N := N) (Q' := fun e a' w' => ∃ ρ', Ag a' N ρ' ∧ (Ps.mk qn qr qx).ok e ρ' w') (K := qn) hk h1 (fun c a w ⟨ρ', _, hq⟩ => hq) (fun ρ' a' w' hg hq => ⟨ρ', hg, hq⟩) σ _ h3 ρ a w.drew ha h
  refine wp_region_any hf (wpAny_of_S (S := TS Cl w.drew T) _ _ _ _ ?_)
  rw [hlen] at this
  simpa using this

section
variable {ops : Array Oper} {U T : List (Nat × List Nat)} {Cl : Nat → Nat → Prop} {w0 : World} {K : En → World → Prop} {σ τ : Ot} {i j : Nat} {o oj : Oper} {v : Value} {d : Option Tmp} {op : Op} {ty : TypeId} {pos : String} {af : Array Edge}
theorem MT.vv (ho : ops[i]? = some o) (hU : cls U i = []) (hw : wantedE ops ρ o = true) (h : Rv P o ρ v) (k : MT P ops U T Cl w0 K σ (put ρ o.dst v) w) : MT P ops U T Cl w0 K (.one i true σ) ρ w := by
  unfold MT; rw [ho]; dsimp only; rw [hU, hw, cond_true]; exact ⟨trivial, v, fun w' _ => h w', k⟩
theorem MT.r {l : List Nat} (ho : ops[i]? = some o) (hU : cls U i = l) (hw : wantedE ops ρ o = true) (hk : Kept Cl w0 l w) (h : ∀ w', Kept Cl w0 l w' → Rw P o ρ w' v) (k : MT P ops U T Cl w0 K σ (put ρ o.dst v) w) : MT P ops U T Cl w0 K (.one i true σ) ρ w := by
  unfold MT; rw [ho]; dsimp only; rw [hU, hw, cond_true]; exact ⟨hk, v, h, k⟩
theorem MT.n {l : List Nat} (ho : ops[i]? = some o) (hU : cls U i = l) (hw : wantedE ops ρ o = false) (hk : Kept Cl w0 l w) (k : MT P ops U T Cl w0 K σ (put ρ o.dst undef) w) : MT P ops U T Cl w0 K (.one i true σ) ρ w := by
  unfold MT; rw [ho]; dsimp only; rw [hU, hw, cond_false]; exact ⟨hk, k⟩
theorem MT.c {l : List Nat} (ho : ops[i]? = some o) (hT : cls T i = l) (hw : wantedE ops ρ o = true) (h : Does P o ρ w fun v w' => Kept Cl w0 l w' ∧ MT P ops U T Cl w0 K σ (put ρ o.dst v) w') : MT P ops U T Cl w0 K (.one i false σ) ρ w := by
  unfold MT StpT; rw [ho]; dsimp only; rw [hT, hw, cond_true]; exact h
theorem MT.m {l : List Nat} (ho : ops[i]? = some o) (hT : cls T i = l) (hw : wantedE ops ρ o = false) (hk : Kept Cl w0 l w) (k : MT P ops U T Cl w0 K σ (put ρ o.dst undef) w) : MT P ops U T Cl w0 K (.one i false σ) ρ w := by
  unfold MT StpT; rw [ho]; dsimp only; rw [hT, hw, cond_false]; exact ⟨hk, k⟩
theorem MT.e (k : K ρ w) : MT P ops U T Cl w0 K .done ρ w := k
theorem MT.two (h1 : MT P ops U T Cl w0 K (.one i false σ) ρ w) (h2 : MT P ops U T Cl w0 K (.one j false τ) ρ w) : MT P ops U T Cl w0 K (.two i j σ τ) ρ w := ⟨h1, h2⟩
theorem mtv (ho : ops[i]? = some ⟨d, op, ty, pos, af, none⟩) (hU : cls U i = []) (h : Rv P ⟨d, op, ty, pos, af, none⟩ ρ v) (k : MT P ops U T Cl w0 K σ (put ρ d v) w) : MT P ops U T Cl w0 K (.one i true σ) ρ w := MT.vv ho hU rfl h k
theorem mtr {l : List Nat} (ho : ops[i]? = some ⟨d, op, ty, pos, af, none⟩) (hU : cls U i = l) (hk : Kept Cl w0 l w) (h : ∀ w', Kept Cl w0 l w' → Rw P ⟨d, op, ty, pos, af, none⟩ ρ w' v) (k : MT P ops U T Cl w0 K σ (put ρ d v) w) : MT P ops U T Cl w0 K (.one i true σ) ρ w := MT.r ho hU rfl hk h k
theorem mtc {l : List Nat} (ho : ops[i]? = some ⟨d, op, ty, pos, af, none⟩) (hT : cls T i = l) (h : Does P ⟨d, op, ty, pos, af, none⟩ ρ w fun v w' => Kept Cl w0 l w' ∧ MT P ops U T Cl w0 K σ (put ρ d v) w') : MT P ops U T Cl w0 K (.one i false σ) ρ w := MT.c ho hT rfl h
end
/-- A region that draws its order: the world behind the draw by a name. -/
theorem cw_drawU {id : Nat} {l : List Oper} (σ : Ot) (U T : List (Nat × List Nat)) (Cl : Nat → Nat → Prop) (hf : P.follows .mixedOrders = true)
    (hσ : (Region.noSelect l.toArray && Nat.beq σ.len l.length && otOK l.toArray U T σ (Array.replicate l.length false)) = true)
    (h : ∀ w1, Up No w w1 → MT P l.toArray U T Cl w1 qn σ ρ w1) : CW P N (.region id l.toArray true) ⟨qn, qr, qx⟩ ρ w := cw_drawT σ U T hf hσ fun w1 u => ⟨Cl, h w1 u⟩
end Go.Mg
