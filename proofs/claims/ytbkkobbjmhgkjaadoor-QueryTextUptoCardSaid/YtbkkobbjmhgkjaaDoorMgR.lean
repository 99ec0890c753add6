/- Rows: from a statement's arguments to the walks' words. -/
import Derived.Test.YtbkkobbjmhgkjaaDoorMgG
import Derived.WalkKit
import Derived.ProofKit
import Derived.OpenShut
import Derived.ShutString
import Derived.ChangeOld
import Derived.Below
import Derived.Carry
import Derived.SizedLaws
import Derived.ChangeSlices
namespace Go.Mg
open Go Go.ChangeShapes Go.WideShapes Go.ChangeAt Go.RowKit

/-- What a reading of type t holds stands for a datum of the kind k, with R. -/
def Opn {α : Type} (P : Program) (t : TypeId) (k : Kd α) (R : α → Prop) : Prop :=
  ∀ {H : Type} {enc : TypeId × Value → H} {W : World} {fuel : Nat} {cs : List Value} {d : DataW H} {ps : List MemPlace},
    DataW.trod enc P W 0 (fun _ => true) true fuel t cs = some (d, ps) → (∀ n ∈ d.weights P t, n ≤ reachBytes) →
    ∃ x, k.rep (fun b => b < W.heap.size) W cs x ∧ R x

def OkI (k : IntKind) : Int → Prop := fun x => (Lit.int k x).wf = true
/-- A slice whose data are all good. -/
def OkL {α : Type} (R : α → Prop) : List α → Prop := fun xs => xs.length ≤ lim ∧ ∀ x ∈ xs, R x
def Ok1 {α : Type} : α → Prop := fun _ => True

theorem opn_int {P : Program} {t : TypeId} {k : IntKind} (h : P.underlying t = some (.int k)) : Opn P t (kI k) (OkI k) := by
  intro H enc W fuel cs d ps hd _
  obtain ⟨n, rfl, hx, hw⟩ := DataW.trod_int h hd
  exact ⟨n, rfl, hw⟩
theorem opn_bool {P : Program} {t : TypeId} (h : P.underlying t = some .bool) : Opn P t kB Ok1 := by
  intro H enc W fuel cs d ps hd _
  obtain ⟨b, rfl, hx⟩ := DataW.trod_bool h hd
  exact ⟨b, rfl, trivial⟩
theorem opn_string {P : Program} {t : TypeId} (h : P.underlying t = some .string) : Opn P t kS (fun s => s.size ≤ reachBytes) := by
  intro H enc W fuel cs d ps hd hz
  obtain ⟨b, rfl, hx, _⟩ := DataW.trod_string h hd
  obtain ⟨rfl, _⟩ := Prod.mk.inj hx
  exact ⟨b, rfl, by simpa [DataW.weights] using hz⟩

theorem weightsAll_mem {H : Type} {P : Program} {e : TypeId} : ∀ {ds : List (DataW H)} {d : DataW H}, d ∈ ds → ∀ n ∈ d.weights P e, n ∈ DataW.weightsAll P e ds := by
  intro ds
  induction ds with
  | nil => intro d hd; cases hd
  | cons x r ih =>
    intro d hd n hn
    simp only [DataW.weightsAll, List.mem_append]
    rcases List.mem_cons.1 hd with rfl | hd
    · exact .inl hn
    · exact .inr (ih hd n hn)

theorem list_pick {α : Type} {p : Nat → α → Prop} : ∀ n : Nat, (∀ i, i < n → ∃ x, p i x) → ∃ xs : List α, xs.length = n ∧ ∀ i x, xs[i]? = some x → p i x := by
  intro n
  induction n with
  | zero => intro _; exact ⟨[], rfl, fun i x h => by simp at h⟩
  | succ n ih =>
    intro h
    obtain ⟨xs, hl, hx⟩ := ih fun i hi => h i (Nat.lt_succ_of_lt hi)
    obtain ⟨y, hy⟩ := h n (Nat.lt_succ_self n)
    refine ⟨xs ++ [y], by simp [hl], fun i x hi => ?_⟩
    rcases Nat.lt_trichotomy i n with h1 | h1 | h1
    · rw [List.getElem?_append_left (by omega)] at hi
      exact hx i x hi
    · subst h1
      rw [List.getElem?_append_right (by omega), hl] at hi
      simp at hi
      subst hi
      exact hy
    · rw [List.getElem?_eq_none (by simp [hl]; omega)] at hi
      cases hi

theorem opn_slice {α : Type} {P : Program} {t e : TypeId} {k : Kd α} {R : α → Prop} {sz : Nat} (h : P.underlying t = some (.slice e)) (hc : P.cellsOf e = sz) (hk : k.sz = sz) (hs : 0 < sz) (hb : 0 < P.bytesOf e) (hR : Opn P e k R) :
    Opn P t (kSl k) (OkL R) := by
  intro H enc W fuel cs d ps hd hz
  rcases DataW.trod_slice h hd with ⟨rfl, hx⟩ | ⟨a, len, cap, elems, rest, n, _, rfl, hx, _, hl, hm, hlen, hel, hsp, hns⟩
  · exact ⟨[], ⟨none, 0, rfl, Nat.le_refl _, Nat.zero_le _, .inl rfl⟩, Nat.zero_le _, fun x hx => by cases hx⟩
  · obtain ⟨rfl, rfl⟩ := Prod.mk.inj hx
    have hw : (elems.length + rest.length) * P.bytesOf e ≤ reachBytes := by
      have := hz _ (by simp only [DataW.weights, h]; exact List.mem_cons_self)
      simpa using this
    have hlim : len ≤ lim := by
      have h1 : elems.length + rest.length ≤ (elems.length + rest.length) * P.bytesOf e := Nat.le_mul_of_pos_right _ hb
      have h2 : reachBytes ≤ lim := by decide
      omega
    have hone : ∀ i, i < len → ∃ x, (∃ cs, k.rep (fun b => b < W.heap.size) W cs x ∧ R x ∧ a.spot = none ∧ a.block < W.heap.size ∧ ∀ j c, cs[j]? = some c → W.cell? ⟨a.block, a.off + i * k.sz + j, none⟩ = some c) := by
      intro i hi
      have h1 := hel i hi
      have hi' : i < elems.length := by omega
      rw [List.getElem?_eq_getElem hi', Option.bind_eq_some_iff] at h1
      obtain ⟨cs, hcs, hcd⟩ := h1
      obtain ⟨x, hx, hRx⟩ := hR hcd (fun n hn => hz n (by
        simp only [DataW.weights, h]
        refine List.mem_cons_of_mem _ (List.mem_append.2 (.inl (weightsAll_mem (d := elems[i].1) (List.mem_map.2 ⟨_, List.getElem_mem hi', rfl⟩) n hn)))))
      obtain ⟨_, hcl, hce⟩ := World.cells?_some hcs
      have hlt := World.cells?_block hcs (by omega)
      have hsz := k.len hx
      refine ⟨x, cs, hx, hRx, ?_, by simpa [Addr.add] using (show a.block < W.heap.size by unfold Addr.add at hlt; split at hlt <;> exact hlt), ?_⟩
      · have h0 := hel 0 (by omega)
        rw [List.getElem?_eq_getElem (by omega : 0 < elems.length), Option.bind_eq_some_iff] at h0
        obtain ⟨cs0, hcs0, _⟩ := h0
        obtain ⟨_, hcl0, hce0⟩ := World.cells?_some hcs0
        have := hce0 0 (by omega)
        rw [List.getElem?_eq_getElem (by omega : 0 < cs0.length)] at this
        simp only [Nat.zero_mul, Addr.add, if_true] at this
        unfold World.cell? at this
        split at this
        · split at this
          · cases this
          · rename_i hsp; simpa using hsp
        · cases this
      · intro j c hj
        have hjl : j < cs.length := (List.getElem?_eq_some_iff.1 hj).1
        have := hce j (by omega)
        rw [hj] at this
        rw [← this, hc, ← hk]
        have h0 := hel 0 (by omega)
        rw [List.getElem?_eq_getElem (by omega : 0 < elems.length), Option.bind_eq_some_iff] at h0
        obtain ⟨cs0, hcs0, _⟩ := h0
        obtain ⟨_, hcl0, hce0⟩ := World.cells?_some hcs0
        have h0 := hce0 0 (by omega)
        rw [List.getElem?_eq_getElem (by omega : 0 < cs0.length)] at h0
        simp only [Nat.zero_mul, Addr.add, if_true] at h0
        have hspot : a.spot = none := by
          unfold World.cell? at h0
          split at h0
          · split at h0
            · cases h0
            · rename_i hsp; simpa using hsp
          · cases h0
        obtain ⟨b, o, s⟩ := a
        subst hspot
        congr 1
        unfold Addr.add
        split <;> split <;> simp_all <;> omega
    obtain ⟨xs, hxl, hxs⟩ := list_pick len hone
    refine ⟨xs, ⟨some a, cap, by rw [hxl], by omega, by omega, ?_⟩, by omega, ?_⟩
    · by_cases h0 : len = 0
      · exact .inl (List.length_eq_zero_iff.1 (hxl.trans h0))
      · obtain ⟨x, _, _, _, hspot, hblk, _⟩ := hone 0 (by omega)
        refine .inr ⟨a.block, a.off, by obtain ⟨b, o, s⟩ := a; cases hspot; rfl, hblk, fun i x hi => ?_⟩
        obtain ⟨cs, hr, _, _, _, hcell⟩ := hxs i x hi
        exact ⟨cs, hr, hcell⟩
    · intro x hx
      obtain ⟨i, hi, rfl⟩ := List.getElem_of_mem hx
      obtain ⟨_, _, hRx, _⟩ := hxs i _ (List.getElem?_eq_getElem hi)
      exact hRx

/-- The same, from a row's words. -/
theorem Opn.go {α : Type} {P : Program} {t : TypeId} {k : Kd α} {R : α → Prop} (o : Opn P t k R) {H : Type} {enc : TypeId × Value → H} {W : World} {v : Value} {d : DataW H} {ps : List MemPlace}
    (h : DataW.Trod enc P W 0 (fun _ => true) true t v d ps) (hz : ∀ n ∈ d.weights P t, n ≤ reachBytes) :
    ∃ x, k.rep (fun b => b < W.heap.size) W v.cells.toList x ∧ R x := by
  obtain ⟨fuel, hf⟩ := h
  exact o hf hz

theorem sized_each {H : Type} {P : Program} {ts : List TypeId} {ds : List (DataW H)} {j : Nat} {t : TypeId} {d : DataW H} (h : (DataW.weightsEach P ts ds).all (· ≤ reachBytes) = true) (ht : ts[j]? = some t) (hd : ds[j]? = some d) :
    ∀ n ∈ d.weights P t, n ≤ reachBytes := fun n hn => by
  have := List.all_eq_true.1 h n (DataW.weights_mem_each ht hd n hn)
  simpa using this

theorem cx_below {S S1 : Nat → Prop} {w w1 : World} (h : Cx No S w S1 w1) : Below w.heap.size w w1 := h.up.below
theorem sb_all (w : World) : Sb (fun b => b < w.heap.size) w := fun _ hb => hb

theorem okI_u16 {x : Int} (h : OkI .u16 x) : 0 ≤ x ∧ x ≤ 65535 := by
  have h := h
  simp only [OkI, Lit.wf, Bool.and_eq_true, decide_eq_true_eq] at h
  exact h
theorem okI_i64 {x : Int} (h : OkI .i64 x) : -9223372036854775808 ≤ x ∧ x ≤ 9223372036854775807 := by
  have h := h
  simp only [OkI, Lit.wf, Bool.and_eq_true, decide_eq_true_eq] at h
  exact h
/-- A slice among the arguments. -/
theorem arg_slice {α : Type} {P : Program} {t : TypeId} {k : Kd α} {R : List α → Prop} (o : Opn P t (kSl k) R) {H : Type} {enc : TypeId × Value → H} {W : World} {a : Option Addr} {len cap : Nat} {d : DataW H} {ps : List MemPlace}
    (h : DataW.Trod enc P W 0 (fun _ => true) true t (.slice a len cap) d ps) (hz : ∀ n ∈ d.weights P t, n ≤ reachBytes) :
    ∃ xs, Sl (kSl k) (fun b => b < W.heap.size) W (.slice a len cap) xs ∧ R xs := by
  obtain ⟨xs, hr, hR⟩ := o.go h hz
  refine ⟨xs, ⟨[.slice a len cap], rfl, ?_⟩, hR⟩
  simpa [Value.cells] using hr

/-! ### Structs among the arguments -/
theorem opn_struct {P : Program} {t : TypeId} {fs : Array Field} (ht : P.underlying t = some (.struct fs)) {H : Type} {enc : TypeId × Value → H} {W : World} {fuel : Nat} {cs : List Value} {d : DataW H} {ps : List MemPlace}
    (hd : DataW.trod enc P W 0 (fun _ => true) true fuel t cs = some (d, ps)) (hz : ∀ n ∈ d.weights P t, n ≤ reachBytes) :
    cs.length = P.cellsOf t ∧ ∀ (i : Nat) (f : Field), fs[i]? = some f → ∃ (n : Nat) (d' : DataW H) (ps' : List MemPlace), DataW.trod enc P W 0 (fun _ => true) true n f.type ((cs.drop f.offset).take (P.cellsOf f.type)) = some (d', ps') ∧ ∀ n ∈ d'.weights P f.type, n ≤ reachBytes := by
  obtain ⟨xs, n, _, hx, hl, hlen, hf⟩ := DataW.trod_struct ht hd
  obtain ⟨rfl, rfl⟩ := Prod.mk.inj hx
  refine ⟨hl, fun i f hi => ?_⟩
  have h1 := hf i f hi
  have hlt : i < xs.length := by rw [hlen]; exact (Array.getElem?_eq_some_iff.1 hi).1
  rw [List.getElem?_eq_getElem hlt] at h1
  refine ⟨n, xs[i].1, xs[i].2, h1, fun m hm => hz m ?_⟩
  have h2 : DataW.weights P t (.agg (xs.map (·.1))) = DataW.weightsEach P (fs.toList.map (·.type)) (xs.map (·.1)) := by simp only [DataW.weights, ht]
  rw [h2]
  exact DataW.weights_mem_each (j := i) (t := f.type) (d := xs[i].1) (by rw [List.getElem?_map]; simp [hi]) (by rw [List.getElem?_map, List.getElem?_eq_getElem hlt]; rfl) m hm
theorem arg_struct {α : Type} {P : Program} {t : TypeId} {k : Kd α} {R : α → Prop} (o : Opn P t k R) (hk : k.agg = true) {H : Type} {enc : TypeId × Value → H} {W : World} {cs : Array Value} {d : DataW H} {ps : List MemPlace}
    (h : DataW.Trod enc P W 0 (fun _ => true) true t (.agg cs) d ps) (hz : ∀ n ∈ d.weights P t, n ≤ reachBytes) : ∃ x, Sl k (fun b => b < W.heap.size) W (.agg cs) x ∧ R x := by
  obtain ⟨x, hr, hR⟩ := o.go h hz
  exact ⟨x, ⟨cs.toList, by simp [Kd.val, hk], by simpa [Value.cells] using hr⟩, hR⟩
end Go.Mg
