/- The law QueryText returns true at every input whose bulk is at most 1048576, and changes no argument: the walk, the plain law, the row and its card, joined. -/
import Derived.Test.YtbkkobbjmhgkjaaDoorCards
import Derived.Test.YtbkkobbjmhgkjaaDoorTie
import Derived.Test.YtbkkobbjmhgkjaaDoorMgQv
import Derived.Test.YtbkkobbjmhgkjaaDoorMgR
import Derived.Deep.DeepHandedRow
import Derived.Lib.LaidTab
namespace Go.Proofs.YtbkkobbjmhgkjaaDoor.lawQueryText
open Go Go.Mg Go.ChangeShapes Go.WideShapes Go.ChangeAt Go.RowKit
set_option linter.unusedVariables false
theorem own : ownKnob Tryd.prog.godebug = none := by kernel_rfl
theorem laidOut : laidOutB Tryd.prog = true := by kernel_rfl

/-! ### Arguments, and how much they hold -/
def Opb {α : Type} (P : Program) (t : TypeId) (k : Kd α) (R : α → Prop) (m : α → Nat) : Prop :=
  ∀ {H : Type} {enc : TypeId × Value → H} {W : World} {fuel : Nat} {cs : List Value} {d : DataW H} {ps : List MemPlace},
    DataW.trod enc P W 0 (fun _ => true) true fuel t cs = some (d, ps) → (∀ n ∈ d.weights P t, n ≤ reachBytes) →
    ∃ x, k.rep (fun b => b < W.heap.size) W cs x ∧ R x ∧ m x ≤ Rows.uptoBulk d
theorem Opb.of {α : Type} {P : Program} {t : TypeId} {k : Kd α} {R : α → Prop} (h : Opn P t k R) : Opb P t k R (fun _ => 0) := fun hd hz =>
  let ⟨x, h1, h2⟩ := h hd hz
  ⟨x, h1, h2, Nat.zero_le _⟩
theorem opb_string {P : Program} {t : TypeId} (h : P.underlying t = some .string) : Opb P t kS (fun _ => True) (fun s => s.size) := by
  intro H enc W fuel cs d ps hd hz
  obtain ⟨b, rfl, hx, _⟩ := DataW.trod_string h hd
  obtain ⟨rfl, _⟩ := Prod.mk.inj hx
  refine ⟨b, rfl, trivial, ?_⟩
  simp only [Rows.uptoBulk]
  have : b.data.toList.length = b.size := Array.length_toList
  omega
theorem sum_bulk {α H : Type} {m : α → Nat} : ∀ (xs : List α) (elems : List (DataW H × List MemPlace)), xs.length = elems.length → (∀ (i : Nat) (x : α) (q : DataW H × List MemPlace), xs[i]? = some x → elems[i]? = some q → m x ≤ Rows.uptoBulk q.1) → (xs.map m).sum ≤ Rows.uptoBulkAll (elems.map (·.1))
  | [], _, _, _ => Nat.zero_le _
  | x :: xs, [], h, _ => by simp at h
  | x :: xs, q :: qs, h, hm => by
    have h1 := hm 0 x q rfl rfl
    have h2 := sum_bulk xs qs (by simpa using h) fun i y z hy hz => hm (i + 1) y z (by simpa using hy) (by simpa using hz)
    simp only [List.map_cons, List.sum_cons, Rows.uptoBulkAll]
    omega
theorem bulk_two {H : Type} {ds : List (DataW H)} {a b : DataW H} (h0 : ds[0]? = some a) (h1 : ds[1]? = some b) : Rows.uptoBulk a + Rows.uptoBulk b ≤ Rows.uptoBulk (.agg ds) := by
  match ds, h0, h1 with
  | x :: y :: r, h0, h1 =>
    simp at h0 h1
    subst h0 h1
    simp only [Rows.uptoBulk, Rows.uptoBulkAll]
    omega
theorem opb_slice {α : Type} {P : Program} {t e : TypeId} {k : Kd α} {R : α → Prop} {m : α → Nat} {sz : Nat} (h : P.underlying t = some (.slice e)) (hc : P.cellsOf e = sz) (hk : k.sz = sz) (hs : 0 < sz) (hb : 0 < P.bytesOf e) (hR : Opb P e k R m) :
    Opb P t (kSl k) (OkL R) (fun xs => (xs.map m).sum) := by
  intro H enc W fuel cs d ps hd hz
  rcases DataW.trod_slice h hd with ⟨rfl, hx⟩ | ⟨a, len, cap, elems, rest, n, _, rfl, hx, _, hl, hmx, hlen, hel, hsp, hns⟩
  · exact ⟨[], ⟨none, 0, rfl, Nat.le_refl _, Nat.zero_le _, .inl rfl⟩, ⟨Nat.zero_le _, fun x hx => by cases hx⟩, Nat.zero_le _⟩
  · obtain ⟨rfl, rfl⟩ := Prod.mk.inj hx
    have hw : (elems.length + rest.length) * P.bytesOf e ≤ reachBytes := by
      have := hz _ (by simp only [DataW.weights, h]; exact List.mem_cons_self)
      simpa using this
    have hlim : len ≤ lim := by
      have h1 : elems.length + rest.length ≤ (elems.length + rest.length) * P.bytesOf e := Nat.le_mul_of_pos_right _ hb
      have h2 : reachBytes ≤ lim := by decide
      omega
    have hone : ∀ i, i < len → ∃ x, (∃ cs, k.rep (fun b => b < W.heap.size) W cs x ∧ R x ∧ (∀ q, elems[i]? = some q → m x ≤ Rows.uptoBulk q.1) ∧ a.spot = none ∧ a.block < W.heap.size ∧ ∀ j c, cs[j]? = some c → W.cell? ⟨a.block, a.off + i * k.sz + j, none⟩ = some c) := by
      intro i hi
      have h1 := hel i hi
      have hi' : i < elems.length := by omega
      rw [List.getElem?_eq_getElem hi', Option.bind_eq_some_iff] at h1
      obtain ⟨cs, hcs, hcd⟩ := h1
      obtain ⟨x, hx, hRx, hmx⟩ := hR hcd (fun n hn => hz n (by
        simp only [DataW.weights, h]
        refine List.mem_cons_of_mem _ (List.mem_append.2 (.inl (weightsAll_mem (d := elems[i].1) (List.mem_map.2 ⟨_, List.getElem_mem hi', rfl⟩) n hn)))))
      obtain ⟨_, hcl, hce⟩ := World.cells?_some hcs
      have hlt := World.cells?_block hcs (by omega)
      have hsz := k.len hx
      refine ⟨x, cs, hx, hRx, fun q hq => by rw [List.getElem?_eq_getElem hi'] at hq; rw [← Option.some.inj hq]; exact hmx, ?_, by simpa [Addr.add] using (show a.block < W.heap.size by unfold Addr.add at hlt; split at hlt <;> exact hlt), ?_⟩
      · have h0 := hel 0 (by omega)
        rw [List.getElem?_eq_getElem (by omega : 0 < elems.length), Option.bind_eq_some_iff] at h0
        obtain ⟨cs0, hcs0, _⟩ := h0
        obtain ⟨_, hcl0, hce0⟩ := World.cells?_some hcs0
        have := hce0 0 (by omega)
        rw [List.getElem?_eq_getElem (by omega : 0 < cs0.length)] at this
        simp only [Nat.zero_mul, Addr.add, if_true] at this
        unfold World.cell? at this
        split at this
        · split at this
          · cases this
          · rename_i hsp; simpa using hsp
        · cases this
      · intro j c hj
        have hjl : j < cs.length := (List.getElem?_eq_some_iff.1 hj).1
        have := hce j (by omega)
        rw [hj] at this
        rw [← this, hc, ← hk]
        have h0 := hel 0 (by omega)
        rw [List.getElem?_eq_getElem (by omega : 0 < elems.length), Option.bind_eq_some_iff] at h0
        obtain ⟨cs0, hcs0, _⟩ := h0
        obtain ⟨_, hcl0, hce0⟩ := World.cells?_some hcs0
        have h0 := hce0 0 (by omega)
        rw [List.getElem?_eq_getElem (by omega : 0 < cs0.length)] at h0
        simp only [Nat.zero_mul, Addr.add, if_true] at h0
        have hspot : a.spot = none := by
          unfold World.cell? at h0
          split at h0
          · split at h0
            · cases h0
            · rename_i hsp; simpa using hsp
          · cases h0
        obtain ⟨b, o, s⟩ := a
        subst hspot
        congr 1
        unfold Addr.add
        split <;> split <;> simp_all <;> omega
    obtain ⟨xs, hxl, hxs⟩ := list_pick len hone
    refine ⟨xs, ⟨some a, cap, by rw [hxl], by omega, by omega, ?_⟩, ⟨by omega, ?_⟩, ?_⟩
    · by_cases h0 : len = 0
      · exact .inl (List.length_eq_zero_iff.1 (hxl.trans h0))
      · obtain ⟨x, _, _, _, _, hspot, hblk, _⟩ := hone 0 (by omega)
        refine .inr ⟨a.block, a.off, by obtain ⟨b, o, s⟩ := a; cases hspot; rfl, hblk, fun i x hi => ?_⟩
        obtain ⟨cs, hr, _, _, _, _, hcell⟩ := hxs i x hi
        exact ⟨cs, hr, hcell⟩
    · intro x hx
      obtain ⟨i, hi, rfl⟩ := List.getElem_of_mem hx
      obtain ⟨_, _, hRx, _⟩ := hxs i _ (List.getElem?_eq_getElem hi)
      exact hRx
    · have h2 : (xs.map m).sum ≤ Rows.uptoBulkAll (elems.map (·.1)) := sum_bulk xs elems (hxl.trans hlen.symm) fun i x q hx hq => by
        obtain ⟨_, _, _, hb, _⟩ := hxs i x hx
        exact hb q hq
      simp only [Rows.uptoBulk]
      omega
theorem opb_struct {P : Program} {t : TypeId} {fs : Array Field} (ht : P.underlying t = some (.struct fs)) {H : Type} {enc : TypeId × Value → H} {W : World} {fuel : Nat} {cs : List Value} {d : DataW H} {ps : List MemPlace}
    (hd : DataW.trod enc P W 0 (fun _ => true) true fuel t cs = some (d, ps)) (hz : ∀ n ∈ d.weights P t, n ≤ reachBytes) :
    ∃ ds, d = .agg ds ∧ cs.length = P.cellsOf t ∧ ∀ (i : Nat) (f : Field), fs[i]? = some f → ∃ (n : Nat) (d' : DataW H) (ps' : List MemPlace), ds[i]? = some d' ∧ DataW.trod enc P W 0 (fun _ => true) true n f.type ((cs.drop f.offset).take (P.cellsOf f.type)) = some (d', ps') ∧ ∀ n ∈ d'.weights P f.type, n ≤ reachBytes := by
  obtain ⟨xs, n, _, hx, hl, hlen, hf⟩ := DataW.trod_struct ht hd
  obtain ⟨rfl, rfl⟩ := Prod.mk.inj hx
  refine ⟨_, rfl, hl, fun i f hi => ?_⟩
  have h1 := hf i f hi
  have hlt : i < xs.length := by rw [hlen]; exact (Array.getElem?_eq_some_iff.1 hi).1
  rw [List.getElem?_eq_getElem hlt] at h1
  refine ⟨n, xs[i].1, xs[i].2, by rw [List.getElem?_map, List.getElem?_eq_getElem hlt]; rfl, h1, fun m hm => hz m ?_⟩
  have h2 : DataW.weights P t (.agg (xs.map (·.1))) = DataW.weightsEach P (fs.toList.map (·.type)) (xs.map (·.1)) := by simp only [DataW.weights, ht]
  rw [h2]
  exact DataW.weights_mem_each (j := i) (t := f.type) (d := xs[i].1) (by rw [List.getElem?_map]; simp [hi]) (by rw [List.getElem?_map, List.getElem?_eq_getElem hlt]; rfl) m hm
set_option maxRecDepth 100000 in
theorem opb_Label : Opb Tryd.prog 31 api_Label.k (fun _ => True) (fun x => x.Name.size + x.Val.size) := by
  intro H enc W fuel cs d ps hd hz
  obtain ⟨ds, rfl, hl, hf⟩ := opb_struct Tryd.underlying31 hd hz
  rw [show Tryd.prog.cellsOf 31 = 2 from by kernel_rfl] at hl
  obtain ⟨c0, c1, rfl⟩ : ∃ c0 c1, cs = [c0, c1] := by match cs, hl with | [c0, c1], _ => exact ⟨c0, c1, rfl⟩
  obtain ⟨n0, d0, p0, g0, t0, z0⟩ := hf 0 _ rfl
  obtain ⟨x0, r0, _, m0⟩ := (opb_string Tryd.underlying9) t0 z0
  replace r0 : Kd.rep kS (fun b => b < W.heap.size) W (List.take (Tryd.prog.cellsOf 9) (List.drop 0 [c0, c1])) x0 := r0
  rw [show Tryd.prog.cellsOf 9 = 1 from by kernel_rfl] at r0
  obtain ⟨n1, d1, p1, g1, t1, z1⟩ := hf 1 _ rfl
  obtain ⟨x1, r1, _, m1⟩ := (opb_string Tryd.underlying9) t1 z1
  replace r1 : Kd.rep kS (fun b => b < W.heap.size) W (List.take (Tryd.prog.cellsOf 9) (List.drop 1 [c0, c1])) x1 := r1
  rw [show Tryd.prog.cellsOf 9 = 1 from by kernel_rfl] at r1
  have := bulk_two g0 g1
  exact ⟨⟨x0, x1⟩, ⟨_, _, rfl, r0, r1⟩, trivial, by have m0 : x0.size ≤ _ := m0; have m1 : x1.size ≤ _ := m1; show x0.size + x1.size ≤ _; omega⟩
set_option maxRecDepth 100000 in
theorem opn_api_Point : Opn Tryd.prog 33 api_Point.k (fun x => (OkI .i64) x.T ∧ (OkI .i64) x.V) := by
  intro H enc W fuel cs d ps hd hz
  obtain ⟨hl, hf⟩ := opn_struct Tryd.underlying33 hd hz
  rw [show Tryd.prog.cellsOf 33 = 2 from by kernel_rfl] at hl
  obtain ⟨c0, c1, rfl⟩ : ∃ c0 c1, cs = [c0, c1] := by match cs, hl with | [c0, c1], _ => exact ⟨c0, c1, rfl⟩
  obtain ⟨n0, d0, p0, t0, z0⟩ := hf 0 _ rfl
  obtain ⟨x0, r0, R0⟩ := (opn_int Tryd.underlying3) t0 z0
  replace r0 : Kd.rep (kI .i64) (fun b => b < W.heap.size) W (List.take (Tryd.prog.cellsOf 3) (List.drop 0 [c0, c1])) x0 := r0
  rw [show Tryd.prog.cellsOf 3 = 1 from by kernel_rfl] at r0
  obtain ⟨n1, d1, p1, t1, z1⟩ := hf 1 _ rfl
  obtain ⟨x1, r1, R1⟩ := (opn_int Tryd.underlying3) t1 z1
  replace r1 : Kd.rep (kI .i64) (fun b => b < W.heap.size) W (List.take (Tryd.prog.cellsOf 3) (List.drop 1 [c0, c1])) x1 := r1
  rw [show Tryd.prog.cellsOf 3 = 1 from by kernel_rfl] at r1
  exact ⟨⟨x0, x1⟩, ⟨_, _, rfl, r0, r1⟩, R0, R1⟩
set_option maxRecDepth 100000 in
theorem opb_Row : Opb Tryd.prog 26 api_Row.k (fun x => ∀ p ∈ x.Points, okP p) held := by
  intro H enc W fuel cs d ps hd hz
  obtain ⟨ds, rfl, hl, hf⟩ := opb_struct Tryd.underlying26 hd hz
  rw [show Tryd.prog.cellsOf 26 = 2 from by kernel_rfl] at hl
  obtain ⟨c0, c1, rfl⟩ : ∃ c0 c1, cs = [c0, c1] := by match cs, hl with | [c0, c1], _ => exact ⟨c0, c1, rfl⟩
  obtain ⟨n0, d0, p0, g0, t0, z0⟩ := hf 0 _ rfl
  obtain ⟨x0, r0, R0, m0⟩ := (opb_slice Tryd.underlying23 (by kernel_rfl) rfl (by decide) (of_decide_eq_true (by kernel_rfl)) opb_Label) t0 z0
  replace r0 : Kd.rep (kSl api_Label.k) (fun b => b < W.heap.size) W (List.take (Tryd.prog.cellsOf 23) (List.drop 0 [c0, c1])) x0 := r0
  rw [show Tryd.prog.cellsOf 23 = 1 from by kernel_rfl] at r0
  obtain ⟨n1, d1, p1, g1, t1, z1⟩ := hf 1 _ rfl
  obtain ⟨x1, r1, R1, m1⟩ := (opb_slice Tryd.underlying24 (by kernel_rfl) rfl (by decide) (of_decide_eq_true (by kernel_rfl)) (Opb.of opn_api_Point)) t1 z1
  replace r1 : Kd.rep (kSl api_Point.k) (fun b => b < W.heap.size) W (List.take (Tryd.prog.cellsOf 24) (List.drop 1 [c0, c1])) x1 := r1
  rw [show Tryd.prog.cellsOf 24 = 1 from by kernel_rfl] at r1
  have := bulk_two g0 g1
  refine ⟨⟨x0, x1⟩, ⟨_, _, rfl, r0, r1⟩, fun p hp => ?_, ?_⟩
  · obtain ⟨h1, h2⟩ := R1.2 p hp
    exact ⟨okI_i64 h1, okI_i64 h2⟩
  · have m0 : (x0.map fun x => x.Name.size + x.Val.size).sum ≤ _ := m0
    show (x0.map fun x => x.Name.size + x.Val.size).sum ≤ _
    omega
theorem laid_tail {P : Program} {W : World} {x : String × DataW Unit} {l : List (String × DataW Unit)} (h : laidMet P (x :: l) W) : laidMet P l W := by
  obtain ⟨ps, ⟨g, t, cs, fuel, p, q, _, _, _, _, hq, rfl⟩, hnd, hr⟩ := h
  exact ⟨q, hq, (List.nodup_append.1 hnd).2.1, fun b off hp => hr b off (List.mem_append.2 (.inr hp))⟩
theorem tabEq : (Rows.laid_internal_strconv_uint64pow10 : DataW Unit) = Lib.tabData .u64 Lib.pow10Tab := by kernel_rfl
theorem gTab : Tryd.prog.globalNamed "internal/strconv.uint64pow10" = some 0 := by kernel_rfl
theorem gTabType : (Tryd.prog.globals[0]?).map (·.type) = some 60 := by kernel_rfl
theorem table {W : World} (h : laidMetH Tryd.prog Rows.queryTextUptoRow.laid W) : Tb Tryd.prog "internal/strconv.uint64pow10" .u64 Lib.pow10Tab (fun b => b < W.heap.size) W := by
  have h : laidMet Tryd.prog [("math/bits.deBruijn32tab", Rows.laid_math_bits_deBruijn32tab), ("math/bits.deBruijn64tab", Rows.laid_math_bits_deBruijn64tab), ("internal/strconv.uint64pow10", Rows.laid_internal_strconv_uint64pow10)] W := h
  have h := laid_tail (laid_tail h)
  rw [tabEq] at h
  have ht := Lib.tabIs_of_head (rest := []) gTab gTabType Tryd.underlying60 Tryd.underlying52 (by kernel_rfl) (by kernel_rfl) h
  have hl : 0 < W.heap.size := World.block_lt_of_cell? W ⟨0, 0, none⟩ (ht.cell gTab 0 (by rw [Lib.pow10Tab_length]; decide))
  exact ⟨0, hl, hl, gTab, ht⟩

set_option maxRecDepth 100000 in
theorem contract (H : Type) (enc : TypeId × Value → H) (W : World) (base : Nat) (args : Array Value) (ds gs : List (DataW H)) (before : List MemPlace)
    (hval : ∀ (j : Nat) t v, Tryd.f3.params[j]? = some t → args[j]? = some v → Value.okWide Tryd.prog W .any base t v)
    (hW : DataW.Whole enc Tryd.prog Tryd.f3.params.toList Rows.queryTextSpec.vars false W args.toList ds gs before) (hbk : Rows.uptoSmall H (ds ++ gs) = true)
    (hsz0 : (DataW.weightsEach Tryd.prog (Tryd.f3.params.toList ++ Rows.queryTextSpec.plain.varTypes Tryd.prog) (ds ++ gs)).all (· ≤ reachBytes) = true)
    (hL : laidMetH Tryd.prog Rows.queryTextUptoRow.laid W) :
    Calls Tryd.prog 3 args W fun e W' => ∃ v, e = .returned v ∧ Rows.queryTextSpec.post enc Tryd.prog Tryd.f3 false true false false W args v W' := by
  have hsz := hsz0
  have hW' := hW
  obtain ⟨p, q, hA0, hV, rfl, hfz, hnd⟩ := hW
  have hA : DataW.TrodAll enc Tryd.prog W 0 (fun _ => true) true Tryd.f3.params.toList args.toList ds p := hA0
  rw [Tryd.params3] at hA hval hsz
  obtain ⟨v0, vs0, d0, ds0, p0, q0, hargs, rfl, rfl, h0, r0⟩ := trodAll_cons hA
  obtain ⟨rfl, rfl, rfl⟩ := trodAll_nil r0
  obtain rfl : args = #[v0] := by cases args; simp_all
  obtain ⟨rfl, rfl⟩ := trodVars_none hV
  obtain ⟨a0, len0, cap0, rfl⟩ := okWide_slice Tryd.underlying22 (hval 0 22 v0 rfl rfl)
  have k0 := h0
  have lt0 : ∀ x ∈ p0, x.block < W.heap.size := by obtain ⟨m, hm⟩ := k0; exact DataW.trod_lt m _ _ _ hm
  obtain ⟨fuel, hfu⟩ := h0
  obtain ⟨z0, hrep, y0, hm⟩ := opb_slice Tryd.underlying22 (by kernel_rfl) rfl (by decide) (of_decide_eq_true (by kernel_rfl)) opb_Row hfu (sized_each hsz (j := 0) (t := 22) rfl rfl)
  have w0 : Sl (kSl api_Row.k) (fun b => b < W.heap.size) W (.slice a0 len0 cap0) z0 := ⟨[.slice a0 len0 cap0], rfl, by simpa [Value.cells] using hrep⟩
  have hbound : Rows.uptoBulkAll [d0] ≤ 1048576 := by simpa [Rows.uptoSmall] using hbk
  have hbd : (z0.map held).sum ≤ 1048576 := by
    have hm : (z0.map held).sum ≤ Rows.uptoBulk d0 := hm
    simp only [Rows.uptoBulkAll] at hbound
    omega
  clear hA0 hsz0 hsz
  refine (marigraphlaw16_QueryText_w (sb_all W) (table hL) w0 (queryText_ok (Nat.le_trans y0.1 (by decide)) y0.2 hbd)).mono fun e W' ⟨_, he, cx⟩ => ?_
  have bel := cx_below cx
  subst he
  exact ⟨_, rfl, _, _, _, [], _, [], hW', trodAll_mk1 (shut_bool Tryd.underlying4 _), (trodAll_cons_mk (Below.trod laidOut (by kernel_rfl) (of_decide_eq_true (by kernel_rfl)) k0 bel lt0) trodAll_mk0), rfl, bel.frame _, fun h => by cases h⟩

/-- A world for the witness: the settled one, the tables holding what their initialisers lay. -/
noncomputable def laidWorld (os : Os) : World :=
  let w := World.holding Tryd.prog os ⟨#[], #[], []⟩
  { w with heap := ((w.heap.modify 0 fun
      | .cells _ t frozen => .cells #[.int .u64 1, .int .u64 10, .int .u64 100, .int .u64 1000, .int .u64 10000, .int .u64 100000, .int .u64 1000000, .int .u64 10000000, .int .u64 100000000, .int .u64 1000000000, .int .u64 10000000000, .int .u64 100000000000, .int .u64 1000000000000, .int .u64 10000000000000, .int .u64 100000000000000, .int .u64 1000000000000000, .int .u64 10000000000000000, .int .u64 100000000000000000, .int .u64 1000000000000000000, .int .u64 10000000000000000000] t frozen
      | o => o).modify 2 fun
      | .cells _ t frozen => .cells #[.int .u8 0, .int .u8 1, .int .u8 28, .int .u8 2, .int .u8 29, .int .u8 14, .int .u8 24, .int .u8 3, .int .u8 30, .int .u8 22, .int .u8 20, .int .u8 15, .int .u8 25, .int .u8 17, .int .u8 4, .int .u8 8, .int .u8 31, .int .u8 27, .int .u8 13, .int .u8 23, .int .u8 21, .int .u8 19, .int .u8 16, .int .u8 7, .int .u8 26, .int .u8 12, .int .u8 18, .int .u8 6, .int .u8 11, .int .u8 5, .int .u8 10, .int .u8 9] t frozen
      | o => o).modify 3 fun
      | .cells _ t frozen => .cells #[.int .u8 0, .int .u8 1, .int .u8 56, .int .u8 2, .int .u8 57, .int .u8 49, .int .u8 28, .int .u8 3, .int .u8 61, .int .u8 58, .int .u8 42, .int .u8 50, .int .u8 38, .int .u8 29, .int .u8 17, .int .u8 4, .int .u8 62, .int .u8 47, .int .u8 59, .int .u8 36, .int .u8 45, .int .u8 43, .int .u8 51, .int .u8 22, .int .u8 53, .int .u8 39, .int .u8 33, .int .u8 30, .int .u8 24, .int .u8 18, .int .u8 12, .int .u8 5, .int .u8 63, .int .u8 55, .int .u8 48, .int .u8 27, .int .u8 60, .int .u8 41, .int .u8 37, .int .u8 16, .int .u8 46, .int .u8 35, .int .u8 44, .int .u8 21, .int .u8 52, .int .u8 32, .int .u8 23, .int .u8 11, .int .u8 54, .int .u8 26, .int .u8 40, .int .u8 15, .int .u8 34, .int .u8 20, .int .u8 31, .int .u8 10, .int .u8 25, .int .u8 14, .int .u8 19, .int .u8 9, .int .u8 13, .int .u8 8, .int .u8 7, .int .u8 6] t frozen
      | o => o }
theorem laid_met (os : Os) : laidMet Tryd.prog Rows.queryTextUptoRow.laid ((laidWorld os).forCall (fun _ _ => 0) ⟨#[], #[.slice none 0 0], []⟩).memory :=
  laidMet_of_run' 8 (by kernel_rfl) (by kernel_rfl)
theorem reads (os : Os) {H : Type} (enc : TypeId × Value → H) : ∃ places, DataW.whole enc Tryd.prog ((laidWorld os).forCall (fun _ _ => 0) ⟨#[], #[.slice none 0 0], []⟩).memory Tryd.f3.params.toList Rows.queryTextSpec.vars false #[Value.slice none 0 0].toList 8 = some ([.nil], [], places) :=
  ⟨[], by kernel_rfl⟩
set_option maxRecDepth 100000 in
theorem lifted (os : Os) (started : os.Started) (H : Type) (enc : TypeId × Value → H) (F : Stop.Interp) :
    ReturnsInHanded {} Tryd.checked os 3 .any ((Rows.OpenSpec.upto Rows.queryTextSpec).preRow enc Tryd.prog Tryd.f3 Rows.queryTextUptoRow.domain false Rows.queryTextUptoRow.laid) (((Rows.OpenSpec.upto Rows.queryTextSpec).at F).post enc Tryd.prog Tryd.f3 false true false false) := by
  obtain ⟨places, hx⟩ := reads os enc
  refine returnsInHanded_of_row (C := Tryd.checked) (s := Rows.OpenSpec.upto Rows.queryTextSpec) own started (by kernel_rfl) Tryd.func3
    (witness_row_at (enc := enc) (C := Tryd.checked) false (laidWorld os) #[.slice none 0 0] rfl (by kernel_rfl) (by kernel_rfl) (by kernel_rfl)
      (OpenSpec.preRow_of_cond 8 hx (by kernel_rfl) (fun k hk => by cases hk; kernel_rfl) (by kernel_rfl) (laid_met os))) ?_
  intro W base args ds gs before hval hW _ hcond hsz hL _ _
  exact contract H enc W base args ds gs before hval hW (hcond _ rfl) hsz hL
theorem saidUpto : Rows.QueryTextUptoSaid :=
  OpenClaim.holds_of_cond 3 Tryd.f3 rfl rfl rfl rfl rfl rfl rfl ⟨rfl, rfl, rfl, rfl, rfl⟩ rfl rfl rfl rfl rfl (by kernel_rfl) Tryd.func3 (by kernel_rfl)
    (of_decide_eq_true (by kernel_rfl)) (by unfold Func.isWrapper; first | (rw [if_pos (by decide +kernel)]; kernel_rfl) | (rw [if_neg (by decide +kernel)]; exact ⟨rfl, rfl⟩))
    (fun os started H enc _ F => by rw [OpenClaim.pre_eq_preRow]; exact lifted os started H enc F)
theorem plain (f : FuncId) (fn : Func) (hf : Tryd.pinned.checked.prog.funcNamed "marigraph/marigraphlaw16.QueryText" = some f) (hfn : Tryd.pinned.checked.prog.funcs[f]? = some fn) :
    false = Tryd.pinned.checked.prog.looks [] ∧ ∀ (j : Nat) t, fn.params[j]? = some t → Tryd.pinned.checked.prog.wantsStandIn t = false := by
  obtain rfl : f = 3 := Option.some.inj ((show Tryd.prog.funcNamed "marigraph/marigraphlaw16.QueryText" = some 3 by kernel_rfl).symm.trans hf) |>.symm
  obtain rfl : fn = Tryd.f3 := (Option.some.inj (Tryd.func3.symm.trans hfn)).symm
  refine ⟨by kernel_rfl, fun j t ht => ?_⟩
  rw [Tryd.params3] at ht
  obtain rfl : t = 22 := by simpa using Array.mem_of_getElem? ht
  exact (show Tryd.prog.wantsStandIn 22 = false by kernel_rfl)
theorem proved : Rows.QueryTextUptoCardSaid :=
  Claim7.holds_tied_plain_at .later [] _ _ _ _ saidUpto (fun _ h => by cases h) (by kernel_rfl) (fun _ h => by cases h) queryTextUpto_row_tie rfl ⟨rfl, rfl⟩ (by kernel_rfl) rfl plain (by kernel_rfl)
#print axioms proved
end Go.Proofs.YtbkkobbjmhgkjaaDoor.lawQueryText
