/- The law BaseOrder returns true at every input, and changes no argument: the walk, the plain law and the row, joined. -/
import Derived.Test.YtganbpmicmbamaaGreatRows
import Derived.Test.YtganbpmicmbamaaGreatMgX7
import Derived.Test.YtganbpmicmbamaaGreatMgX3
namespace Go.Proofs.YtganbpmicmbamaaGreat.lawBaseOrder
open Go Go.Mg Go.ChangeShapes Go.WideShapes Go.ChangeAt Go.RowKit
open Go.ChangeMaps (open_string shut_string)
open Go.Proofs.YtganbpmicmbamaaGreat.bs (baseOrder_ok)
set_option linter.unusedVariables false
theorem own : ownKnob Tryz.prog.godebug = none := by kernel_rfl
theorem laidOut : laidOutB Tryz.prog = true := by kernel_rfl
set_option maxRecDepth 100000 in
theorem opn_api_Point : Opn Tryz.prog 33 qa.k (fun x => (OkI .i64) x.T ∧ (OkI .i64) x.V) := by
  intro H enc W fuel cs d ps hd hz
  obtain ⟨hl, hf⟩ := opn_struct Tryz.underlying33 hd hz
  rw [show Tryz.prog.cellsOf 33 = 2 from by kernel_rfl] at hl
  obtain ⟨c0, c1, rfl⟩ : ∃ c0 c1, cs = [c0, c1] := by match cs, hl with | [c0, c1], _ => exact ⟨c0, c1, rfl⟩
  obtain ⟨n0, d0, p0, t0, z0⟩ := hf 0 _ rfl
  obtain ⟨x0, r0, R0⟩ := (opn_int Tryz.underlying3) t0 z0
  replace r0 : Kd.rep (kI .i64) (fun b => b < W.heap.size) W (List.take (Tryz.prog.cellsOf 3) (List.drop 0 [c0, c1])) x0 := r0
  rw [show Tryz.prog.cellsOf 3 = 1 from by kernel_rfl] at r0
  obtain ⟨n1, d1, p1, t1, z1⟩ := hf 1 _ rfl
  obtain ⟨x1, r1, R1⟩ := (opn_int Tryz.underlying3) t1 z1
  replace r1 : Kd.rep (kI .i64) (fun b => b < W.heap.size) W (List.take (Tryz.prog.cellsOf 3) (List.drop 1 [c0, c1])) x1 := r1
  rw [show Tryz.prog.cellsOf 3 = 1 from by kernel_rfl] at r1
  exact ⟨⟨x0, x1⟩, ⟨_, _, rfl, r0, r1⟩, R0, R1⟩
set_option maxRecDepth 100000 in
theorem lifted (os : Os) (started : os.Started) (H : Type) (enc : TypeId × Value → H) :
    ReturnsInHanded {} Tryz.checked os 7 .any (Rows.baseOrderSpec.pre6 enc Tryz.prog Tryz.f7 Rows.baseOrderRow.domain false) (Rows.baseOrderSpec.post enc Tryz.prog Tryz.f7 false true false false) := by
  refine returnsInHanded_of_change_sized (C := Tryz.checked) own started (by kernel_rfl) Tryz.func7
    (ChangeSpec.witness6 (enc := enc) (C := Tryz.checked) false ⟨#[], #[.slice none 0 0, .int .u8 0], []⟩ 8 (by kernel_rfl) (by kernel_rfl) (by kernel_rfl) (by kernel_rfl)) ?_
  intro W base args ds gs before hval0 hW hcnd hsz0 _
  have hsz : (DataW.weightsEach Tryz.prog (Tryz.f7.params.toList ++ Rows.baseOrderSpec.plain.varTypes Tryz.prog) (ds ++ gs)).all (· ≤ reachBytes) = true := hsz0
  have hval : ∀ (j : Nat) t v, Tryz.f7.params[j]? = some t → args[j]? = some v → Value.okWide Tryz.prog W .any base t v := hval0
  have hW' := hW
  obtain ⟨p, q, hA0, hV, rfl, hfz, hnd⟩ := hW
  have hA : DataW.TrodAll enc Tryz.prog W 0 (fun _ => true) true Tryz.f7.params.toList args.toList ds p := hA0
  rw [Tryz.params7] at hA hval hsz
  obtain ⟨v0, vs0, d0, ds0, p0, q0, hargs, rfl, rfl, h0, r0⟩ := trodAll_cons hA
  obtain ⟨v1, vs1, d1, ds1, p1, q1, rfl, rfl, rfl, h1, r1⟩ := trodAll_cons r0
  obtain ⟨rfl, rfl, rfl⟩ := trodAll_nil r1
  obtain rfl : args = #[v0, v1] := by cases args; simp_all
  obtain ⟨rfl, rfl⟩ := trodVars_none hV
  obtain ⟨a0, len0, cap0, rfl⟩ := okWide_slice Tryz.underlying46 (hval 0 46 v0 rfl rfl)
  have k0 := h0
  have lt0 : ∀ x ∈ p0, x.block < W.heap.size := by obtain ⟨m, hm⟩ := k0; exact DataW.trod_lt m _ _ _ hm
  obtain ⟨z0, w0, y0⟩ := arg_slice (opn_slice Tryz.underlying46 (by kernel_rfl) rfl (by decide) (of_decide_eq_true (by kernel_rfl)) opn_api_Point) h0 (sized_each hsz (j := 0) (t := 46) rfl rfl)
  obtain ⟨a1, rfl, rfl, rfl, w1⟩ := open_int Tryz.underlying5 (hval 1 5 v1 rfl rfl) h1
  clear hA0 hval0 hsz0 hsz
  refine (marigraphlaw15_BaseOrder_w (sb_all W) w0 (baseOrder_ok y0 w1)).mono fun e W' ⟨_, he, cx⟩ => ?_
  have bel := cx_below cx
  subst he
  exact ⟨_, rfl, _, _, _, [], _, [], hW', trodAll_mk1 (shut_bool Tryz.underlying4 _), (trodAll_cons_mk (Below.trod laidOut (by kernel_rfl) (of_decide_eq_true (by kernel_rfl)) k0 bel lt0) (trodAll_cons_mk (shut_int Tryz.underlying5 w1) trodAll_mk0)), rfl, bel.frame _, fun h => by cases h⟩
theorem over : Rows.baseOrderRow.holds Tryz.pinned (OpenSpec.ofChange Rows.baseOrderSpec) :=
  OpenClaim.holds_of_wide 7 Tryz.f7 rfl rfl rfl rfl rfl rfl rfl ⟨rfl, rfl, rfl, rfl, rfl⟩ rfl rfl rfl rfl rfl (by kernel_rfl) Tryz.func7 (by kernel_rfl)
    (of_decide_eq_true (by kernel_rfl)) (by unfold Func.isWrapper; first | (rw [if_pos (by decide +kernel)]; kernel_rfl) | (rw [if_neg (by decide +kernel)]; exact ⟨rfl, rfl⟩))
    (fun os started H enc _ => lifted os started H enc)
theorem proved : Rows.BaseOrderSaid := over
#print axioms proved
end Go.Proofs.YtganbpmicmbamaaGreat.lawBaseOrder
