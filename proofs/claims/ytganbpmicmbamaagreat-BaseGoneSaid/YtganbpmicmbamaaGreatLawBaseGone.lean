/- The law BaseGone returns true at every input, and changes no argument: the walk, the plain law and the row, joined. -/
import Derived.Test.YtganbpmicmbamaaGreatRows
import Derived.Test.YtganbpmicmbamaaGreatMgX7
import Derived.Test.YtganbpmicmbamaaGreatMgX3
namespace Go.Proofs.YtganbpmicmbamaaGreat.lawBaseGone
open Go Go.Mg Go.ChangeShapes Go.WideShapes Go.ChangeAt Go.RowKit
open Go.ChangeMaps (open_string shut_string)
open Go.Proofs.YtganbpmicmbamaaGreat.bs (baseGone_ok)
set_option linter.unusedVariables false
theorem own : ownKnob Tryz.prog.godebug = none := by kernel_rfl
theorem laidOut : laidOutB Tryz.prog = true := by kernel_rfl
set_option maxRecDepth 100000 in
theorem opn_api_Label : Opn Tryz.prog 54 jc.k (fun x => (fun s => s.size ≤ reachBytes) x.Name ∧ (fun s => s.size ≤ reachBytes) x.Val) := by
  intro H enc W fuel cs d ps hd hz
  obtain ⟨hl, hf⟩ := opn_struct Tryz.underlying54 hd hz
  rw [show Tryz.prog.cellsOf 54 = 2 from by kernel_rfl] at hl
  obtain ⟨c0, c1, rfl⟩ : ∃ c0 c1, cs = [c0, c1] := by match cs, hl with | [c0, c1], _ => exact ⟨c0, c1, rfl⟩
  obtain ⟨n0, d0, p0, t0, z0⟩ := hf 0 _ rfl
  obtain ⟨x0, r0, R0⟩ := (opn_string Tryz.underlying9) t0 z0
  replace r0 : Kd.rep kS (fun b => b < W.heap.size) W (List.take (Tryz.prog.cellsOf 9) (List.drop 0 [c0, c1])) x0 := r0
  rw [show Tryz.prog.cellsOf 9 = 1 from by kernel_rfl] at r0
  obtain ⟨n1, d1, p1, t1, z1⟩ := hf 1 _ rfl
  obtain ⟨x1, r1, R1⟩ := (opn_string Tryz.underlying9) t1 z1
  replace r1 : Kd.rep kS (fun b => b < W.heap.size) W (List.take (Tryz.prog.cellsOf 9) (List.drop 1 [c0, c1])) x1 := r1
  rw [show Tryz.prog.cellsOf 9 = 1 from by kernel_rfl] at r1
  exact ⟨⟨x0, x1⟩, ⟨_, _, rfl, r0, r1⟩, R0, R1⟩
set_option maxRecDepth 100000 in
theorem opn_api_Point : Opn Tryz.prog 33 ja.k (fun x => (OkI .i64) x.T ∧ (OkI .i64) x.V) := by
  intro H enc W fuel cs d ps hd hz
  obtain ⟨hl, hf⟩ := opn_struct Tryz.underlying33 hd hz
  rw [show Tryz.prog.cellsOf 33 = 2 from by kernel_rfl] at hl
  obtain ⟨c0, c1, rfl⟩ : ∃ c0 c1, cs = [c0, c1] := by match cs, hl with | [c0, c1], _ => exact ⟨c0, c1, rfl⟩
  obtain ⟨n0, d0, p0, t0, z0⟩ := hf 0 _ rfl
  obtain ⟨x0, r0, R0⟩ := (opn_int Tryz.underlying3) t0 z0
  replace r0 : Kd.rep (kI .i64) (fun b => b < W.heap.size) W (List.take (Tryz.prog.cellsOf 3) (List.drop 0 [c0, c1])) x0 := r0
  rw [show Tryz.prog.cellsOf 3 = 1 from by kernel_rfl] at r0
  obtain ⟨n1, d1, p1, t1, z1⟩ := hf 1 _ rfl
  obtain ⟨x1, r1, R1⟩ := (opn_int Tryz.underlying3) t1 z1
  replace r1 : Kd.rep (kI .i64) (fun b => b < W.heap.size) W (List.take (Tryz.prog.cellsOf 3) (List.drop 1 [c0, c1])) x1 := r1
  rw [show Tryz.prog.cellsOf 3 = 1 from by kernel_rfl] at r1
  exact ⟨⟨x0, x1⟩, ⟨_, _, rfl, r0, r1⟩, R0, R1⟩
set_option maxRecDepth 100000 in
theorem opn_api_Ask : Opn Tryz.prog 56 qh.k (fun x => (OkI .u8) x.Op ∧ (fun s => s.size ≤ reachBytes) x.Name ∧ (fun s => s.size ≤ reachBytes) x.Val) := by
  intro H enc W fuel cs d ps hd hz
  obtain ⟨hl, hf⟩ := opn_struct Tryz.underlying56 hd hz
  rw [show Tryz.prog.cellsOf 56 = 3 from by kernel_rfl] at hl
  obtain ⟨c0, c1, c2, rfl⟩ : ∃ c0 c1 c2, cs = [c0, c1, c2] := by match cs, hl with | [c0, c1, c2], _ => exact ⟨c0, c1, c2, rfl⟩
  obtain ⟨n0, d0, p0, t0, z0⟩ := hf 0 _ rfl
  obtain ⟨x0, r0, R0⟩ := (opn_int Tryz.underlying5) t0 z0
  replace r0 : Kd.rep (kI .u8) (fun b => b < W.heap.size) W (List.take (Tryz.prog.cellsOf 5) (List.drop 0 [c0, c1, c2])) x0 := r0
  rw [show Tryz.prog.cellsOf 5 = 1 from by kernel_rfl] at r0
  obtain ⟨n1, d1, p1, t1, z1⟩ := hf 1 _ rfl
  obtain ⟨x1, r1, R1⟩ := (opn_string Tryz.underlying9) t1 z1
  replace r1 : Kd.rep kS (fun b => b < W.heap.size) W (List.take (Tryz.prog.cellsOf 9) (List.drop 1 [c0, c1, c2])) x1 := r1
  rw [show Tryz.prog.cellsOf 9 = 1 from by kernel_rfl] at r1
  obtain ⟨n2, d2, p2, t2, z2⟩ := hf 2 _ rfl
  obtain ⟨x2, r2, R2⟩ := (opn_string Tryz.underlying9) t2 z2
  replace r2 : Kd.rep kS (fun b => b < W.heap.size) W (List.take (Tryz.prog.cellsOf 9) (List.drop 2 [c0, c1, c2])) x2 := r2
  rw [show Tryz.prog.cellsOf 9 = 1 from by kernel_rfl] at r2
  exact ⟨⟨x0, x1, x2⟩, ⟨_, _, rfl, r0, ⟨_, _, rfl, r1, r2⟩⟩, R0, R1, R2⟩
set_option maxRecDepth 100000 in
theorem opn_api_Do : Opn Tryz.prog 36 qf.k (fun x => (OkI .u8) x.Kind ∧ (OkL (fun x => (fun s => s.size ≤ reachBytes) x.Name ∧ (fun s => s.size ≤ reachBytes) x.Val)) x.Labels ∧ (fun x => (OkI .i64) x.T ∧ (OkI .i64) x.V) x.Point ∧ (OkL (fun x => (OkI .u8) x.Op ∧ (fun s => s.size ≤ reachBytes) x.Name ∧ (fun s => s.size ≤ reachBytes) x.Val)) x.Asks) := by
  intro H enc W fuel cs d ps hd hz
  obtain ⟨hl, hf⟩ := opn_struct Tryz.underlying36 hd hz
  rw [show Tryz.prog.cellsOf 36 = 5 from by kernel_rfl] at hl
  obtain ⟨c0, c1, c2, c3, c4, rfl⟩ : ∃ c0 c1 c2 c3 c4, cs = [c0, c1, c2, c3, c4] := by match cs, hl with | [c0, c1, c2, c3, c4], _ => exact ⟨c0, c1, c2, c3, c4, rfl⟩
  obtain ⟨n0, d0, p0, t0, z0⟩ := hf 0 _ rfl
  obtain ⟨x0, r0, R0⟩ := (opn_int Tryz.underlying5) t0 z0
  replace r0 : Kd.rep (kI .u8) (fun b => b < W.heap.size) W (List.take (Tryz.prog.cellsOf 5) (List.drop 0 [c0, c1, c2, c3, c4])) x0 := r0
  rw [show Tryz.prog.cellsOf 5 = 1 from by kernel_rfl] at r0
  obtain ⟨n1, d1, p1, t1, z1⟩ := hf 1 _ rfl
  obtain ⟨x1, r1, R1⟩ := (opn_slice Tryz.underlying31 (by kernel_rfl) rfl (by decide) (of_decide_eq_true (by kernel_rfl)) opn_api_Label) t1 z1
  replace r1 : Kd.rep (kSl jc.k) (fun b => b < W.heap.size) W (List.take (Tryz.prog.cellsOf 31) (List.drop 1 [c0, c1, c2, c3, c4])) x1 := r1
  rw [show Tryz.prog.cellsOf 31 = 1 from by kernel_rfl] at r1
  obtain ⟨n2, d2, p2, t2, z2⟩ := hf 2 _ rfl
  obtain ⟨x2, r2, R2⟩ := opn_api_Point t2 z2
  replace r2 : Kd.rep ja.k (fun b => b < W.heap.size) W (List.take (Tryz.prog.cellsOf 33) (List.drop 2 [c0, c1, c2, c3, c4])) x2 := r2
  rw [show Tryz.prog.cellsOf 33 = 2 from by kernel_rfl] at r2
  obtain ⟨n3, d3, p3, t3, z3⟩ := hf 3 _ rfl
  obtain ⟨x3, r3, R3⟩ := (opn_slice Tryz.underlying34 (by kernel_rfl) rfl (by decide) (of_decide_eq_true (by kernel_rfl)) opn_api_Ask) t3 z3
  replace r3 : Kd.rep (kSl qh.k) (fun b => b < W.heap.size) W (List.take (Tryz.prog.cellsOf 34) (List.drop 4 [c0, c1, c2, c3, c4])) x3 := r3
  rw [show Tryz.prog.cellsOf 34 = 1 from by kernel_rfl] at r3
  exact ⟨⟨x0, x1, x2, x3⟩, ⟨_, _, rfl, r0, ⟨_, _, rfl, r1, ⟨_, _, rfl, r2, r3⟩⟩⟩, R0, R1, R2, R3⟩
set_option maxRecDepth 100000 in
theorem lifted (os : Os) (started : os.Started) (H : Type) (enc : TypeId × Value → H) :
    ReturnsInHanded {} Tryz.checked os 6 .any (Rows.baseGoneSpec.pre6 enc Tryz.prog Tryz.f6 Rows.baseGoneRow.domain false) (Rows.baseGoneSpec.post enc Tryz.prog Tryz.f6 false true false false) := by
  refine returnsInHanded_of_change_sized (C := Tryz.checked) own started (by kernel_rfl) Tryz.func6
    (ChangeSpec.witness6 (enc := enc) (C := Tryz.checked) false ⟨#[], #[.int .i64 0, .slice none 0 0, .int .i64 0, .slice none 0 0], []⟩ 8 (by kernel_rfl) (by kernel_rfl) (by kernel_rfl) (by kernel_rfl)) ?_
  intro W base args ds gs before hval0 hW hcnd hsz0 _
  have hsz : (DataW.weightsEach Tryz.prog (Tryz.f6.params.toList ++ Rows.baseGoneSpec.plain.varTypes Tryz.prog) (ds ++ gs)).all (· ≤ reachBytes) = true := hsz0
  have hval : ∀ (j : Nat) t v, Tryz.f6.params[j]? = some t → args[j]? = some v → Value.okWide Tryz.prog W .any base t v := hval0
  have hW' := hW
  obtain ⟨p, q, hA0, hV, rfl, hfz, hnd⟩ := hW
  have hA : DataW.TrodAll enc Tryz.prog W 0 (fun _ => true) true Tryz.f6.params.toList args.toList ds p := hA0
  rw [Tryz.params6] at hA hval hsz
  obtain ⟨v0, vs0, d0, ds0, p0, q0, hargs, rfl, rfl, h0, r0⟩ := trodAll_cons hA
  obtain ⟨v1, vs1, d1, ds1, p1, q1, rfl, rfl, rfl, h1, r1⟩ := trodAll_cons r0
  obtain ⟨v2, vs2, d2, ds2, p2, q2, rfl, rfl, rfl, h2, r2⟩ := trodAll_cons r1
  obtain ⟨v3, vs3, d3, ds3, p3, q3, rfl, rfl, rfl, h3, r3⟩ := trodAll_cons r2
  obtain ⟨rfl, rfl, rfl⟩ := trodAll_nil r3
  obtain rfl : args = #[v0, v1, v2, v3] := by cases args; simp_all
  obtain ⟨rfl, rfl⟩ := trodVars_none hV
  obtain ⟨a0, rfl, rfl, rfl, w0⟩ := open_int Tryz.underlying3 (hval 0 3 v0 rfl rfl) h0
  obtain ⟨a1, len1, cap1, rfl⟩ := okWide_slice Tryz.underlying39 (hval 1 39 v1 rfl rfl)
  have k1 := h1
  have lt1 : ∀ x ∈ p1, x.block < W.heap.size := by obtain ⟨m, hm⟩ := k1; exact DataW.trod_lt m _ _ _ hm
  obtain ⟨z1, w1, y1⟩ := arg_slice (opn_slice Tryz.underlying39 (by kernel_rfl) rfl (by decide) (of_decide_eq_true (by kernel_rfl)) opn_api_Do) h1 (sized_each hsz (j := 1) (t := 39) rfl rfl)
  obtain ⟨a2, rfl, rfl, rfl, w2⟩ := open_int Tryz.underlying3 (hval 2 3 v2 rfl rfl) h2
  obtain ⟨a3, len3, cap3, rfl⟩ := okWide_slice Tryz.underlying34 (hval 3 34 v3 rfl rfl)
  have k3 := h3
  have lt3 : ∀ x ∈ p3, x.block < W.heap.size := by obtain ⟨m, hm⟩ := k3; exact DataW.trod_lt m _ _ _ hm
  obtain ⟨z3, w3, y3⟩ := arg_slice (opn_slice Tryz.underlying34 (by kernel_rfl) rfl (by decide) (of_decide_eq_true (by kernel_rfl)) opn_api_Ask) h3 (sized_each hsz (j := 3) (t := 34) rfl rfl)
  clear hA0 hval0 hsz0 hsz
  refine (marigraphlaw15_BaseGone_w (sb_all W) w1 w3 (baseGone_ok w0 y1 w2 y3)).mono fun e W' ⟨_, he, cx⟩ => ?_
  have bel := cx_below cx
  subst he
  exact ⟨_, rfl, _, _, _, [], _, [], hW', trodAll_mk1 (shut_bool Tryz.underlying4 _), (trodAll_cons_mk (shut_int Tryz.underlying3 w0) (trodAll_cons_mk (Below.trod laidOut (by kernel_rfl) (of_decide_eq_true (by kernel_rfl)) k1 bel lt1) (trodAll_cons_mk (shut_int Tryz.underlying3 w2) (trodAll_cons_mk (Below.trod laidOut (by kernel_rfl) (of_decide_eq_true (by kernel_rfl)) k3 bel lt3) trodAll_mk0)))), rfl, bel.frame _, fun h => by cases h⟩
theorem over : Rows.baseGoneRow.holds Tryz.pinned (OpenSpec.ofChange Rows.baseGoneSpec) :=
  OpenClaim.holds_of_wide 6 Tryz.f6 rfl rfl rfl rfl rfl rfl rfl ⟨rfl, rfl, rfl, rfl, rfl⟩ rfl rfl rfl rfl rfl (by kernel_rfl) Tryz.func6 (by kernel_rfl)
    (of_decide_eq_true (by kernel_rfl)) (by unfold Func.isWrapper; first | (rw [if_pos (by decide +kernel)]; kernel_rfl) | (rw [if_neg (by decide +kernel)]; exact ⟨rfl, rfl⟩))
    (fun os started H enc _ => lifted os started H enc)
theorem proved : Rows.BaseGoneSaid := over
#print axioms proved
end Go.Proofs.YtganbpmicmbamaaGreat.lawBaseGone
