/- What each function computes, and that the program computes it (part 2). Printed by gen.py, a program of this session. -/
import Derived.Test.YtikdgllagijidaaGreatW1
set_option linter.unusedVariables false
set_option maxRecDepth 100000
set_option maxHeartbeats 4000000
namespace Go.Proofs.YtikdgllagijidaaGreat
open Go Go.Mg
noncomputable def marigraphref05_Right.b2 (a0 : List api_Label) (x13 : Int) : Option ((Int) ⊕ ((Unit) ⊕ (Bool))) :=
  (bif (decide (x13 < (a0.length : Int))) then ((((at_ a0 x13).bind fun y32 => ((marigraphref05_Name y32.Name).bind fun y37 => (bif (!y37) then some true else ((at_ a0 x13).bind fun y45 => (bif (decide ((y45.Val.size : Int) < (1 : Int))) then some true else ((at_ a0 x13).bind fun y51 => (bif (decide ((64 : Int) < (y51.Val.size : Int))) then some true else (bif (decide ((0 : Int) < x13)) then ((at_ a0 x13).bind fun y58 => (pur (IntKind.i64.wrap (x13 - (1 : Int))) fun y63 => ((at_ a0 y63).bind fun y65 => some (strLt y58.Name y65.Name || strEq y58.Name y65.Name)))) else some false)))))))).bind fun o25 => (bif o25 then some (.inr (.inr (.inr false))) else some (.inl ()))).bind (Sum.elim (fun o21n => (pur (IntKind.i64.wrap (x13 + (1 : Int))) fun y80 => some (.inl y80))) (fun q => some q))) else some (.inr (.inl ())))
noncomputable def marigraphref05_Right (a0 : List api_Label) : Option Bool :=
  ((iter (fun s : Int => marigraphref05_Right.b2 a0 s) (0 : Int)).bind (Sum.elim (fun o3n => ((bif (decide ((1 : Int) ≤ (a0.length : Int))) then some (decide ((a0.length : Int) ≤ (6 : Int))) else some false).bind fun o86 => some o86)) (fun q => some q)))
theorem marigraphref05_Right_w {S : Nat → Prop} {w : World} {a0 : List api_Label} {v0 : Value} {r : Bool} (hS : Sb S w) (h0 : Sl (kSl api_Label.k) S w v0 a0) (h : marigraphref05_Right a0 = some r) :
    Calls Tryz.prog 64 (List.toArray [v0]) w fun e w1 => ∃ S1, e = .returned (.bool r) ∧ Cx No S w S1 w1 := by
  refine enter Tryz.func64 rfl (by kernel_rfl) rfl ?_
  have C := Cx.refl (F := No) hS
  unfold marigraphref05_Right at h
  refine cw_seq fun K1 k2 => ?_
  refine cw_region (sv (asv (.bool false) rfl) (W.e (k2 _ _ ?_)))
  obtain ⟨o3, h6, h⟩ := bnds_some h
  refine cw_seq' (fun ρ w1 => ∃ o3n, o3 = (.inl o3n) ∧ ∃ S1, Cx No S w S1 w1 ∧ Has ρ [(0, v0)] ∧ Sl (kSl api_Label.k) S1 w1 v0 a0) ?_ ?_
  · refine cw_seq fun K7 k8 => ?_
    refine cw_region (sv (asv (.int .i64 0) rfl) (W.e (k8 _ _ (cw_block ?_))))
    refine cw_iter h6 (fun s ρ w1 => ∃ S1, Cx No S w S1 w1 ∧ Has ρ [(0, v0), (3, .int .i64 s)] ∧ Sl (kSl api_Label.k) S1 w1 v0 a0) ⟨_, C, ⟨rfl, rfl, trivial⟩, h0⟩ ?_
    rintro x13 q9 ρ w11 ⟨S10, C, h12, h0⟩ h15 h14
    refine h12.cw fun ρ => ?_
    clear h12
    replace h15 : marigraphref05_Right.b2 a0 x13 = some q9 := h15
    unfold marigraphref05_Right.b2 at h15
    refine cw_seq fun K16 k17 => ?_
    refine cw_seq fun K18 k19 => ?_
    refine cw_region (sv (mvv (.int .i64 x13) rfl) (sv (mvv v0 rfl) (sv (rv_lenS el31 h0 rfl) (sv (rv_lss rfl rfl) (W.e (k19 _ _ ?_))))))
    rcases bif_some h15 with ⟨b20, h15⟩ | ⟨b20, h15⟩
    · refine cw_t rfl b20 (cw_skip (k17 _ _ ?_))
      obtain ⟨o21, h24, h15⟩ := bnds_some h15
      refine cw_seq' (fun ρ w1 => ∃ o21n, o21 = (.inl o21n) ∧ ∃ S1, Cx No S w S1 w1 ∧ Has ρ [(0, v0), (3, .int .i64 x13)] ∧ Sl (kSl api_Label.k) S1 w1 v0 a0) ?_ ?_
      · refine cw_block ?_
        obtain ⟨o25, h28, h24⟩ := bnd_some h24
        refine cw_seq' (fun ρ w1 => ∃ S1, Cx No S w S1 w1 ∧ Has ρ [(0, v0), (3, .int .i64 x13), (52, .bool o25)] ∧ Sl (kSl api_Label.k) S1 w1 v0 a0) ?_ ?_
        · refine cw_drawU (.one 0 true (.one 1 true (.one 2 true (.one 3 true (.one 4 true (.one 5 false (.one 6 true (.one 7 true (.one 8 true (.one 9 true (.one 10 true (.one 11 true (.one 12 true (.one 13 true (.one 14 true (.one 15 true (.one 16 true (.one 17 true (.one 18 true (.one 19 true (.one 20 true (.one 21 true (.one 22 true (.one 23 true (.one 24 true (.one 25 true (.one 26 true (.one 27 true (.one 28 true (.one 29 true (.one 30 true (.one 31 true (.one 32 true (.one 33 true (.one 34 true (.one 35 true (.one 36 true (.one 37 true (.one 38 true (.one 39 true (.one 40 true (.one 41 true (.one 42 true .done))))))))))))))))))))))))))))))))))))))))))) [(4, [9]), (12, [9]), (21, [9]), (33, [9]), (39, [9])] [(5, [9])] (fun c => bif Nat.beq c 9 then (fun _ => True) else No) fol (by kernel_rfl) fun w29 u30 => ?_
          replace h0 := h0.nw u30
          replace C := C.new u30
          have h0d := h0
          have m31 := Sm.refl (fun _ => True) w29
          refine mtv rfl rfl (mvv v0 rfl) (mtv rfl rfl (mvv (.int .i64 x13) rfl) ?_)
          obtain ⟨y32, h33, h28⟩ := bnd_some h28
          refine mtv rfl rfl (rv_index el31 h0 rfl rfl h33) (mtv rfl rfl (rv_fieldAddr st46 rfl rfl) ?_)
          obtain ⟨cs34, h35, h36⟩ := Sl.cells h0 h33
          obtain rfl := api_Label.r.1 h35
          refine mtr rfl rfl ⟨m31, trivial⟩ (fun w' hq => rw_el1 (off := 0) ag9 (h36 w' (hq.1.mono fun _ _ => trivial)) rfl rfl) ?_
          obtain ⟨y37, h38, h28⟩ := bnd_some h28
          refine mtc rfl rfl (dc_call (vs := [.string y32.Name]) can82 rfl ?_)
          refine (marigraphref05_Name_w C.sb  h38).mono ?_
          rintro _ w39 ⟨S40, rfl, c41⟩
          refine ⟨_, rfl, ?_⟩
          replace h0 := h0.cx c41
          replace C := C.trans c41
          have z42 := (c41.up).size
          have m43 := m31.nx c41.up (by omega)
          refine ⟨⟨m43, trivial⟩, ?_⟩
          refine mtv rfl rfl (rv_not rfl) (mtv rfl rfl (mvv (.bool (!y37)) rfl) ?_)
          rcases bif_some h28 with ⟨b44, h28⟩ | ⟨b44, h28⟩
          · refine MT.n rfl rfl (gn rfl rfl rfl b44) trivial (MT.n rfl rfl (gn rfl rfl rfl b44) trivial (MT.n rfl rfl (gn rfl rfl rfl b44) trivial (MT.n rfl rfl (gn rfl rfl rfl b44) trivial (MT.n rfl rfl (gn rfl rfl rfl b44) ⟨m43, trivial⟩ (MT.n rfl rfl (gn rfl rfl rfl b44) trivial (MT.n rfl rfl (gn rfl rfl rfl b44) trivial (mtv rfl rfl (ptk (.bool true) rfl b44 rfl) (mtv rfl rfl (mvv (.bool true) rfl) (MT.n rfl rfl (gn rfl rfl rfl rfl) trivial (MT.n rfl rfl (gn rfl rfl rfl rfl) trivial (MT.n rfl rfl (gn rfl rfl rfl rfl) trivial ?_)))))))))))
            refine MT.n rfl rfl (gn rfl rfl rfl rfl) trivial (MT.n rfl rfl (gn rfl rfl rfl rfl) ⟨m43, trivial⟩ (MT.n rfl rfl (gn rfl rfl rfl rfl) trivial (MT.n rfl rfl (gn rfl rfl rfl rfl) trivial (mtv rfl rfl (ptk (.bool true) rfl rfl rfl) (mtv rfl rfl (mvv (.bool true) rfl) (MT.n rfl rfl (gn rfl rfl rfl rfl) trivial (MT.n rfl rfl (gn rfl rfl rfl rfl) trivial (MT.n rfl rfl (gn rfl rfl rfl rfl) trivial (MT.n rfl rfl (gu rfl rfl rfl) trivial (MT.n rfl rfl (gu rfl rfl rfl) trivial (MT.n rfl rfl (gu rfl rfl rfl) trivial ?_)))))))))))
            refine MT.n rfl rfl (gu rfl rfl rfl) trivial (MT.n rfl rfl (gu rfl rfl rfl) ⟨m43, trivial⟩ (MT.n rfl rfl (gu rfl rfl rfl) trivial (MT.n rfl rfl (gu rfl rfl rfl) trivial (MT.n rfl rfl (gu rfl rfl rfl) trivial (MT.n rfl rfl (gu rfl rfl rfl) trivial (MT.n rfl rfl (gu rfl rfl rfl) trivial (MT.n rfl rfl (gu rfl rfl rfl) ⟨m43, trivial⟩ (MT.n rfl rfl (gu rfl rfl rfl) trivial (MT.n rfl rfl (gn rfl rfl rfl rfl) trivial (mtv rfl rfl (ptk (.bool true) rfl rfl rfl) (MT.e ?_)))))))))))
            obtain rfl := osi h28
            exact ⟨_, C, ⟨rfl, rfl, rfl, trivial⟩, h0⟩
          · refine MT.vv rfl rfl (gy rfl rfl rfl b44) (mvv v0 rfl) (MT.vv rfl rfl (gy rfl rfl rfl b44) (mvv (.int .i64 x13) rfl) ?_)
            obtain ⟨y45, h46, h28⟩ := bnd_some h28
            refine MT.vv rfl rfl (gy rfl rfl rfl b44) (rv_index el31 h0d rfl rfl h46) (MT.vv rfl rfl (gy rfl rfl rfl b44) (rv_fieldAddr st46 rfl rfl) ?_)
            obtain ⟨cs47, h48, h49⟩ := Sl.cells h0d h46
            obtain rfl := api_Label.r.1 h48
            refine MT.r rfl rfl (gy rfl rfl rfl b44) ⟨m43, trivial⟩ (fun w' hq => rw_el1 (off := 1) ag9 (h49 w' (hq.1.mono fun _ _ => trivial)) rfl rfl) (MT.vv rfl rfl (gy rfl rfl rfl b44) (rv_slen Tryz.underlying9 rfl) (MT.vv rfl rfl (gy rfl rfl rfl b44) (rv_lss rfl rfl) (mtv rfl rfl (pfk (.bool (decide ((y45.Val.size : Int) < (1 : Int)))) rfl b44 rfl) (mtv rfl rfl (mvv (.bool (decide ((y45.Val.size : Int) < (1 : Int)))) rfl) ?_))))
            rcases bif_some h28 with ⟨b50, h28⟩ | ⟨b50, h28⟩
            · refine MT.n rfl rfl (gn rfl rfl rfl b50) trivial (MT.n rfl rfl (gn rfl rfl rfl b50) trivial (MT.n rfl rfl (gn rfl rfl rfl b50) trivial (MT.n rfl rfl (gn rfl rfl rfl b50) trivial (MT.n rfl rfl (gn rfl rfl rfl b50) ⟨m43, trivial⟩ (MT.n rfl rfl (gn rfl rfl rfl b50) trivial (MT.n rfl rfl (gn rfl rfl rfl b50) trivial (mtv rfl rfl (ptk (.bool true) rfl b50 rfl) (mtv rfl rfl (mvv (.bool true) rfl) (MT.n rfl rfl (gn rfl rfl rfl rfl) trivial (MT.n rfl rfl (gn rfl rfl rfl rfl) trivial (MT.n rfl rfl (gn rfl rfl rfl rfl) trivial ?_)))))))))))
              refine MT.n rfl rfl (gu rfl rfl rfl) trivial (MT.n rfl rfl (gu rfl rfl rfl) trivial (MT.n rfl rfl (gu rfl rfl rfl) trivial (MT.n rfl rfl (gu rfl rfl rfl) trivial (MT.n rfl rfl (gu rfl rfl rfl) ⟨m43, trivial⟩ (MT.n rfl rfl (gu rfl rfl rfl) trivial (MT.n rfl rfl (gu rfl rfl rfl) trivial (MT.n rfl rfl (gu rfl rfl rfl) trivial (MT.n rfl rfl (gu rfl rfl rfl) trivial (MT.n rfl rfl (gu rfl rfl rfl) trivial (MT.n rfl rfl (gu rfl rfl rfl) ⟨m43, trivial⟩ (MT.n rfl rfl (gu rfl rfl rfl) trivial ?_)))))))))))
              refine MT.n rfl rfl (gn rfl rfl rfl rfl) trivial (mtv rfl rfl (ptk (.bool true) rfl rfl rfl) (MT.e ?_))
              obtain rfl := osi h28
              exact ⟨_, C, ⟨rfl, rfl, rfl, trivial⟩, h0⟩
            · refine MT.vv rfl rfl (gy rfl rfl rfl b50) (mvv v0 rfl) (MT.vv rfl rfl (gy rfl rfl rfl b50) (mvv (.int .i64 x13) rfl) ?_)
              obtain ⟨y51, h52, h28⟩ := bnd_some h28
              refine MT.vv rfl rfl (gy rfl rfl rfl b50) (rv_index el31 h0d rfl rfl h52) (MT.vv rfl rfl (gy rfl rfl rfl b50) (rv_fieldAddr st46 rfl rfl) ?_)
              obtain ⟨cs53, h54, h55⟩ := Sl.cells h0d h52
              obtain rfl := api_Label.r.1 h54
              refine MT.r rfl rfl (gy rfl rfl rfl b50) ⟨m43, trivial⟩ (fun w' hq => rw_el1 (off := 1) ag9 (h55 w' (hq.1.mono fun _ _ => trivial)) rfl rfl) (MT.vv rfl rfl (gy rfl rfl rfl b50) (rv_slen Tryz.underlying9 rfl) (MT.vv rfl rfl (gy rfl rfl rfl b50) (rv_gtr rfl rfl) (mtv rfl rfl (pfk (.bool (decide ((64 : Int) < (y51.Val.size : Int)))) rfl b50 rfl) (mtv rfl rfl (mvv (.bool (decide ((64 : Int) < (y51.Val.size : Int)))) rfl) ?_))))
              rcases bif_some h28 with ⟨b56, h28⟩ | ⟨b56, h28⟩
              · refine MT.n rfl rfl (gn rfl rfl rfl b56) trivial (MT.n rfl rfl (gn rfl rfl rfl b56) trivial (MT.n rfl rfl (gn rfl rfl rfl b56) trivial (MT.n rfl rfl (gu rfl rfl rfl) trivial (MT.n rfl rfl (gu rfl rfl rfl) trivial (MT.n rfl rfl (gu rfl rfl rfl) trivial (MT.n rfl rfl (gu rfl rfl rfl) trivial (MT.n rfl rfl (gu rfl rfl rfl) ⟨m43, trivial⟩ (MT.n rfl rfl (gu rfl rfl rfl) trivial (MT.n rfl rfl (gu rfl rfl rfl) trivial (MT.n rfl rfl (gu rfl rfl rfl) trivial (MT.n rfl rfl (gu rfl rfl rfl) trivial ?_)))))))))))
                refine MT.n rfl rfl (gu rfl rfl rfl) trivial (MT.n rfl rfl (gu rfl rfl rfl) ⟨m43, trivial⟩ (MT.n rfl rfl (gu rfl rfl rfl) trivial (MT.n rfl rfl (gn rfl rfl rfl b56) trivial (mtv rfl rfl (ptk (.bool true) rfl b56 rfl) (MT.e ?_)))))
                obtain rfl := osi h28
                exact ⟨_, C, ⟨rfl, rfl, rfl, trivial⟩, h0⟩
              · refine MT.vv rfl rfl (gy rfl rfl rfl b56) (mvv (.int .i64 x13) rfl) (MT.vv rfl rfl (gy rfl rfl rfl b56) (rv_gtr rfl rfl) (MT.vv rfl rfl (gy rfl rfl rfl b56) (mvv (.bool (decide ((0 : Int) < x13))) rfl) ?_))
                rcases bif_some h28 with ⟨b57, h28⟩ | ⟨b57, h28⟩
                · refine MT.vv rfl rfl (gy rfl rfl rfl b57) (mvv v0 rfl) (MT.vv rfl rfl (gy rfl rfl rfl b57) (mvv (.int .i64 x13) rfl) ?_)
                  obtain ⟨y58, h59, h28⟩ := bnd_some h28
                  refine MT.vv rfl rfl (gy rfl rfl rfl b57) (rv_index el31 h0d rfl rfl h59) (MT.vv rfl rfl (gy rfl rfl rfl b57) (rv_fieldAddr st46 rfl rfl) ?_)
                  obtain ⟨cs60, h61, h62⟩ := Sl.cells h0d h59
                  obtain rfl := api_Label.r.1 h61
                  refine MT.r rfl rfl (gy rfl rfl rfl b57) ⟨m43, trivial⟩ (fun w' hq => rw_el1 (off := 0) ag9 (h62 w' (hq.1.mono fun _ _ => trivial)) rfl rfl) (MT.vv rfl rfl (gy rfl rfl rfl b57) (mvv v0 rfl) (MT.vv rfl rfl (gy rfl rfl rfl b57) (mvv (.int .i64 x13) rfl) ?_))
                  obtain ⟨y63, h64, h28⟩ := pur_some h28
                  refine MT.vv rfl rfl (gy rfl rfl rfl b57) (rv_sub rfl rfl h64) ?_
                  obtain ⟨y65, h66, h28⟩ := bnd_some h28
                  refine MT.vv rfl rfl (gy rfl rfl rfl b57) (rv_index el31 h0d rfl rfl h66) (MT.vv rfl rfl (gy rfl rfl rfl b57) (rv_fieldAddr st46 rfl rfl) ?_)
                  obtain ⟨cs67, h68, h69⟩ := Sl.cells h0d h66
                  obtain rfl := api_Label.r.1 h68
                  refine MT.r rfl rfl (gy rfl rfl rfl b57) ⟨m43, trivial⟩ (fun w' hq => rw_el1 (off := 0) ag9 (h69 w' (hq.1.mono fun _ _ => trivial)) rfl rfl) (MT.vv rfl rfl (gy rfl rfl rfl b57) (rv_sleq rfl rfl) (MT.vv rfl rfl (gy rfl rfl rfl b56) (ptk (.bool (strLt y58.Name y65.Name || strEq y58.Name y65.Name)) rfl b57 rfl) (mtv rfl rfl (pfk (.bool (strLt y58.Name y65.Name || strEq y58.Name y65.Name)) rfl b56 rfl) (MT.e ?_))))
                  obtain rfl := osi h28
                  exact ⟨_, C, ⟨rfl, rfl, rfl, trivial⟩, h0⟩
                · refine MT.n rfl rfl (gn rfl rfl rfl b57) trivial (MT.n rfl rfl (gn rfl rfl rfl b57) trivial (MT.n rfl rfl (gn rfl rfl rfl b57) trivial (MT.n rfl rfl (gn rfl rfl rfl b57) trivial (MT.n rfl rfl (gn rfl rfl rfl b57) ⟨m43, trivial⟩ (MT.n rfl rfl (gn rfl rfl rfl b57) trivial (MT.n rfl rfl (gn rfl rfl rfl b57) trivial (MT.n rfl rfl (gn rfl rfl rfl b57) trivial (MT.n rfl rfl (gn rfl rfl rfl b57) trivial (MT.n rfl rfl (gn rfl rfl rfl b57) trivial (MT.n rfl rfl (gn rfl rfl rfl b57) ⟨m43, trivial⟩ (MT.n rfl rfl (gn rfl rfl rfl b57) trivial ?_)))))))))))
                  refine MT.vv rfl rfl (gy rfl rfl rfl b56) (pfk (.bool false) rfl b57 rfl) (mtv rfl rfl (pfk (.bool false) rfl b56 rfl) (MT.e ?_))
                  obtain rfl := osi h28
                  exact ⟨_, C, ⟨rfl, rfl, rfl, trivial⟩, h0⟩
        · rintro ρ w71 ⟨S70, C, h72, h0⟩
          refine h72.cw fun ρ => ?_
          clear h72
          rcases bif_some h24 with ⟨b73, h24⟩ | ⟨b73, h24⟩
          · refine cw_t rfl b73 ?_
            refine cw_seq fun K74 k75 => ?_
            refine cw_region (sv (asv (.bool false) rfl) (W.e (k75 _ _ (cw_ret ?_))))
            obtain rfl := osi h24
            replace h15 := h15.2 _ rfl
            obtain rfl := osi h15
            have h76 := congrArg some h14
            obtain rfl := osi h76
            replace h := h.2 _ rfl
            obtain rfl := osi h
            exact ⟨_, rfl, _, rfl, C⟩
          · refine cw_f rfl b73 (cw_skip ?_)
            obtain rfl := osi h24
            exact ⟨_, rfl, ⟨_, C, ⟨rfl, rfl, trivial⟩, h0⟩⟩
      · rintro ρ w78 ⟨o21n, rfl, ⟨S77, C, h79, h0⟩⟩
        replace h15 := h15.1 _ rfl
        refine h79.cw fun ρ => ?_
        clear h79
        refine cw_region (sv (mvv (.int .i64 x13) rfl) ?_)
        obtain ⟨y80, h81, h15⟩ := pur_some h15
        refine sv (rv_add rfl rfl h81) (sv (asv (.int .i64 y80) rfl) (W.e ?_))
        obtain rfl := osi h15
        exact ⟨_, rfl, ⟨_, C, ⟨rfl, rfl, trivial⟩, h0⟩⟩
    · refine cw_f rfl b20 (cw_exit ?_)
      obtain rfl := osi h15
      have h82 := congrArg some h14
      obtain rfl := osi h82
      exact ⟨_, rfl, ⟨_, C, ⟨rfl, trivial⟩, h0⟩⟩
  · rintro ρ w84 ⟨o3n, rfl, ⟨S83, C, h85, h0⟩⟩
    replace h := h.1 _ rfl
    refine h85.cw fun ρ => ?_
    clear h85
    obtain ⟨o86, h89, h⟩ := bnd_some h
    refine cw_seq' (fun ρ w1 => ∃ S1, Cx No S w S1 w1 ∧ Has ρ [(2, .bool o86)]) ?_ ?_
    · refine cw_region (sv (mvv v0 rfl) (sv (rv_lenS el31 h0 rfl) (sv (rv_geq rfl rfl) (sv (mvv (.bool (decide ((1 : Int) ≤ (a0.length : Int)))) rfl) ?_))))
      rcases bif_some h89 with ⟨b90, h89⟩ | ⟨b90, h89⟩
      · refine W.v (gy rfl rfl rfl b90) (mvv v0 rfl) (W.v (gy rfl rfl rfl b90) (rv_lenS el31 h0 rfl) (W.v (gy rfl rfl rfl b90) (rv_leq rfl rfl) (sv (ptk (.bool (decide ((a0.length : Int) ≤ (6 : Int)))) rfl b90 rfl) (sv (asv (.bool (decide ((a0.length : Int) ≤ (6 : Int)))) rfl) (W.e ?_)))))
        obtain rfl := osi h89
        exact ⟨_, C, ⟨rfl, trivial⟩⟩
      · refine W.n (gn rfl rfl rfl b90) (W.n (gn rfl rfl rfl b90) (W.n (gn rfl rfl rfl b90) (sv (pfk (.bool false) rfl b90 rfl) (sv (asv (.bool false) rfl) (W.e ?_)))))
        obtain rfl := osi h89
        exact ⟨_, C, ⟨rfl, trivial⟩⟩
    · rintro ρ w92 ⟨S91, C, h93⟩
      refine h93.cw fun ρ => ?_
      clear h93
      refine cw_ret ?_
      obtain rfl := osi h
      exact ⟨_, rfl, _, rfl, C⟩

noncomputable def marigraphref01_PutText (a0 : List Int) (a1 : ByteArray) : Option (List Int) :=
  (pur (IntKind.u64.wrap (a1.size : Int)) fun y5 => ((marigraphref01_Put a0 y5).bind fun y7 => ((app_ 1 y7 (strB a1)).bind fun y14 => some y14)))
theorem marigraphref01_PutText_w {S : Nat → Prop} {w : World} {a0 : List Int} {a1 : ByteArray} {v0 : Value} {r : (List Int)} (hS : Sb S w) (h0 : Sl (kSl (kI .u8)) S w v0 a0) (h : marigraphref01_PutText a0 a1 = some r) :
    Calls Tryz.prog 65 (List.toArray [v0, .string a1]) w fun e w1 => ∃ S1 u0, e = .returned (u0) ∧ Cx No S w S1 w1 ∧ Ow (kI .u8) 5 S1 w.heap.size w1 u0 r := by
  refine enter Tryz.func65 rfl (by kernel_rfl) rfl ?_
  have C := Cx.refl (F := No) hS
  unfold marigraphref01_PutText at h
  refine cw_seq fun K1 k2 => ?_
  refine cw_region (sv (asv (.slice none 0 0) rfl) (W.e (k2 _ _ ?_)))
  refine cw_seq fun K3 k4 => ?_
  refine cw_region (sv (mvv v0 rfl) (sv (mvv (.string a1) rfl) (sv (rv_slen Tryz.underlying9 rfl) ?_)))
  obtain ⟨y5, h6, h⟩ := pur_some h
  refine sv (rv_conv Tryz.underlying3 Tryz.underlying74 rfl h6) ?_
  obtain ⟨y7, h8, h⟩ := bnd_some h
  refine sc (dc_call (vs := [v0, .int .u64 y5]) can36 rfl ?_)
  refine (marigraphref01_Put_w C.sb h0 h8).mono ?_
  rintro _ w9 ⟨S10, v12, rfl, c11, h13⟩
  refine ⟨_, rfl, ?_⟩
  replace h13 := h13.base C.up.size
  replace C := C.trans c11
  refine sv (mvv (.string a1) rfl) ?_
  obtain ⟨y14, h15, h⟩ := bnd_some h
  have h21 := h13
  refine sc (dc_appendS el36 Tryz.underlying9 zv5 h21 rfl rfl h15 C.up.size C.sb fun v16 w17 h18 u19 h20 => ?_)
  replace C := C.ow h21 u19
  refine sv (asv v16 rfl) (W.e (k4 _ _ (cw_ret ?_)))
  obtain rfl := osi h
  exact ⟨_, rfl, _, _, rfl, C, h18⟩

noncomputable def marigraphref05_Put.b2 (a0 : List api_Label) (x38 : List Int) (x39 : Int) : Option (((List Int) × Int) ⊕ ((List Int))) :=
  (bif (decide (x39 < (a0.length : Int))) then ((at_ a0 x39).bind fun y51 => ((marigraphref01_PutText x38 y51.Name).bind fun y56 => ((at_ a0 x39).bind fun y63 => ((marigraphref01_PutText y56 y63.Val).bind fun y68 => (pur (IntKind.i64.wrap (x39 + (1 : Int))) fun y75 => some (.inl (y68, y75))))))) else some (.inr x38))
noncomputable def marigraphref05_Put (a0 : List api_Label) : Option ((List Int) × Int) :=
  ((marigraphref05_Right a0).bind fun y7 => (bif (!y7) then some (([] : List Int), (50 : Int)) else (pur (IntKind.u64.wrap (a0.length : Int)) fun y17 => ((marigraphref01_Put ([] : List Int) y17).bind fun y19 => ((iter (fun s : (List Int) × Int => marigraphref05_Put.b2 a0 s.1 s.2) (y19, (0 : Int))).bind fun o26 => some (o26, (0 : Int)))))))
theorem marigraphref05_Put_w {S : Nat → Prop} {w : World} {a0 : List api_Label} {v0 : Value} {r : (List Int) × Int} (hS : Sb S w) (h0 : Sl (kSl api_Label.k) S w v0 a0) (h : marigraphref05_Put a0 = some r) :
    Calls Tryz.prog 37 (List.toArray [v0]) w fun e w1 => ∃ S1 u0, e = .returned (.tuple (List.toArray [u0, .int .i64 r.2])) ∧ Cx No S w S1 w1 ∧ Ow (kI .u8) 5 S1 w.heap.size w1 u0 r.1 := by
  refine enter Tryz.func37 rfl (by kernel_rfl) rfl ?_
  have C := Cx.refl (F := No) hS
  unfold marigraphref05_Put at h
  refine cw_seq fun K1 k2 => ?_
  refine cw_region (sv (asv (.slice none 0 0) rfl) (sv (asv (.int .i64 0) rfl) (W.e (k2 _ _ ?_))))
  refine cw_seq fun K3 k4 => ?_
  refine cw_seq fun K5 k6 => ?_
  refine cw_region (sv (mvv v0 rfl) ?_)
  obtain ⟨y7, h8, h⟩ := bnd_some h
  refine sc (dc_call (vs := [v0]) can64 rfl ?_)
  refine (marigraphref05_Right_w C.sb h0 h8).mono ?_
  rintro _ w9 ⟨S10, rfl, c11⟩
  refine ⟨_, rfl, ?_⟩
  replace h0 := h0.cx c11
  replace C := C.trans c11
  refine sv (rv_not rfl) (W.e (k6 _ _ ?_))
  rcases bif_some h with ⟨b12, h⟩ | ⟨b12, h⟩
  · refine cw_t rfl b12 ?_
    refine cw_seq fun K13 k14 => ?_
    refine cw_region (sv (asv (.slice none 0 0) rfl) (sv (asv (.int .i64 50) rfl) (W.e (k14 _ _ (cw_ret ?_)))))
    obtain rfl := osi h
    exact ⟨_, rfl, _, _, rfl, C, Ow.nil _ _ _ _ _⟩
  · refine cw_f rfl b12 (cw_skip (k4 _ _ ?_))
    refine cw_seq fun K15 k16 => ?_
    refine cw_region (sv (mvv v0 rfl) (sv (rv_lenS el31 h0 rfl) ?_))
    obtain ⟨y17, h18, h⟩ := pur_some h
    refine sv (rv_conv Tryz.underlying3 Tryz.underlying74 rfl h18) ?_
    obtain ⟨y19, h20, h⟩ := bnd_some h
    refine sc (dc_call (vs := [.slice none 0 0, .int .u64 y17]) can36 rfl ?_)
    refine (marigraphref01_Put_w C.sb (sl_nil _ _ _) h20).mono ?_
    rintro _ w21 ⟨S22, v24, rfl, c23, h25⟩
    refine ⟨_, rfl, ?_⟩
    replace h25 := h25.base C.up.size
    replace h0 := h0.cx c23
    replace C := C.trans c23
    refine sv (asv v24 rfl) (W.e (k16 _ _ ?_))
    obtain ⟨o26, h29, h⟩ := bnd_some h
    refine cw_seq' (fun ρ w1 => ∃ S1 v80, Cx No S w S1 w1 ∧ Has ρ [(4, v80)] ∧ Ow (kI .u8) 5 S1 w.heap.size w1 v80 o26) ?_ ?_
    · refine cw_seq fun K30 k31 => ?_
      refine cw_region (sv (asv (.int .i64 0) rfl) (W.e (k31 _ _ (cw_block ?_))))
      refine cw_iter h29 (fun s ρ w1 => ∃ S1 v35, Cx No S w S1 w1 ∧ Has ρ [(0, v0), (4, v35), (5, .int .i64 s.2)] ∧ Sl (kSl api_Label.k) S1 w1 v0 a0 ∧ Ow (kI .u8) 5 S1 w.heap.size w1 v35 s.1) ⟨_, _, C, ⟨rfl, rfl, rfl, trivial⟩, h0, h25⟩ ?_
      rintro ⟨x38, x39⟩ q32 ρ w34 ⟨S33, v35, C, h37, h0, h36⟩ h41 h40
      refine h37.cw fun ρ => ?_
      clear h37
      replace h41 : marigraphref05_Put.b2 a0 x38 x39 = some q32 := h41
      unfold marigraphref05_Put.b2 at h41
      refine cw_seq fun K42 k43 => ?_
      refine cw_seq fun K44 k45 => ?_
      refine cw_region (sv (mvv (.int .i64 x39) rfl) (sv (mvv v0 rfl) (sv (rv_lenS el31 h0 rfl) (sv (rv_lss rfl rfl) (W.e (k45 _ _ ?_))))))
      rcases bif_some h41 with ⟨b46, h41⟩ | ⟨b46, h41⟩
      · refine cw_t rfl b46 (cw_skip (k43 _ _ ?_))
        refine cw_seq fun K47 k48 => ?_
        refine cw_block ?_
        refine cw_seq fun K49 k50 => ?_
        refine cw_region (sv (mvv v35 rfl) (sv (mvv v0 rfl) (sv (mvv (.int .i64 x39) rfl) ?_)))
        obtain ⟨y51, h52, h41⟩ := bnd_some h41
        refine sv (rv_index el31 h0 rfl rfl h52) (sv (rv_fieldAddr st46 rfl rfl) ?_)
        obtain ⟨cs53, h54, h55⟩ := Sl.cells h0 h52
        obtain rfl := api_Label.r.1 h54
        refine sr (rw_el1 (off := 0) ag9 (h55 _ (Sm.refl _ _)) rfl rfl) ?_
        replace h0 := h0.or (T := Blk v35)
        replace C := C.sealO h36
        replace h36 := h36.sealed
        obtain ⟨y56, h57, h41⟩ := bnd_some h41
        refine sc (dc_call (vs := [v35, .string y51.Name]) can65 rfl ?_)
        refine (marigraphref01_PutText_w C.sb h36 h57).mono ?_
        rintro _ w58 ⟨S59, v61, rfl, c60, h62⟩
        refine ⟨_, rfl, ?_⟩
        replace h62 := h62.base C.up.size
        replace h0 := h0.cx c60
        replace C := C.trans c60
        refine sv (asv v61 rfl) (W.e (k50 _ _ (cw_region (sv (mvv v61 rfl) (sv (mvv v0 rfl) (sv (mvv (.int .i64 x39) rfl) ?_))))))
        obtain ⟨y63, h64, h41⟩ := bnd_some h41
        refine sv (rv_index el31 h0 rfl rfl h64) (sv (rv_fieldAddr st46 rfl rfl) ?_)
        obtain ⟨cs65, h66, h67⟩ := Sl.cells h0 h64
        obtain rfl := api_Label.r.1 h66
        refine sr (rw_el1 (off := 1) ag9 (h67 _ (Sm.refl _ _)) rfl rfl) ?_
        replace h0 := h0.or (T := Blk v61)
        replace C := C.sealO h62
        replace h62 := h62.sealed
        obtain ⟨y68, h69, h41⟩ := bnd_some h41
        refine sc (dc_call (vs := [v61, .string y63.Val]) can65 rfl ?_)
        refine (marigraphref01_PutText_w C.sb h62 h69).mono ?_
        rintro _ w70 ⟨S71, v73, rfl, c72, h74⟩
        refine ⟨_, rfl, ?_⟩
        replace h74 := h74.base C.up.size
        replace h0 := h0.cx c72
        replace C := C.trans c72
        refine sv (asv v73 rfl) (W.e (k48 _ _ (cw_region (sv (mvv (.int .i64 x39) rfl) ?_))))
        obtain ⟨y75, h76, h41⟩ := pur_some h41
        refine sv (rv_add rfl rfl h76) (sv (asv (.int .i64 y75) rfl) (W.e ?_))
        obtain rfl := osi h41
        exact ⟨_, rfl, ⟨_, _, C, ⟨rfl, rfl, rfl, trivial⟩, h0, h74⟩⟩
      · refine cw_f rfl b46 (cw_exit ?_)
        obtain rfl := osi h41
        have h77 := congrArg some h40
        obtain rfl := osi h77
        exact ⟨_, _, C, ⟨rfl, trivial⟩, h36⟩
    · rintro ρ w79 ⟨S78, v80, C, h82, h81⟩
      refine h82.cw fun ρ => ?_
      clear h82
      refine cw_seq fun K83 k84 => ?_
      refine cw_region (sv (mvv v80 rfl) (sv (asv v80 rfl) (sv (asv (.int .i64 0) rfl) (W.e (k84 _ _ (cw_ret ?_))))))
      obtain rfl := osi h
      exact ⟨_, rfl, _, _, rfl, C, h81⟩

noncomputable def marigraphref05_Take.b2 (y27 : Int × marigraphref01_Taker) (x57 : List api_Label) (x58 : Int) (x59 : marigraphref01_Taker) : Option (((List api_Label) × Int × marigraphref01_Taker) ⊕ ((List api_Label) × marigraphref01_Taker)) :=
  (pur (if (7 : Int) < y27.1 then (7 : Int) else y27.1) fun y66 => (pur (IntKind.i64.wrap y66) fun y68 => (bif (decide (x58 < y68)) then ((marigraphref01_Taker_Text x59).bind fun y75 => (pur (api_Label.mk y75.1 ByteArray.empty) fun y94 => ((marigraphref01_Taker_Text y75.2).bind fun y102 => (pur ({ y94 with Val := y102.1 } : api_Label) fun y115 => ((app_ 32 x57 ([y115] : List api_Label)).bind fun y131 => (pur (IntKind.i64.wrap (x58 + (1 : Int))) fun y140 => some (.inl (y131, y140, y102.2)))))))) else some (.inr (x57, x59)))))
noncomputable def marigraphref05_Take (a0 : List Int) : Option ((List api_Label) × (List Int) × Int) :=
  ((app_ 1 ([] : List Int) a0).bind fun y10 => ((marigraphref01_Taker_Num (marigraphref01_Taker.mk y10 false)).bind fun y27 => ((iter (fun s : (List api_Label) × Int × marigraphref01_Taker => marigraphref05_Take.b2 y27 s.1 s.2.1 s.2.2) (([] : List api_Label), (0 : Int), y27.2)).bind fun o40 => ((marigraphref05_Put o40.1).bind fun y155 => (((bif o40.2.Bad then some true else (bif (y155.2 != (0 : Int)) then some true else (bif (decide ((a0.length : Int) < (y155.1.length : Int))) then some true else ((upto_ a0 (y155.1.length : Int)).bind fun y11_21_1 => some (!strEq (strOf y155.1) (strOf y11_21_1)))))).bind fun o167 => (bif o167 then some (.inr (([] : List api_Label), ([] : List Int), (6 : Int))) else some (.inl ()))).bind (Sum.elim (fun o163n => ((from_ a0 (y155.1.length : Int)).bind fun y198 => ((app_ 1 ([] : List Int) y198).bind fun y203 => some (o40.1, y203, (0 : Int))))) (fun q => some q)))))))
theorem marigraphref05_Take_w {S : Nat → Prop} {w : World} {a0 : List Int} {v0 : Value} {r : (List api_Label) × (List Int) × Int} (hS : Sb S w) (h0 : Sl (kSl (kI .u8)) S w v0 a0) (h : marigraphref05_Take a0 = some r) :
    Calls Tryz.prog 46 (List.toArray [v0]) w fun e w1 => ∃ S1 u0 u1, e = .returned (.tuple (List.toArray [u0, u1, .int .i64 r.2.2])) ∧ Cx No S w S1 w1 ∧ Sl (kSl api_Label.k) S1 w1 u0 r.1 ∧ Ow (kI .u8) 5 S1 w.heap.size w1 u1 r.2.1 := by
  refine enter Tryz.func46 rfl (by kernel_rfl) rfl ?_
  have C := Cx.refl (F := No) hS
  unfold marigraphref05_Take at h
  refine cw_seq fun K1 k2 => ?_
  refine cw_region (sv (asv (.slice none 0 0) rfl) (sv (asv (.slice none 0 0) rfl) (sv (asv (.int .i64 0) rfl) (W.e (k2 _ _ ?_)))))
  refine cw_seq fun K3 k4 => ?_
  refine cw_region ?_
  refine sc (dc_lit (vs := []) (xs := ([] : List Int)) (base := w.heap.size) el36 rfl rfl (.nil) (Nat.le_of_ble_eq_true rfl) C.up.size C.sb fun v5 w6 h7 h8 u9 => ?_)
  replace h0 := h0.nw u9
  replace C := C.new u9
  refine sv (mvv v0 rfl) ?_
  obtain ⟨y10, h11, h⟩ := bnd_some h
  have h17 := h7
  refine sc (dc_append el36 (by decide) h17 (h0.src fun _ h => h) rfl rfl h11 C.up.size C.sb fun v12 w13 h14 u15 h16 => ?_)
  replace h0 := h0.wr u15 h17.not
  replace C := C.ow h17 u15
  replace h0 := h0.or (T := Blk v12)
  replace C := C.sealO h14
  replace h14 := h14.sealed
  refine sv (rv_build (r := [v12, .bool false]) st92 zr92 (by obtain ⟨_, _, rfl⟩ := h14.len; rfl)) ?_
  refine sc (dc_obox (l := marigraphref01_Taker.fs (marigraphref01_Taker.mk y10 false)) (S := (Or S (Blk v12))) (cs := [v12, .bool false]) (.cons ⟨rep_sl.2 ⟨_, rfl, h14⟩, rfl⟩ (.cons ⟨rep_sc.2 rfl, rfl⟩ (.nil))) (by simp) C.sb rfl fun v18 w19 h20 h21 u22 => ?_)
  have h24p := C.up.size
  obtain ⟨fp23, h20, h24, h24fr⟩ : ∃ fp, Ob 92 (marigraphref01_Taker.fs (marigraphref01_Taker.mk y10 false)) (Or S (Blk v12)) w19 v18 [v12, .bool false] fp ∧ (∀ q, q ∈ fp → w.heap.size ≤ q) ∧ ∀ q, q ∈ fp → w13.heap.size ≤ q := ⟨_, h20, fun q hq => by simp at hq; omega, fun q hq => by simp at hq; omega⟩
  replace h0 := h0.nw u22
  replace C := C.new u22
  refine sv (asv v18 rfl) (W.e (k4 _ _ ?_))
  refine cw_seq fun K25 k26 => ?_
  refine cw_region (sv (mvv v18 rfl) ?_)
  obtain ⟨y27, h28, h⟩ := bnd_some h
  refine sc (dc_call (vs := [v18]) can45 rfl ?_)
  refine (marigraphref01_Taker_Num_w C.sb h20 h28).mono ?_
  rintro _ w29 ⟨S30, cs32, fp33, rfl, c31, h34, h35⟩
  refine ⟨_, rfl, ?_⟩
  have h36 : ∀ b, b ∈ fp23 → ¬ (Or S (Blk v12)) b := fun b hb => (h20.lt b hb).2
  have h37 : ∀ b, b ∈ fp33 → w.heap.size ≤ b := fun b hb => (h35 b hb).elim (h24 b) (fun hl => Nat.le_trans C.up.size hl)
  replace h0 := h0.cf c31 h36
  replace C := C.ofc c31 (fun b hb => .inr (h24 b hb))
  refine sv (asv (.int .u64 y27.1) rfl) (W.e (k26 _ _ ?_))
  refine cw_seq fun K38 k39 => ?_
  refine cw_region (sv (asv (.slice none 0 0) rfl) (W.e (k39 _ _ ?_)))
  obtain ⟨o40, h43, h⟩ := bnd_some h
  refine cw_seq' (fun ρ w1 => ∃ S1 v145 fp148 cs150, Cx No S w S1 w1 ∧ Has ρ [(0, v0), (5, v18), (7, v145)] ∧ Sl (kSl (kI .u8)) S1 w1 v0 a0 ∧ Ow api_Label.k 46 S1 w.heap.size w1 v145 o40.1 ∧ Ob 92 (marigraphref01_Taker.fs o40.2) S1 w1 v18 cs150 fp148 ∧ (∀ b, b ∈ fp148 → w.heap.size ≤ b) ∧ (∀ b, Blk v145 b → ¬ b ∈ fp148)) ?_ ?_
  · refine cw_seq fun K44 k45 => ?_
    refine cw_region (sv (asv (.int .i64 0) rfl) (W.e (k45 _ _ (cw_block ?_))))
    refine cw_iter h43 (fun s ρ w1 => ∃ S1 v49 fp52 cs54, Cx No S w S1 w1 ∧ Has ρ [(0, v0), (5, v18), (6, .int .u64 y27.1), (7, v49), (8, .int .i64 s.2.1)] ∧ Sl (kSl (kI .u8)) S1 w1 v0 a0 ∧ Ow api_Label.k 46 S1 w.heap.size w1 v49 s.1 ∧ Ob 92 (marigraphref01_Taker.fs s.2.2) S1 w1 v18 cs54 fp52 ∧ (∀ b, b ∈ fp52 → w.heap.size ≤ b) ∧ (∀ b, Blk v49 b → ¬ b ∈ fp52)) ⟨_, _, _, _, C, ⟨rfl, rfl, rfl, rfl, rfl, trivial⟩, h0, Ow.nil _ _ _ _ _, h34, h37, ap_nil⟩ ?_
    rintro ⟨x57, x58, x59⟩ q46 ρ w48 ⟨S47, v49, fp52, cs54, C, h56, h0, h50, h51, h53, p55⟩ h61 h60
    refine h56.cw fun ρ => ?_
    clear h56
    replace h61 : marigraphref05_Take.b2 y27 x57 x58 x59 = some q46 := h61
    unfold marigraphref05_Take.b2 at h61
    refine cw_seq fun K62 k63 => ?_
    refine cw_seq fun K64 k65 => ?_
    refine cw_region (sv (mvv (.int .i64 x58) rfl) (sv (mvv (.int .u64 y27.1) rfl) ?_))
    obtain ⟨y66, h67, h61⟩ := pur_some h61
    refine sv (rv_min rfl rfl h67) ?_
    obtain ⟨y68, h69, h61⟩ := pur_some h61
    refine sv (rv_conv Tryz.underlying74 Tryz.underlying3 rfl h69) (sv (rv_lss rfl rfl) (W.e (k65 _ _ ?_)))
    rcases bif_some h61 with ⟨b70, h61⟩ | ⟨b70, h61⟩
    · refine cw_t rfl b70 (cw_skip (k63 _ _ ?_))
      refine cw_seq fun K71 k72 => ?_
      refine cw_block ?_
      refine cw_seq fun K73 k74 => ?_
      refine cw_region (sv (mvv v18 rfl) ?_)
      obtain ⟨y75, h76, h61⟩ := bnd_some h61
      refine sc (dc_call (vs := [v18]) can73 rfl ?_)
      refine (marigraphref01_Taker_Text_w C.sb h51 h76).mono ?_
      rintro _ w77 ⟨S78, cs80, fp81, rfl, c79, h82, h83⟩
      refine ⟨_, rfl, ?_⟩
      have h84 : ∀ b, b ∈ fp52 → ¬ S47 b := fun b hb => (h51.lt b hb).2
      have p85 := ap_grow (ap_symm p55) h83 (fun b hb => (h50.lt b hb).2)
      have h86 : ∀ b, b ∈ fp81 → w.heap.size ≤ b := fun b hb => (h83 b hb).elim (h53 b) (fun hl => Nat.le_trans C.up.size hl)
      replace h0 := h0.cf c79 h84
      replace h50 := h50.cf c79 h84 p55
      replace C := C.ofc c79 (fun b hb => .inr (h53 b hb))
      refine sv (rv_build (r := [.string y75.1, .string ByteArray.empty]) st46 zr46 rfl) ?_
      refine sc (dc_allocO (x0 := (api_Label.mk ByteArray.empty ByteArray.empty)) (base := w.heap.size) el31 zr46 (fun _ => api_Label.r.2 rfl) C.up.size C.sb fun b87 w88 h89 h90 u91 => ?_)
      have p92 := ap_fresh h90 (fun b hb => (h82.lt b hb).1)
      have p93 := ap_fresh h90 (fun b hb => (h50.lt b hb).2)
      replace h0 := h0.nw u91
      replace h82 := h82.nw u91
      replace h50 := h50.nw u91
      replace C := C.new u91
      obtain ⟨y94, h95, h61⟩ := pur_some h61
      have h99 := h89
      refine sc (dc_storeO el31 h99 (show at_ [(api_Label.mk ByteArray.empty ByteArray.empty)] (0 : Int) = some (api_Label.mk ByteArray.empty ByteArray.empty) from rfl) rfl rfl (((api_Label.o (x := (api_Label.mk y75.1 ByteArray.empty))).2 rfl)) fun w96 h97 u98 => ?_)
      replace h97 : Ow api_Label.k 46 S78 w.heap.size w96 (.slice (some ⟨b87, 0, none⟩) 1 1) [(api_Label.mk y75.1 ByteArray.empty)] := h97
      rw [h95] at h97
      replace h0 := h0.wr u98 h99.not
      replace h82 := h82.wr u98 h99.not (ap_symm p92)
      replace h50 := h50.wr u98 h99.not (ap_symm p93)
      replace C := C.ow h99 u98
      refine W.e (k74 _ _ ?_)
      refine cw_seq fun K100 k101 => ?_
      refine cw_region (sv (mvv v18 rfl) ?_)
      obtain ⟨y102, h103, h61⟩ := bnd_some h61
      refine sc (dc_call (vs := [v18]) can73 rfl ?_)
      refine (marigraphref01_Taker_Text_w C.sb h82 h103).mono ?_
      rintro _ w104 ⟨S105, cs107, fp108, rfl, c106, h109, h110⟩
      refine ⟨_, rfl, ?_⟩
      have h111 : ∀ b, b ∈ fp81 → ¬ S78 b := fun b hb => (h82.lt b hb).2
      have p112 := ap_grow p85 h110 (fun b hb => (h50.lt b hb).2)
      have p113 := ap_grow (ap_symm p92) h110 (fun b hb => (h97.lt b hb).2)
      have h114 : ∀ b, b ∈ fp108 → w.heap.size ≤ b := fun b hb => (h110 b hb).elim (h86 b) (fun hl => Nat.le_trans C.up.size hl)
      replace h0 := h0.cf c106 h111
      replace h50 := h50.cf c106 h111 (ap_symm p85)
      replace h97 := h97.cf c106 h111 p92
      replace C := C.ofc c106 (fun b hb => .inr (h86 b hb))
      refine sv (rv_fieldAddr st46 rfl rfl) ?_
      obtain ⟨y115, h116, h61⟩ := pur_some h61
      have h120 := h97
      refine sc (dc_storeP (off := 1) (u := .string y102.1) (z' := ({ y94 with Val := y102.1 } : api_Label)) el31 ag9 h120 (show at_ [y94] (0 : Int) = some y94 from rfl) (by decide) rfl rfl rfl (fun cs hr => by obtain rfl := api_Label.r.1 hr; exact api_Label.r.2 rfl) fun w117 h118 u119 => ?_)
      replace h118 : Ow api_Label.k 46 S105 w.heap.size w117 (.slice (some ⟨b87, 0, none⟩) 1 1) [({ y94 with Val := y102.1 } : api_Label)] := h118
      rw [h116] at h118
      replace h0 := h0.wr u119 h120.not
      replace h109 := h109.wr u119 h120.not p113
      replace h50 := h50.wr u119 h120.not (ap_symm p93)
      replace C := C.ow h120 u119
      refine W.e (k101 _ _ (cw_region (sv (mvv v49 rfl) ?_)))
      obtain ⟨v121, h122, h123⟩ := rw_loadO (P := Tryz.prog) el31 h118 (show at_ [y115] (0 : Int) = some y115 from rfl)
      obtain rfl := api_Label.o.1 h122
      refine sr (h123 _ (Sm.refl _ _) rfl) ?_
      refine sc (dc_lit (vs := [.agg (List.toArray [.string y115.Name, .string y115.Val])]) (xs := ([y115] : List api_Label)) (base := w.heap.size) el31 rfl rfl (.cons ((api_Label.o (x := y115)).2 rfl) (.nil)) (Nat.le_of_ble_eq_true rfl) C.up.size C.sb fun v124 w125 h126 h127 u128 => ?_)
      have p129 := ap_fresh h127 (fun b hb => (h50.lt b hb).2)
      have p130 := ap_fresh h127 (fun b hb => (h109.lt b hb).1)
      replace h0 := h0.nw u128
      replace h50 := h50.nw u128
      replace h109 := h109.nw u128
      replace C := C.new u128
      obtain ⟨y131, h132, h61⟩ := bnd_some h61
      have h138 := h50
      refine sc (dc_append el31 (by decide) h138 h126.src rfl rfl h132 C.up.size C.sb fun v133 w134 h135 u136 h137 => ?_)
      have p139 := ap_grow (ap_symm p112) h137 (fun b hb => (h109.lt b hb).1)
      replace h0 := h0.wr u136 h138.not
      replace h109 := h109.wr u136 h138.not p112
      replace C := C.ow h138 u136
      refine sv (asv v133 rfl) (W.e (k72 _ _ (cw_region (sv (mvv (.int .i64 x58) rfl) ?_))))
      obtain ⟨y140, h141, h61⟩ := pur_some h61
      refine sv (rv_add rfl rfl h141) (sv (asv (.int .i64 y140) rfl) (W.e ?_))
      obtain rfl := osi h61
      exact ⟨_, rfl, ⟨_, _, _, _, C, ⟨rfl, rfl, rfl, rfl, rfl, trivial⟩, h0, h135, h109, h114, p139⟩⟩
    · refine cw_f rfl b70 (cw_exit ?_)
      obtain rfl := osi h61
      have h142 := congrArg some h60
      obtain rfl := osi h142
      exact ⟨_, _, _, _, C, ⟨rfl, rfl, rfl, trivial⟩, h0, h50, h51, h53, p55⟩
  · rintro ρ w144 ⟨S143, v145, fp148, cs150, C, h152, h0, h146, h147, h149, p151⟩
    refine h152.cw fun ρ => ?_
    clear h152
    refine cw_seq fun K153 k154 => ?_
    refine cw_region (sv (mvv v145 rfl) ?_)
    replace h0 := h0.or (T := Blk v145)
    replace h147 := h147.or (ap_symm p151)
    replace C := C.sealO h146
    replace h146 := h146.sealed
    obtain ⟨y155, h156, h⟩ := bnd_some h
    refine sc (dc_call (vs := [v145]) can37 rfl ?_)
    refine (marigraphref05_Put_w C.sb h146 h156).mono ?_
    rintro _ w157 ⟨S158, v160, rfl, c159, h161⟩
    refine ⟨_, rfl, ?_⟩
    have p162 := ap_fresh (fun b hb => (h161.lt b hb).1) (fun b hb => (h147.lt b hb).1)
    replace h161 := h161.base C.up.size
    replace h0 := h0.cx c159
    replace h147 := h147.cx c159
    replace h146 := h146.cx c159
    replace C := C.trans c159
    refine sv (mvv (.tuple (List.toArray [v160, .int .i64 y155.2])) rfl) (sv (rv_extract rfl rfl) (sv (rv_extract rfl rfl) (sv (asv v160 rfl) (sv (asv (.int .i64 y155.2) rfl) (W.e (k154 _ _ ?_))))))
    obtain ⟨o163, h166, h⟩ := bnds_some h
    refine cw_seq' (fun ρ w1 => ∃ o163n, o163 = (.inl o163n) ∧ ∃ S1, Cx No S w S1 w1 ∧ Has ρ [(0, v0), (7, v145), (10, v160)] ∧ Sl (kSl (kI .u8)) S1 w1 v0 a0 ∧ Sl (kSl api_Label.k) S1 w1 v145 o40.1 ∧ Ow (kI .u8) 5 S1 w.heap.size w1 v160 y155.1) ?_ ?_
    · obtain ⟨o167, h170, h166⟩ := bnd_some h166
      refine cw_seq' (fun ρ w1 => ∃ S1, Cx No S w S1 w1 ∧ Has ρ [(0, v0), (7, v145), (10, v160), (65, .bool o167)] ∧ Sl (kSl (kI .u8)) S1 w1 v0 a0 ∧ Sl (kSl api_Label.k) S1 w1 v145 o40.1 ∧ Ow (kI .u8) 5 S1 w.heap.size w1 v160 y155.1) ?_ ?_
      · refine cw_drawU (.one 0 true (.one 1 true (.one 2 true (.one 3 true (.one 4 true (.one 5 true (.one 6 true (.one 7 true (.one 8 true (.one 9 true (.one 10 true (.one 11 true (.one 12 true (.one 13 true (.one 14 true (.one 15 true (.one 16 true (.one 18 true (.one 19 true (.one 20 true (.one 21 true (.two 17 22 (.one 22 false (.one 23 true (.one 24 true .done))) (.one 17 false (.one 23 true (.one 24 true .done))))))))))))))))))))))))) [(3, [10])] [(17, [10]), (22, [10])] (fun c => bif Nat.beq c 10 then (One (pb v18)) else No) fol (by kernel_rfl) fun w171 u172 => ?_
        replace h0 := h0.nw u172
        replace h147 := h147.nw u172
        replace h146 := h146.nw u172
        replace h161 := h161.nw u172
        replace C := C.new u172
        have h0d := h0
        have h147d := h147
        have h146d := h146
        have h161d := h161
        have m173 := Sm.refl (One (pb v18)) w171
        refine mtv rfl rfl (mvv v18 rfl) (mtv rfl rfl (rv_nilcheck rfl h147.ptr) (mtv rfl rfl (rv_fieldAddr (b := pb v18) (o := 0) st92 rfl h147.ptr) (mtr rfl rfl ⟨m173, trivial⟩ (fun w' hq => rw_ofieldU (i := 1) (c := .bool o40.2.Bad) h147 hq.1 ag4 (h147.sc (i := 1) rfl) rfl) (mtv rfl rfl (mvv (.bool o40.2.Bad) rfl) ?_))))
        rcases bif_some h170 with ⟨b174, h170⟩ | ⟨b174, h170⟩
        · refine MT.n rfl rfl (gn rfl rfl rfl b174) trivial (MT.n rfl rfl (gn rfl rfl rfl b174) trivial (mtv rfl rfl (ptk (.bool true) rfl b174 rfl) (mtv rfl rfl (mvv (.bool true) rfl) (MT.n rfl rfl (gn rfl rfl rfl rfl) trivial (MT.n rfl rfl (gn rfl rfl rfl rfl) trivial (MT.n rfl rfl (gn rfl rfl rfl rfl) trivial (MT.n rfl rfl (gn rfl rfl rfl rfl) trivial (MT.n rfl rfl (gn rfl rfl rfl rfl) trivial (mtv rfl rfl (ptk (.bool true) rfl rfl rfl) (mtv rfl rfl (mvv (.bool true) rfl) (MT.n rfl rfl (gn rfl rfl rfl rfl) trivial ?_)))))))))))
          refine MT.n rfl rfl (gn rfl rfl rfl rfl) trivial (MT.n rfl rfl (gn rfl rfl rfl rfl) trivial (MT.n rfl rfl (gn rfl rfl rfl rfl) trivial (MT.n rfl rfl (gn rfl rfl rfl rfl) trivial ?_)))
          refine MT.two ?_ ?_
          · refine MT.m rfl rfl (gn rfl rfl rfl rfl) ⟨m173, trivial⟩ (MT.m rfl rfl (gn rfl rfl rfl rfl) ⟨m173, trivial⟩ (MT.n rfl rfl (gn rfl rfl rfl rfl) trivial (mtv rfl rfl (ptk (.bool true) rfl rfl rfl) (MT.e ?_))))
            obtain rfl := osi h170
            exact ⟨_, C, ⟨rfl, rfl, rfl, rfl, trivial⟩, h0, h146, h161⟩
          · refine MT.m rfl rfl (gn rfl rfl rfl rfl) ⟨m173, trivial⟩ (MT.m rfl rfl (gn rfl rfl rfl rfl) ⟨m173, trivial⟩ (MT.n rfl rfl (gn rfl rfl rfl rfl) trivial (mtv rfl rfl (ptk (.bool true) rfl rfl rfl) (MT.e ?_))))
            obtain rfl := osi h170
            exact ⟨_, C, ⟨rfl, rfl, rfl, rfl, trivial⟩, h0, h146, h161⟩
        · refine MT.vv rfl rfl (gy rfl rfl rfl b174) (mvv (.int .i64 y155.2) rfl) (MT.vv rfl rfl (gy rfl rfl rfl b174) (rv_neq rfl rfl) (mtv rfl rfl (pfk (.bool (y155.2 != (0 : Int))) rfl b174 rfl) (mtv rfl rfl (mvv (.bool (y155.2 != (0 : Int))) rfl) ?_)))
          rcases bif_some h170 with ⟨b175, h170⟩ | ⟨b175, h170⟩
          · refine MT.n rfl rfl (gn rfl rfl rfl b175) trivial (MT.n rfl rfl (gn rfl rfl rfl b175) trivial (MT.n rfl rfl (gn rfl rfl rfl b175) trivial (MT.n rfl rfl (gn rfl rfl rfl b175) trivial (MT.n rfl rfl (gn rfl rfl rfl b175) trivial (mtv rfl rfl (ptk (.bool true) rfl b175 rfl) (mtv rfl rfl (mvv (.bool true) rfl) (MT.n rfl rfl (gn rfl rfl rfl rfl) trivial (MT.n rfl rfl (gn rfl rfl rfl rfl) trivial (MT.n rfl rfl (gn rfl rfl rfl rfl) trivial (MT.n rfl rfl (gn rfl rfl rfl rfl) trivial (MT.n rfl rfl (gn rfl rfl rfl rfl) trivial ?_)))))))))))
            refine MT.two ?_ ?_
            · refine MT.m rfl rfl (gn rfl rfl rfl rfl) ⟨m173, trivial⟩ (MT.m rfl rfl (gn rfl rfl rfl rfl) ⟨m173, trivial⟩ (MT.n rfl rfl (gn rfl rfl rfl rfl) trivial (mtv rfl rfl (ptk (.bool true) rfl rfl rfl) (MT.e ?_))))
              obtain rfl := osi h170
              exact ⟨_, C, ⟨rfl, rfl, rfl, rfl, trivial⟩, h0, h146, h161⟩
            · refine MT.m rfl rfl (gn rfl rfl rfl rfl) ⟨m173, trivial⟩ (MT.m rfl rfl (gn rfl rfl rfl rfl) ⟨m173, trivial⟩ (MT.n rfl rfl (gn rfl rfl rfl rfl) trivial (mtv rfl rfl (ptk (.bool true) rfl rfl rfl) (MT.e ?_))))
              obtain rfl := osi h170
              exact ⟨_, C, ⟨rfl, rfl, rfl, rfl, trivial⟩, h0, h146, h161⟩
          · refine MT.vv rfl rfl (gy rfl rfl rfl b175) (mvv v160 rfl) (MT.vv rfl rfl (gy rfl rfl rfl b175) (rv_lenS el36 h161.sealed rfl) (MT.vv rfl rfl (gy rfl rfl rfl b175) (mvv v0 rfl) (MT.vv rfl rfl (gy rfl rfl rfl b175) (rv_lenS el36 h0 rfl) (MT.vv rfl rfl (gy rfl rfl rfl b175) (rv_gtr rfl rfl) (mtv rfl rfl (pfk (.bool (decide ((a0.length : Int) < (y155.1.length : Int)))) rfl b175 rfl) (mtv rfl rfl (mvv (.bool (decide ((a0.length : Int) < (y155.1.length : Int)))) rfl) ?_))))))
            rcases bif_some h170 with ⟨b176, h170⟩ | ⟨b176, h170⟩
            · refine MT.n rfl rfl (gn rfl rfl rfl b176) trivial (MT.n rfl rfl (gn rfl rfl rfl b176) trivial (MT.n rfl rfl (gn rfl rfl rfl b176) trivial (MT.n rfl rfl (gn rfl rfl rfl b176) trivial (MT.n rfl rfl (gn rfl rfl rfl b176) trivial ?_))))
              refine MT.two ?_ ?_
              · refine MT.m rfl rfl (gn rfl rfl rfl b176) ⟨m173, trivial⟩ (MT.m rfl rfl (gn rfl rfl rfl b176) ⟨m173, trivial⟩ (MT.n rfl rfl (gn rfl rfl rfl b176) trivial (mtv rfl rfl (ptk (.bool true) rfl b176 rfl) (MT.e ?_))))
                obtain rfl := osi h170
                exact ⟨_, C, ⟨rfl, rfl, rfl, rfl, trivial⟩, h0, h146, h161⟩
              · refine MT.m rfl rfl (gn rfl rfl rfl b176) ⟨m173, trivial⟩ (MT.m rfl rfl (gn rfl rfl rfl b176) ⟨m173, trivial⟩ (MT.n rfl rfl (gn rfl rfl rfl b176) trivial (mtv rfl rfl (ptk (.bool true) rfl b176 rfl) (MT.e ?_))))
                obtain rfl := osi h170
                exact ⟨_, C, ⟨rfl, rfl, rfl, rfl, trivial⟩, h0, h146, h161⟩
            · refine MT.vv rfl rfl (gy rfl rfl rfl b176) (mvv v160 rfl) (MT.vv rfl rfl (gy rfl rfl rfl b176) (mvv v0 rfl) (MT.vv rfl rfl (gy rfl rfl rfl b176) (mvv v160 rfl) (MT.vv rfl rfl (gy rfl rfl rfl b176) (rv_lenS el36 h161.sealed rfl) ?_)))
              obtain ⟨y11_21_1, h177, h170⟩ := bnd_some h170
              obtain ⟨v178, h179, h180⟩ := rv_uptoA (P := Tryz.prog) el36 h0 h177
              refine MT.vv rfl rfl (gy rfl rfl rfl b176) (h180 rfl rfl) ?_
              refine MT.two ?_ ?_
              · refine MT.c rfl rfl (gy rfl rfl rfl b176) (Rw.does (rw_str h161.sealed (Sm.refl _ _) Tryz.underlying36 Tryz.underlying5 Tryz.underlying9 rfl) ⟨⟨m173, trivial⟩, MT.c rfl rfl (gy rfl rfl rfl b176) (Rw.does (rw_str h179 (Sm.refl _ _) Tryz.underlying36 Tryz.underlying5 Tryz.underlying9 rfl) ⟨⟨m173, trivial⟩, MT.vv rfl rfl (gy rfl rfl rfl b176) (rv_sneq rfl rfl) (mtv rfl rfl (pfk (.bool (!strEq (strOf y155.1) (strOf y11_21_1))) rfl b176 rfl) (MT.e ?_))⟩)⟩)
                obtain rfl := osi h170
                exact ⟨_, C, ⟨rfl, rfl, rfl, rfl, trivial⟩, h0, h146, h161⟩
              · refine MT.c rfl rfl (gy rfl rfl rfl b176) (Rw.does (rw_str h179 (Sm.refl _ _) Tryz.underlying36 Tryz.underlying5 Tryz.underlying9 rfl) ⟨⟨m173, trivial⟩, MT.c rfl rfl (gy rfl rfl rfl b176) (Rw.does (rw_str h161.sealed (Sm.refl _ _) Tryz.underlying36 Tryz.underlying5 Tryz.underlying9 rfl) ⟨⟨m173, trivial⟩, MT.vv rfl rfl (gy rfl rfl rfl b176) (rv_sneq rfl rfl) (mtv rfl rfl (pfk (.bool (!strEq (strOf y155.1) (strOf y11_21_1))) rfl b176 rfl) (MT.e ?_))⟩)⟩)
                obtain rfl := osi h170
                exact ⟨_, C, ⟨rfl, rfl, rfl, rfl, trivial⟩, h0, h146, h161⟩
      · rintro ρ w182 ⟨S181, C, h183, h0, h146, h161⟩
        refine h183.cw fun ρ => ?_
        clear h183
        rcases bif_some h166 with ⟨b184, h166⟩ | ⟨b184, h166⟩
        · refine cw_t rfl b184 ?_
          refine cw_seq fun K185 k186 => ?_
          refine cw_region (sv (asv (.slice none 0 0) rfl) (sv (asv (.slice none 0 0) rfl) (sv (asv (.int .i64 6) rfl) (W.e (k186 _ _ (cw_ret ?_))))))
          obtain rfl := osi h166
          replace h := h.2 _ rfl
          obtain rfl := osi h
          exact ⟨_, rfl, _, _, _, rfl, C, (sl_nil _ _ _), Ow.nil _ _ _ _ _⟩
        · refine cw_f rfl b184 (cw_skip ?_)
          obtain rfl := osi h166
          exact ⟨_, rfl, ⟨_, C, ⟨rfl, rfl, rfl, trivial⟩, h0, h146, h161⟩⟩
    · rintro ρ w188 ⟨o163n, rfl, ⟨S187, C, h189, h0, h146, h161⟩⟩
      replace h := h.1 _ rfl
      refine h189.cw fun ρ => ?_
      clear h189
      refine cw_seq fun K190 k191 => ?_
      refine cw_region (sv (mvv v145 rfl) ?_)
      refine sc (dc_lit (vs := []) (xs := ([] : List Int)) (base := w.heap.size) el36 rfl rfl (.nil) (Nat.le_of_ble_eq_true rfl) C.up.size C.sb fun v192 w193 h194 h195 u196 => ?_)
      have p197 := ap_fresh h195 (fun b hb => (h161.lt b hb).2)
      replace h0 := h0.nw u196
      replace h146 := h146.nw u196
      replace h161 := h161.nw u196
      replace C := C.new u196
      refine sv (mvv v0 rfl) (sv (mvv v160 rfl) (sv (rv_lenS el36 h161.sealed rfl) ?_))
      obtain ⟨y198, h199, h⟩ := bnd_some h
      obtain ⟨v200, h201, h202⟩ := rv_fromA (P := Tryz.prog) el36 h0 h199
      refine sv (h202 rfl rfl) ?_
      obtain ⟨y203, h204, h⟩ := bnd_some h
      have h210 := h194
      refine sc (dc_append el36 (by decide) h210 (h201.src fun _ h => h) rfl rfl h204 C.up.size C.sb fun v205 w206 h207 u208 h209 => ?_)
      replace h146 := h146.wr u208 h210.not
      replace C := C.ow h210 u208
      refine sv (asv v145 rfl) (sv (asv v205 rfl) (sv (asv (.int .i64 0) rfl) (W.e (k191 _ _ (cw_ret ?_)))))
      obtain rfl := osi h
      exact ⟨_, rfl, _, _, _, rfl, C, h146, h207⟩

noncomputable def marigraphref05_Same.b2 (a0 : List api_Label) (a1 : List api_Label) (x20 : Int) : Option ((Int) ⊕ ((Unit) ⊕ (Bool))) :=
  (bif (decide (x20 < (a0.length : Int))) then ((at_ a0 x20).bind fun y35 => ((at_ a1 x20).bind fun y40 => (bif (!((y35.Name == y40.Name) && ((y35.Val == y40.Val) && true))) then some (.inr (.inr false)) else (pur (IntKind.i64.wrap (x20 + (1 : Int))) fun y49 => some (.inl y49))))) else some (.inr (.inl ())))
noncomputable def marigraphref05_Same (a0 : List api_Label) (a1 : List api_Label) : Option Bool :=
  (bif ((a0.length : Int) != (a1.length : Int)) then some false else ((iter (fun s : Int => marigraphref05_Same.b2 a0 a1 s) (0 : Int)).bind (Sum.elim (fun o10n => some true) (fun q => some q))))
theorem marigraphref05_Same_w {S : Nat → Prop} {w : World} {a0 : List api_Label} {a1 : List api_Label} {v0 v1 : Value} {r : Bool} (hS : Sb S w) (h0 : Sl (kSl api_Label.k) S w v0 a0) (h1 : Sl (kSl api_Label.k) S w v1 a1) (h : marigraphref05_Same a0 a1 = some r) :
    Calls Tryz.prog 32 (List.toArray [v0, v1]) w fun e w1 => ∃ S1, e = .returned (.bool r) ∧ Cx No S w S1 w1 := by
  refine enter Tryz.func32 rfl (by kernel_rfl) rfl ?_
  have C := Cx.refl (F := No) hS
  unfold marigraphref05_Same at h
  refine cw_seq fun K1 k2 => ?_
  refine cw_region (sv (asv (.bool false) rfl) (W.e (k2 _ _ ?_)))
  refine cw_seq fun K3 k4 => ?_
  refine cw_seq fun K5 k6 => ?_
  refine cw_region (sv (mvv v0 rfl) (sv (rv_lenS el31 h0 rfl) (sv (mvv v1 rfl) (sv (rv_lenS el31 h1 rfl) (sv (rv_neq rfl rfl) (W.e (k6 _ _ ?_)))))))
  rcases bif_some h with ⟨b7, h⟩ | ⟨b7, h⟩
  · refine cw_t rfl b7 ?_
    refine cw_seq fun K8 k9 => ?_
    refine cw_region (sv (asv (.bool false) rfl) (W.e (k9 _ _ (cw_ret ?_))))
    obtain rfl := osi h
    exact ⟨_, rfl, _, rfl, C⟩
  · refine cw_f rfl b7 (cw_skip (k4 _ _ ?_))
    obtain ⟨o10, h13, h⟩ := bnds_some h
    refine cw_seq' (fun ρ w1 => ∃ o10n, o10 = (.inl o10n) ∧ ∃ S1, Cx No S w S1 w1 ∧ Has ρ []) ?_ ?_
    · refine cw_seq fun K14 k15 => ?_
      refine cw_region (sv (asv (.int .i64 0) rfl) (W.e (k15 _ _ (cw_block ?_))))
      refine cw_iter h13 (fun s ρ w1 => ∃ S1, Cx No S w S1 w1 ∧ Has ρ [(0, v0), (1, v1), (5, .int .i64 s)] ∧ Sl (kSl api_Label.k) S1 w1 v0 a0 ∧ Sl (kSl api_Label.k) S1 w1 v1 a1) ⟨_, C, ⟨rfl, rfl, rfl, trivial⟩, h0, h1⟩ ?_
      rintro x20 q16 ρ w18 ⟨S17, C, h19, h0, h1⟩ h22 h21
      refine h19.cw fun ρ => ?_
      clear h19
      replace h22 : marigraphref05_Same.b2 a0 a1 x20 = some q16 := h22
      unfold marigraphref05_Same.b2 at h22
      refine cw_seq fun K23 k24 => ?_
      refine cw_seq fun K25 k26 => ?_
      refine cw_region (sv (mvv (.int .i64 x20) rfl) (sv (mvv v0 rfl) (sv (rv_lenS el31 h0 rfl) (sv (rv_lss rfl rfl) (W.e (k26 _ _ ?_))))))
      rcases bif_some h22 with ⟨b27, h22⟩ | ⟨b27, h22⟩
      · refine cw_t rfl b27 (cw_skip (k24 _ _ ?_))
        refine cw_seq fun K28 k29 => ?_
        refine cw_block ?_
        refine cw_seq fun K30 k31 => ?_
        refine cw_drawU (.one 0 true (.one 1 true (.one 2 true (.one 3 true (.one 4 true (.one 5 true (.one 6 true (.one 7 true (.one 8 true .done))))))))) [(3, [9]), (7, [9])] [] (fun c => bif Nat.beq c 9 then (fun _ => True) else No) fol (by kernel_rfl) fun w32 u33 => ?_
        replace h0 := h0.nw u33
        replace h1 := h1.nw u33
        replace C := C.new u33
        have m34 := Sm.refl (fun _ => True) w32
        refine mtv rfl rfl (mvv v0 rfl) (mtv rfl rfl (mvv (.int .i64 x20) rfl) ?_)
        obtain ⟨y35, h36, h22⟩ := bnd_some h22
        refine mtv rfl rfl (rv_index el31 h0 rfl rfl h36) ?_
        obtain ⟨v37, h38, h39⟩ := rw_loadA (P := Tryz.prog) el31 h0 h36
        obtain rfl := api_Label.o.1 h38
        refine mtr rfl rfl ⟨m34, trivial⟩ (fun w' hq => h39 w' (hq.1.mono fun _ _ => trivial) rfl) (mtv rfl rfl (mvv v1 rfl) (mtv rfl rfl (mvv (.int .i64 x20) rfl) ?_))
        obtain ⟨y40, h41, h22⟩ := bnd_some h22
        refine mtv rfl rfl (rv_index el31 h1 rfl rfl h41) ?_
        obtain ⟨v42, h43, h44⟩ := rw_loadA (P := Tryz.prog) el31 h1 h41
        obtain rfl := api_Label.o.1 h43
        refine mtr rfl rfl ⟨m34, trivial⟩ (fun w' hq => h44 w' (hq.1.mono fun _ _ => trivial) rfl) (mtv rfl rfl (rv_aneq eqg46 rfl rfl (eqs46 y35.Name y35.Val y40.Name y40.Val)) (MT.e (k31 _ _ ?_)))
        rcases bif_some h22 with ⟨b45, h22⟩ | ⟨b45, h22⟩
        · refine cw_t rfl b45 ?_
          refine cw_seq fun K46 k47 => ?_
          refine cw_region (sv (asv (.bool false) rfl) (W.e (k47 _ _ (cw_ret ?_))))
          obtain rfl := osi h22
          have h48 := congrArg some h21
          obtain rfl := osi h48
          replace h := h.2 _ rfl
          obtain rfl := osi h
          exact ⟨_, rfl, _, rfl, C⟩
        · refine cw_f rfl b45 (cw_skip (k29 _ _ (cw_region (sv (mvv (.int .i64 x20) rfl) ?_))))
          obtain ⟨y49, h50, h22⟩ := pur_some h22
          refine sv (rv_add rfl rfl h50) (sv (asv (.int .i64 y49) rfl) (W.e ?_))
          obtain rfl := osi h22
          exact ⟨_, rfl, ⟨_, C, ⟨rfl, rfl, rfl, trivial⟩, h0, h1⟩⟩
      · refine cw_f rfl b27 (cw_exit ?_)
        obtain rfl := osi h22
        have h51 := congrArg some h21
        obtain rfl := osi h51
        exact ⟨_, rfl, ⟨_, C, trivial⟩⟩
    · rintro ρ w53 ⟨o10n, rfl, ⟨S52, C, h54⟩⟩
      replace h := h.1 _ rfl
      refine h54.cw fun ρ => ?_
      clear h54
      refine cw_seq fun K55 k56 => ?_
      refine cw_region (sv (asv (.bool true) rfl) (W.e (k56 _ _ (cw_ret ?_))))
      obtain rfl := osi h
      exact ⟨_, rfl, _, rfl, C⟩

noncomputable def marigraphref08_Index_find.b2 (a0 : marigraphref08_Index) (a1 : List api_Label) (x13 : Int) : Option ((Int) ⊕ ((Unit) ⊕ (Int))) :=
  (bif (decide (x13 < (a0.S.length : Int))) then ((at_ a0.S x13).bind fun y33 => ((marigraphref05_Same y33.L a1).bind fun y40 => (bif y40 then some (.inr (.inr x13)) else (pur (IntKind.i64.wrap (x13 + (1 : Int))) fun y49 => some (.inl y49))))) else some (.inr (.inl ())))
noncomputable def marigraphref08_Index_find (a0 : marigraphref08_Index) (a1 : List api_Label) : Option Int :=
  ((iter (fun s : Int => marigraphref08_Index_find.b2 a0 a1 s) (0 : Int)).bind (Sum.elim (fun o3n => some (-1 : Int)) (fun q => some q)))
theorem marigraphref08_Index_find_w {S : Nat → Prop} {w : World} {a0 : marigraphref08_Index} {a1 : List api_Label} {v0 v1 : Value} {cs0 : List Value} {fp0 : List Nat} {r : Int} (hS : Sb S w) (h0 : Ob 29 (marigraphref08_Index.fs a0) S w v0 cs0 fp0) (h1 : Sl (kSl api_Label.k) S w v1 a1) (h : marigraphref08_Index_find a0 a1 = some r) :
    Calls Tryz.prog 47 (List.toArray [v0, v1]) w fun e w1 => ∃ S1, e = .returned (.int .i64 r) ∧ Cx No S w S1 w1 := by
  refine enter Tryz.func47 rfl (by kernel_rfl) rfl ?_
  have C := Cx.refl (F := No) hS
  unfold marigraphref08_Index_find at h
  have hl0 : ∀ b ∈ fp0, b < w.heap.size := fun b hb => (h0.lt b hb).1
  refine cw_seq fun K1 k2 => ?_
  refine cw_region (sv (asv (.int .i64 0) rfl) (W.e (k2 _ _ ?_)))
  obtain ⟨o3, h6, h⟩ := bnds_some h
  refine cw_seq' (fun ρ w1 => ∃ o3n, o3 = (.inl o3n) ∧ ∃ S1, Cx No S w S1 w1 ∧ Has ρ []) ?_ ?_
  · refine cw_seq fun K7 k8 => ?_
    refine cw_region (sv (asv (.int .i64 0) rfl) (W.e (k8 _ _ (cw_block ?_))))
    refine cw_iter h6 (fun s ρ w1 => ∃ S1, Cx No S w S1 w1 ∧ Has ρ [(0, v0), (1, v1), (5, .int .i64 s)] ∧ Sl (kSl api_Label.k) S1 w1 v1 a1 ∧ Ob 29 (marigraphref08_Index.fs a0) S1 w1 v0 cs0 fp0) ⟨_, C, ⟨rfl, rfl, rfl, trivial⟩, h1, h0⟩ ?_
    rintro x13 q9 ρ w11 ⟨S10, C, h12, h1, h0⟩ h15 h14
    refine h12.cw fun ρ => ?_
    clear h12
    replace h15 : marigraphref08_Index_find.b2 a0 a1 x13 = some q9 := h15
    unfold marigraphref08_Index_find.b2 at h15
    refine cw_seq fun K16 k17 => ?_
    refine cw_seq fun K18 k19 => ?_
    refine cw_region (sv (mvv (.int .i64 x13) rfl) (sv (mvv v0 rfl) (sv (rv_nilcheck rfl h0.ptr) (sv (rv_fieldAddr (b := pb v0) (o := 0) st29 rfl h0.ptr) ?_))))
    obtain ⟨c20, h21, h22, h23⟩ := Ob.rowR (i := 0) h0 rfl
    refine sr (rw_ofield (i := 0) (c := c20) h0 ag27 h21 rfl) (sv (rv_lenS el27 h22.sealed rfl) (sv (rv_lss rfl rfl) (W.e (k19 _ _ ?_))))
    rcases bif_some h15 with ⟨b24, h15⟩ | ⟨b24, h15⟩
    · refine cw_t rfl b24 (cw_skip (k17 _ _ ?_))
      refine cw_seq fun K25 k26 => ?_
      refine cw_block ?_
      refine cw_seq fun K27 k28 => ?_
      refine cw_region (sv (mvv v0 rfl) (sv (rv_nilcheck rfl h0.ptr) (sv (rv_fieldAddr (b := pb v0) (o := 0) st29 rfl h0.ptr) ?_)))
      obtain ⟨c29, h30, h31, h32⟩ := Ob.rowR (i := 0) h0 rfl
      refine sr (rw_ofield (i := 0) (c := c29) h0 ag27 h30 rfl) (sv (mvv (.int .i64 x13) rfl) ?_)
      obtain ⟨y33, h34, h15⟩ := bnd_some h15
      refine sv (rv_index el27 h31.sealed rfl rfl h34) (sv (rv_fieldAddr st79 rfl rfl) ?_)
      obtain ⟨cs35, h36, h37⟩ := Ow.cellsO h31 h34
      obtain ⟨c38, rfl, g39⟩ := marigraphref08_Series.r.1 h36
      refine sr (rw_el1 (off := 1) ag31 (h37 _ (Sm.refl _ _)) rfl rfl) (sv (mvv v1 rfl) ?_)
      obtain ⟨y40, h41, h15⟩ := bnd_some h15
      refine sc (dc_call (vs := [c38, v1]) can32 rfl ?_)
      refine (marigraphref05_Same_w C.sb g39 h1 h41).mono ?_
      rintro _ w42 ⟨S43, rfl, c44⟩
      refine ⟨_, rfl, ?_⟩
      replace h0 := h0.cx c44
      replace h1 := h1.cx c44
      replace C := C.trans c44
      refine W.e (k28 _ _ ?_)
      rcases bif_some h15 with ⟨b45, h15⟩ | ⟨b45, h15⟩
      · refine cw_t rfl b45 ?_
        refine cw_seq fun K46 k47 => ?_
        refine cw_region (sv (mvv (.int .i64 x13) rfl) (sv (asv (.int .i64 x13) rfl) (W.e (k47 _ _ (cw_ret ?_)))))
        obtain rfl := osi h15
        have h48 := congrArg some h14
        obtain rfl := osi h48
        replace h := h.2 _ rfl
        obtain rfl := osi h
        exact ⟨_, rfl, _, rfl, C⟩
      · refine cw_f rfl b45 (cw_skip (k26 _ _ (cw_region (sv (mvv (.int .i64 x13) rfl) ?_))))
        obtain ⟨y49, h50, h15⟩ := pur_some h15
        refine sv (rv_add rfl rfl h50) (sv (asv (.int .i64 y49) rfl) (W.e ?_))
        obtain rfl := osi h15
        exact ⟨_, rfl, ⟨_, C, ⟨rfl, rfl, rfl, trivial⟩, h1, h0⟩⟩
    · refine cw_f rfl b24 (cw_exit ?_)
      obtain rfl := osi h15
      have h51 := congrArg some h14
      obtain rfl := osi h51
      exact ⟨_, rfl, ⟨_, C, trivial⟩⟩
  · rintro ρ w53 ⟨o3n, rfl, ⟨S52, C, h54⟩⟩
    replace h := h.1 _ rfl
    refine h54.cw fun ρ => ?_
    clear h54
    refine cw_seq fun K55 k56 => ?_
    refine cw_region (sv (asv (.int .i64 (-1)) rfl) (W.e (k56 _ _ (cw_ret ?_))))
    obtain rfl := osi h
    exact ⟨_, rfl, _, rfl, C⟩

noncomputable def marigraphref01_Taker_End (a0 : marigraphref01_Taker) : Option Int :=
  (((bif a0.Bad then some true else some (decide ((0 : Int) < (a0.B.length : Int)))).bind fun o7 => (bif o7 then some (.inr (6 : Int)) else some (.inl ()))).bind (Sum.elim (fun o3n => some (0 : Int)) (fun q => some q)))
theorem marigraphref01_Taker_End_w {S : Nat → Prop} {w : World} {a0 : marigraphref01_Taker} {v0 : Value} {cs0 : List Value} {fp0 : List Nat} {r : Int} (hS : Sb S w) (h0 : Ob 92 (marigraphref01_Taker.fs a0) S w v0 cs0 fp0) (h : marigraphref01_Taker_End a0 = some r) :
    Calls Tryz.prog 48 (List.toArray [v0]) w fun e w1 => ∃ S1, e = .returned (.int .i64 r) ∧ Cx No S w S1 w1 := by
  refine enter Tryz.func48 rfl (by kernel_rfl) rfl ?_
  have C := Cx.refl (F := No) hS
  unfold marigraphref01_Taker_End at h
  have hl0 : ∀ b ∈ fp0, b < w.heap.size := fun b hb => (h0.lt b hb).1
  refine cw_seq fun K1 k2 => ?_
  refine cw_region (sv (asv (.int .i64 0) rfl) (W.e (k2 _ _ ?_)))
  obtain ⟨o3, h6, h⟩ := bnds_some h
  refine cw_seq' (fun ρ w1 => ∃ o3n, o3 = (.inl o3n) ∧ ∃ S1, Cx No S w S1 w1 ∧ Has ρ []) ?_ ?_
  · obtain ⟨o7, h10, h6⟩ := bnd_some h6
    refine cw_seq' (fun ρ w1 => ∃ S1, Cx No S w S1 w1 ∧ Has ρ [(14, .bool o7)]) ?_ ?_
    · refine cw_region (sv (mvv v0 rfl) (sv (rv_nilcheck rfl h0.ptr) (sv (rv_fieldAddr (b := pb v0) (o := 0) st92 rfl h0.ptr) (sr (rw_ofield (i := 1) (c := .bool a0.Bad) h0 ag4 (h0.sc (i := 1) rfl) rfl) (sv (mvv (.bool a0.Bad) rfl) ?_)))))
      rcases bif_some h10 with ⟨b11, h10⟩ | ⟨b11, h10⟩
      · refine W.n (gn rfl rfl rfl b11) (W.n (gn rfl rfl rfl b11) (W.n (gn rfl rfl rfl b11) (W.n (gn rfl rfl rfl b11) (W.n (gn rfl rfl rfl b11) (W.n (gn rfl rfl rfl b11) (sv (ptk (.bool true) rfl b11 rfl) (W.e ?_)))))))
        obtain rfl := osi h10
        exact ⟨_, C, ⟨rfl, trivial⟩⟩
      · refine W.v (gy rfl rfl rfl b11) (mvv v0 rfl) (W.v (gy rfl rfl rfl b11) (rv_nilcheck rfl h0.ptr) (W.v (gy rfl rfl rfl b11) (rv_fieldAddr (b := pb v0) (o := 0) st92 rfl h0.ptr) ?_))
        obtain ⟨c12, h13, h14⟩ := h0.sl (i := 0) rfl
        refine W.r (gy rfl rfl rfl b11) (rw_ofield (i := 0) (c := c12) h0 ag36 h13 rfl) (W.v (gy rfl rfl rfl b11) (rv_lenS el36 h14 rfl) (W.v (gy rfl rfl rfl b11) (rv_gtr rfl rfl) (sv (pfk (.bool (decide ((0 : Int) < (a0.B.length : Int)))) rfl b11 rfl) (W.e ?_))))
        obtain rfl := osi h10
        exact ⟨_, C, ⟨rfl, trivial⟩⟩
    · rintro ρ w16 ⟨S15, C, h17⟩
      refine h17.cw fun ρ => ?_
      clear h17
      rcases bif_some h6 with ⟨b18, h6⟩ | ⟨b18, h6⟩
      · refine cw_t rfl b18 ?_
        refine cw_seq fun K19 k20 => ?_
        refine cw_region (sv (asv (.int .i64 6) rfl) (W.e (k20 _ _ (cw_ret ?_))))
        obtain rfl := osi h6
        replace h := h.2 _ rfl
        obtain rfl := osi h
        exact ⟨_, rfl, _, rfl, C⟩
      · refine cw_f rfl b18 (cw_skip ?_)
        obtain rfl := osi h6
        exact ⟨_, rfl, ⟨_, C, trivial⟩⟩
  · rintro ρ w22 ⟨o3n, rfl, ⟨S21, C, h23⟩⟩
    replace h := h.1 _ rfl
    refine h23.cw fun ρ => ?_
    clear h23
    refine cw_seq fun K24 k25 => ?_
    refine cw_region (sv (asv (.int .i64 0) rfl) (W.e (k25 _ _ (cw_ret ?_))))
    obtain rfl := osi h
    exact ⟨_, rfl, _, rfl, C⟩

noncomputable def marigraphref08_Open.b4 (y27 : Int × marigraphref01_Taker) (y40 : Int × marigraphref01_Taker) (x102 : Int) (x103 : marigraphref01_Taker) (x104 : marigraphref08_Index) : Option ((Int × marigraphref01_Taker × marigraphref08_Index) ⊕ ((marigraphref01_Taker × marigraphref08_Index) ⊕ ((Option marigraphref08_Index) × Int))) :=
  (pur (IntKind.i64.wrap y40.1) fun y111 => (bif (decide (x102 < y111)) then (((marigraphref01_Taker_Num x103).bind fun y120 => ((marigraphref05_Take y120.2.B).bind fun y137 => (((bif y120.2.Bad then some true else (bif (y137.2.2 != (0 : Int)) then some true else (bif (decide (y27.1 ≤ y120.1)) then some true else (bif (decide ((0 : Int) < x102)) then (pur (IntKind.i64.wrap y120.1) fun y160 => (pur (IntKind.i64.wrap (x102 - (1 : Int))) fun y166 => ((at_ x104.S y166).bind fun y168 => (bif (decide (y160 ≤ y168.Id)) then some true else ((marigraphref08_Index_find x104 y137.1).bind fun y176 => some (decide ((0 : Int) ≤ y176))))))) else ((marigraphref08_Index_find x104 y137.1).bind fun y181 => some (decide ((0 : Int) ≤ y181))))))).bind fun o152 => (bif o152 then some (.inr (.inr (.inr (.inr (none, (6 : Int)))))) else some (.inl ()))).bind (Sum.elim (fun o148n => (pur (IntKind.i64.wrap y120.1) fun y208 => ((app_ 32 x104.S ([(marigraphref08_Series.mk y208 y137.1)] : List marigraphref08_Series)).bind fun y218 => (pur ({ x104 with S := y218 } : marigraphref08_Index) fun y227 => (pur ({ y120.2 with B := y137.2.1 } : marigraphref01_Taker) fun y242 => some (.inl (y242, y227))))))) (fun q => some q))))).bind (Sum.elim (fun o114n => (pur (IntKind.i64.wrap (x102 + (1 : Int))) fun y263 => some (.inl (y263, o114n.1, o114n.2)))) (fun q => some q))) else some (.inr (.inl (x103, x104)))))
noncomputable def marigraphref08_Open (a0 : List Int) : Option ((Option marigraphref08_Index) × Int) :=
  ((app_ 1 ([] : List Int) a0).bind fun y10 => ((marigraphref01_Taker_Num (marigraphref01_Taker.mk y10 false)).bind fun y27 => ((marigraphref01_Taker_Num y27.2).bind fun y40 => (((bif y40.2.Bad then some true else (bif (decide ((4096 : Int) < y27.1)) then some true else some (decide ((200 : Int) < y40.1)))).bind fun o55 => (bif o55 then some (.inr (none, (6 : Int))) else some (.inl ()))).bind (Sum.elim (fun o51n => (pur (IntKind.i64.wrap y27.1) fun y72 => ((iter (fun s : Int × marigraphref01_Taker × marigraphref08_Index => marigraphref08_Open.b4 y27 y40 s.1 s.2.1 s.2.2) ((0 : Int), y40.2, (marigraphref08_Index.mk ([] : List marigraphref08_Series) y72))).bind (Sum.elim (fun o83n => ((marigraphref01_Taker_End o83n.1).bind fun y282 => (bif (y282 != (0 : Int)) then some (none, (6 : Int)) else some (some o83n.2, (0 : Int))))) (fun q => some q))))) (fun q => some q))))))
theorem marigraphref08_Open_w {S : Nat → Prop} {w : World} {a0 : List Int} {v0 : Value} {r : (Option marigraphref08_Index) × Int} (hS : Sb S w) (h0 : Sl (kSl (kI .u8)) S w v0 a0) (h : marigraphref08_Open a0 = some r) :
    Calls Tryz.prog 13 (List.toArray [v0]) w fun e w1 => ∃ S1 u0 us0 up0, e = .returned (.tuple (List.toArray [u0, .int .i64 r.2])) ∧ Cx No S w S1 w1 ∧ Obo 29 marigraphref08_Index.fs S1 w1 u0 r.1 us0 up0 ∧ (∀ b, b ∈ up0 → w.heap.size ≤ b) := by
  refine enter Tryz.func13 rfl (by kernel_rfl) rfl ?_
  have C := Cx.refl (F := No) hS
  unfold marigraphref08_Open at h
  refine cw_seq fun K1 k2 => ?_
  refine cw_region (sv (asv (.pointer none) rfl) (sv (asv (.int .i64 0) rfl) (W.e (k2 _ _ ?_))))
  refine cw_seq fun K3 k4 => ?_
  refine cw_region ?_
  refine sc (dc_lit (vs := []) (xs := ([] : List Int)) (base := w.heap.size) el36 rfl rfl (.nil) (Nat.le_of_ble_eq_true rfl) C.up.size C.sb fun v5 w6 h7 h8 u9 => ?_)
  replace h0 := h0.nw u9
  replace C := C.new u9
  refine sv (mvv v0 rfl) ?_
  obtain ⟨y10, h11, h⟩ := bnd_some h
  have h17 := h7
  refine sc (dc_append el36 (by decide) h17 (h0.src fun _ h => h) rfl rfl h11 C.up.size C.sb fun v12 w13 h14 u15 h16 => ?_)
  replace C := C.ow h17 u15
  replace h0 := h0.or (T := Blk v12)
  replace C := C.sealO h14
  replace h14 := h14.sealed
  refine sv (rv_build (r := [v12, .bool false]) st92 zr92 (by obtain ⟨_, _, rfl⟩ := h14.len; rfl)) ?_
  refine sc (dc_obox (l := marigraphref01_Taker.fs (marigraphref01_Taker.mk y10 false)) (S := (Or S (Blk v12))) (cs := [v12, .bool false]) (.cons ⟨rep_sl.2 ⟨_, rfl, h14⟩, rfl⟩ (.cons ⟨rep_sc.2 rfl, rfl⟩ (.nil))) (by simp) C.sb rfl fun v18 w19 h20 h21 u22 => ?_)
  have h24p := C.up.size
  obtain ⟨fp23, h20, h24, h24fr⟩ : ∃ fp, Ob 92 (marigraphref01_Taker.fs (marigraphref01_Taker.mk y10 false)) (Or S (Blk v12)) w19 v18 [v12, .bool false] fp ∧ (∀ q, q ∈ fp → w.heap.size ≤ q) ∧ ∀ q, q ∈ fp → w13.heap.size ≤ q := ⟨_, h20, fun q hq => by simp at hq; omega, fun q hq => by simp at hq; omega⟩
  replace C := C.new u22
  refine sv (asv v18 rfl) (W.e (k4 _ _ ?_))
  refine cw_seq fun K25 k26 => ?_
  refine cw_region (sv (mvv v18 rfl) ?_)
  obtain ⟨y27, h28, h⟩ := bnd_some h
  refine sc (dc_call (vs := [v18]) can45 rfl ?_)
  refine (marigraphref01_Taker_Num_w C.sb h20 h28).mono ?_
  rintro _ w29 ⟨S30, cs32, fp33, rfl, c31, h34, h35⟩
  refine ⟨_, rfl, ?_⟩
  have h36 : ∀ b, b ∈ fp23 → ¬ (Or S (Blk v12)) b := fun b hb => (h20.lt b hb).2
  have h37 : ∀ b, b ∈ fp33 → w.heap.size ≤ b := fun b hb => (h35 b hb).elim (h24 b) (fun hl => Nat.le_trans C.up.size hl)
  replace C := C.ofc c31 (fun b hb => .inr (h24 b hb))
  refine sv (asv (.int .u64 y27.1) rfl) (W.e (k26 _ _ ?_))
  refine cw_seq fun K38 k39 => ?_
  refine cw_region (sv (mvv v18 rfl) ?_)
  obtain ⟨y40, h41, h⟩ := bnd_some h
  refine sc (dc_call (vs := [v18]) can45 rfl ?_)
  refine (marigraphref01_Taker_Num_w C.sb h34 h41).mono ?_
  rintro _ w42 ⟨S43, cs45, fp46, rfl, c44, h47, h48⟩
  refine ⟨_, rfl, ?_⟩
  have h49 : ∀ b, b ∈ fp33 → ¬ S30 b := fun b hb => (h34.lt b hb).2
  have h50 : ∀ b, b ∈ fp46 → w.heap.size ≤ b := fun b hb => (h48 b hb).elim (h37 b) (fun hl => Nat.le_trans C.up.size hl)
  replace C := C.ofc c44 (fun b hb => .inr (h37 b hb))
  refine sv (asv (.int .u64 y40.1) rfl) (W.e (k39 _ _ ?_))
  obtain ⟨o51, h54, h⟩ := bnds_some h
  refine cw_seq' (fun ρ w1 => ∃ o51n, o51 = (.inl o51n) ∧ ∃ S1, Cx No S w S1 w1 ∧ Has ρ [(4, v18), (5, .int .u64 y27.1), (6, .int .u64 y40.1)] ∧ Ob 92 (marigraphref01_Taker.fs y40.2) S1 w1 v18 cs45 fp46) ?_ ?_
  · obtain ⟨o55, h58, h54⟩ := bnd_some h54
    refine cw_seq' (fun ρ w1 => ∃ S1, Cx No S w S1 w1 ∧ Has ρ [(4, v18), (5, .int .u64 y27.1), (6, .int .u64 y40.1), (33, .bool o55)] ∧ Ob 92 (marigraphref01_Taker.fs y40.2) S1 w1 v18 cs45 fp46) ?_ ?_
    · refine cw_region (sv (mvv v18 rfl) (sv (rv_nilcheck rfl h47.ptr) (sv (rv_fieldAddr (b := pb v18) (o := 0) st92 rfl h47.ptr) (sr (rw_ofield (i := 1) (c := .bool y40.2.Bad) h47 ag4 (h47.sc (i := 1) rfl) rfl) (sv (mvv (.bool y40.2.Bad) rfl) ?_)))))
      rcases bif_some h58 with ⟨b59, h58⟩ | ⟨b59, h58⟩
      · refine W.n (gn rfl rfl rfl b59) (W.n (gn rfl rfl rfl b59) (sv (ptk (.bool true) rfl b59 rfl) (sv (mvv (.bool true) rfl) (W.n (gn rfl rfl rfl rfl) (W.n (gn rfl rfl rfl rfl) (sv (ptk (.bool true) rfl rfl rfl) (W.e ?_)))))))
        obtain rfl := osi h58
        exact ⟨_, C, ⟨rfl, rfl, rfl, rfl, trivial⟩, h47⟩
      · refine W.v (gy rfl rfl rfl b59) (mvv (.int .u64 y27.1) rfl) (W.v (gy rfl rfl rfl b59) (rv_gtr rfl rfl) (sv (pfk (.bool (decide ((4096 : Int) < y27.1))) rfl b59 rfl) (sv (mvv (.bool (decide ((4096 : Int) < y27.1))) rfl) ?_)))
        rcases bif_some h58 with ⟨b60, h58⟩ | ⟨b60, h58⟩
        · refine W.n (gn rfl rfl rfl b60) (W.n (gn rfl rfl rfl b60) (sv (ptk (.bool true) rfl b60 rfl) (W.e ?_)))
          obtain rfl := osi h58
          exact ⟨_, C, ⟨rfl, rfl, rfl, rfl, trivial⟩, h47⟩
        · refine W.v (gy rfl rfl rfl b60) (mvv (.int .u64 y40.1) rfl) (W.v (gy rfl rfl rfl b60) (rv_gtr rfl rfl) (sv (pfk (.bool (decide ((200 : Int) < y40.1))) rfl b60 rfl) (W.e ?_)))
          obtain rfl := osi h58
          exact ⟨_, C, ⟨rfl, rfl, rfl, rfl, trivial⟩, h47⟩
    · rintro ρ w62 ⟨S61, C, h63, h47⟩
      refine h63.cw fun ρ => ?_
      clear h63
      rcases bif_some h54 with ⟨b64, h54⟩ | ⟨b64, h54⟩
      · refine cw_t rfl b64 ?_
        refine cw_seq fun K65 k66 => ?_
        refine cw_region (sv (asv (.pointer none) rfl) (sv (asv (.int .i64 6) rfl) (W.e (k66 _ _ (cw_ret ?_)))))
        obtain rfl := osi h54
        replace h := h.2 _ rfl
        obtain rfl := osi h
        exact ⟨_, rfl, _, _, _, _, rfl, C, ⟨rfl, rfl, rfl⟩, (fun b hb => by cases hb)⟩
      · refine cw_f rfl b64 (cw_skip ?_)
        obtain rfl := osi h54
        exact ⟨_, rfl, ⟨_, C, ⟨rfl, rfl, rfl, trivial⟩, h47⟩⟩
  · rintro ρ w68 ⟨o51n, rfl, ⟨S67, C, h69, h47⟩⟩
    replace h := h.1 _ rfl
    refine h69.cw fun ρ => ?_
    clear h69
    refine cw_seq fun K70 k71 => ?_
    refine cw_region (sv (mvv (.int .u64 y27.1) rfl) ?_)
    obtain ⟨y72, h73, h⟩ := pur_some h
    refine sv (rv_conv Tryz.underlying74 Tryz.underlying3 rfl h73) (sv (rv_build (r := [.slice none 0 0, .int .i64 y72]) st29 zr29 rfl) ?_)
    refine sc (dc_obox (l := marigraphref08_Index.fs (marigraphref08_Index.mk ([] : List marigraphref08_Series) y72)) (S := S67) (cs := [.slice none 0 0, .int .i64 y72]) (.cons (show (fRow marigraphref08_Series.k 79).rep S67 w68 (.slice none 0 0) [] [] from ⟨Ow.nil _ _ _ _ _, rfl⟩) (.cons ⟨rep_sc.2 rfl, rfl⟩ (.nil))) (by simp) C.sb rfl fun v74 w75 h76 h77 u78 => ?_)
    have h80p := C.up.size
    obtain ⟨fp79, h76, h80, h80fr⟩ : ∃ fp, Ob 29 (marigraphref08_Index.fs (marigraphref08_Index.mk ([] : List marigraphref08_Series) y72)) S67 w75 v74 [.slice none 0 0, .int .i64 y72] fp ∧ (∀ q, q ∈ fp → w.heap.size ≤ q) ∧ ∀ q, q ∈ fp → w68.heap.size ≤ q := ⟨_, h76, fun q hq => by simp at hq; omega, fun q hq => by simp at hq; omega⟩
    have h81 := h80fr
    have p82 := ap_fresh h81 (fun b hb => (h47.lt b hb).1)
    replace h47 := h47.nw u78
    replace C := C.new u78
    refine sv (asv v74 rfl) (W.e (k71 _ _ ?_))
    obtain ⟨o83, h86, h⟩ := bnds_some h
    refine cw_seq' (fun ρ w1 => ∃ o83n, o83 = (.inl o83n) ∧ ∃ S1 fp269 cs271 fp273 cs275, Cx No S w S1 w1 ∧ Has ρ [(4, v18), (7, v74)] ∧ Ob 92 (marigraphref01_Taker.fs o83n.1) S1 w1 v18 cs271 fp269 ∧ (∀ b, b ∈ fp269 → w.heap.size ≤ b) ∧ Ob 29 (marigraphref08_Index.fs o83n.2) S1 w1 v74 cs275 fp273 ∧ (∀ b, b ∈ fp273 → w.heap.size ≤ b) ∧ (∀ b, b ∈ fp269 → ¬ b ∈ fp273)) ?_ ?_
    · refine cw_seq fun K87 k88 => ?_
      refine cw_region (sv (asv (.int .i64 0) rfl) (W.e (k88 _ _ (cw_block ?_))))
      refine cw_iter h86 (fun s ρ w1 => ∃ S1 fp93 cs95 fp97 cs99, Cx No S w S1 w1 ∧ Has ρ [(4, v18), (5, .int .u64 y27.1), (6, .int .u64 y40.1), (7, v74), (8, .int .i64 s.1)] ∧ Ob 92 (marigraphref01_Taker.fs s.2.1) S1 w1 v18 cs95 fp93 ∧ (∀ b, b ∈ fp93 → w.heap.size ≤ b) ∧ Ob 29 (marigraphref08_Index.fs s.2.2) S1 w1 v74 cs99 fp97 ∧ (∀ b, b ∈ fp97 → w.heap.size ≤ b) ∧ (∀ b, b ∈ fp93 → ¬ b ∈ fp97)) ⟨_, _, _, _, _, C, ⟨rfl, rfl, rfl, rfl, rfl, trivial⟩, h47, h50, h76, h80, (ap_symm p82)⟩ ?_
      rintro ⟨x102, x103, x104⟩ q89 ρ w91 ⟨S90, fp93, cs95, fp97, cs99, C, h101, h92, h94, h96, h98, p100⟩ h106 h105
      refine h101.cw fun ρ => ?_
      clear h101
      replace h106 : marigraphref08_Open.b4 y27 y40 x102 x103 x104 = some q89 := h106
      unfold marigraphref08_Open.b4 at h106
      refine cw_seq fun K107 k108 => ?_
      refine cw_seq fun K109 k110 => ?_
      refine cw_region (sv (mvv (.int .i64 x102) rfl) (sv (mvv (.int .u64 y40.1) rfl) ?_))
      obtain ⟨y111, h112, h106⟩ := pur_some h106
      refine sv (rv_conv Tryz.underlying74 Tryz.underlying3 rfl h112) (sv (rv_lss rfl rfl) (W.e (k110 _ _ ?_)))
      rcases bif_some h106 with ⟨b113, h106⟩ | ⟨b113, h106⟩
      · refine cw_t rfl b113 (cw_skip (k108 _ _ ?_))
        obtain ⟨o114, h117, h106⟩ := bnds_some h106
        refine cw_seq' (fun ρ w1 => ∃ o114n, o114 = (.inl o114n) ∧ ∃ S1 fp254 cs256 fp258 cs260, Cx No S w S1 w1 ∧ Has ρ [(4, v18), (5, .int .u64 y27.1), (6, .int .u64 y40.1), (7, v74), (8, .int .i64 x102)] ∧ Ob 92 (marigraphref01_Taker.fs o114n.1) S1 w1 v18 cs256 fp254 ∧ (∀ b, b ∈ fp254 → w.heap.size ≤ b) ∧ Ob 29 (marigraphref08_Index.fs o114n.2) S1 w1 v74 cs260 fp258 ∧ (∀ b, b ∈ fp258 → w.heap.size ≤ b) ∧ (∀ b, b ∈ fp254 → ¬ b ∈ fp258)) ?_ ?_
        · refine cw_block ?_
          refine cw_seq fun K118 k119 => ?_
          refine cw_region (sv (mvv v18 rfl) ?_)
          obtain ⟨y120, h121, h117⟩ := bnd_some h117
          refine sc (dc_call (vs := [v18]) can45 rfl ?_)
          refine (marigraphref01_Taker_Num_w C.sb h92 h121).mono ?_
          rintro _ w122 ⟨S123, cs125, fp126, rfl, c124, h127, h128⟩
          refine ⟨_, rfl, ?_⟩
          have h129 : ∀ b, b ∈ fp93 → ¬ S90 b := fun b hb => (h92.lt b hb).2
          have p130 := ap_grow p100 h128 (fun b hb => (h96.lt b hb).1)
          have h131 : ∀ b, b ∈ fp126 → w.heap.size ≤ b := fun b hb => (h128 b hb).elim (h94 b) (fun hl => Nat.le_trans C.up.size hl)
          replace h96 := h96.cf c124 h129 (ap_symm p100)
          replace C := C.ofc c124 (fun b hb => .inr (h94 b hb))
          refine sv (asv (.int .u64 y120.1) rfl) (W.e (k119 _ _ ?_))
          refine cw_seq fun K132 k133 => ?_
          refine cw_region (sv (mvv v18 rfl) (sv (rv_nilcheck rfl h127.ptr) (sv (rv_fieldAddr (b := pb v18) (o := 0) st92 rfl h127.ptr) ?_)))
          obtain ⟨c134, h135, h136⟩ := h127.sl (i := 0) rfl
          refine sr (rw_ofield (i := 0) (c := c134) h127 ag36 h135 rfl) ?_
          obtain ⟨y137, h138, h117⟩ := bnd_some h117
          refine sc (dc_call (vs := [c134]) can46 rfl ?_)
          refine (marigraphref05_Take_w C.sb h136 h138).mono ?_
          rintro _ w139 ⟨S140, v142, v144, rfl, c141, h143, h145⟩
          refine ⟨_, rfl, ?_⟩
          have p146 := ap_fresh (fun b hb => (h145.lt b hb).1) (fun b hb => (h127.lt b hb).1)
          have p147 := ap_fresh (fun b hb => (h145.lt b hb).1) (fun b hb => (h96.lt b hb).1)
          replace h145 := h145.base C.up.size
          replace h127 := h127.cx c141
          replace h96 := h96.cx c141
          replace C := C.trans c141
          refine sv (mvv (.tuple (List.toArray [v142, v144, .int .i64 y137.2.2])) rfl) (sv (rv_extract rfl rfl) (sv (rv_extract rfl rfl) (sv (rv_extract rfl rfl) (sv (asv v142 rfl) (sv (asv v144 rfl) (sv (asv (.int .i64 y137.2.2) rfl) (W.e (k133 _ _ ?_))))))))
          obtain ⟨o148, h151, h117⟩ := bnds_some h117
          refine cw_seq' (fun ρ w1 => ∃ o148n, o148 = (.inl o148n) ∧ ∃ S1, Cx No S w S1 w1 ∧ Has ρ [(4, v18), (5, .int .u64 y27.1), (6, .int .u64 y40.1), (7, v74), (8, .int .i64 x102), (9, .int .u64 y120.1), (10, v142), (11, v144)] ∧ Sl (kSl api_Label.k) S1 w1 v142 y137.1 ∧ Ow (kI .u8) 5 S1 w.heap.size w1 v144 y137.2.1 ∧ Ob 92 (marigraphref01_Taker.fs y120.2) S1 w1 v18 cs125 fp126 ∧ Ob 29 (marigraphref08_Index.fs x104) S1 w1 v74 cs99 fp97 ∧ (∀ b, Blk v144 b → ¬ b ∈ fp126) ∧ (∀ b, Blk v144 b → ¬ b ∈ fp97) ∧ (∀ b, b ∈ fp126 → ¬ b ∈ fp97)) ?_ ?_
          · obtain ⟨o152, h155, h151⟩ := bnd_some h151
            refine cw_seq' (fun ρ w1 => ∃ S1, Cx No S w S1 w1 ∧ Has ρ [(4, v18), (5, .int .u64 y27.1), (6, .int .u64 y40.1), (7, v74), (8, .int .i64 x102), (9, .int .u64 y120.1), (10, v142), (11, v144), (91, .bool o152)] ∧ Sl (kSl api_Label.k) S1 w1 v142 y137.1 ∧ Ow (kI .u8) 5 S1 w.heap.size w1 v144 y137.2.1 ∧ Ob 92 (marigraphref01_Taker.fs y120.2) S1 w1 v18 cs125 fp126 ∧ Ob 29 (marigraphref08_Index.fs x104) S1 w1 v74 cs99 fp97 ∧ (∀ b, Blk v144 b → ¬ b ∈ fp126) ∧ (∀ b, Blk v144 b → ¬ b ∈ fp97) ∧ (∀ b, b ∈ fp126 → ¬ b ∈ fp97)) ?_ ?_
            · refine cw_region (sv (mvv v18 rfl) (sv (rv_nilcheck rfl h127.ptr) (sv (rv_fieldAddr (b := pb v18) (o := 0) st92 rfl h127.ptr) (sr (rw_ofield (i := 1) (c := .bool y120.2.Bad) h127 ag4 (h127.sc (i := 1) rfl) rfl) (sv (mvv (.bool y120.2.Bad) rfl) ?_)))))
              rcases bif_some h155 with ⟨b156, h155⟩ | ⟨b156, h155⟩
              · refine W.n (gn rfl rfl rfl b156) (W.n (gn rfl rfl rfl b156) (sv (ptk (.bool true) rfl b156 rfl) (sv (mvv (.bool true) rfl) (W.n (gn rfl rfl rfl rfl) (W.n (gn rfl rfl rfl rfl) (W.n (gn rfl rfl rfl rfl) (sv (ptk (.bool true) rfl rfl rfl) (sv (mvv (.bool true) rfl) (W.n (gn rfl rfl rfl rfl) (W.n (gn rfl rfl rfl rfl) (W.n (gn rfl rfl rfl rfl) ?_)))))))))))
                refine W.n (gu rfl rfl rfl) (W.n (gu rfl rfl rfl) (W.n (gu rfl rfl rfl) (W.n (gu rfl rfl rfl) (W.n (gu rfl rfl rfl) (W.n (gu rfl rfl rfl) (W.n (gu rfl rfl rfl) (W.n (gu rfl rfl rfl) (W.n (gu rfl rfl rfl) (W.n (gu rfl rfl rfl) (W.n (gu rfl rfl rfl) (W.n (gu rfl rfl rfl) ?_)))))))))))
                refine W.n (gn rfl rfl rfl rfl) (sv (ptk (.bool true) rfl rfl rfl) (sv (mvv (.bool true) rfl) (W.n (gn rfl rfl rfl rfl) (W.n (gn rfl rfl rfl rfl) (W.n (gn rfl rfl rfl rfl) (W.n (gn rfl rfl rfl rfl) (sv (ptk (.bool true) rfl rfl rfl) (W.e ?_))))))))
                obtain rfl := osi h155
                exact ⟨_, C, ⟨rfl, rfl, rfl, rfl, rfl, rfl, rfl, rfl, rfl, trivial⟩, h143, h145, h127, h96, p146, p147, p130⟩
              · refine W.v (gy rfl rfl rfl b156) (mvv (.int .i64 y137.2.2) rfl) (W.v (gy rfl rfl rfl b156) (rv_neq rfl rfl) (sv (pfk (.bool (y137.2.2 != (0 : Int))) rfl b156 rfl) (sv (mvv (.bool (y137.2.2 != (0 : Int))) rfl) ?_)))
                rcases bif_some h155 with ⟨b157, h155⟩ | ⟨b157, h155⟩
                · refine W.n (gn rfl rfl rfl b157) (W.n (gn rfl rfl rfl b157) (W.n (gn rfl rfl rfl b157) (sv (ptk (.bool true) rfl b157 rfl) (sv (mvv (.bool true) rfl) (W.n (gn rfl rfl rfl rfl) (W.n (gn rfl rfl rfl rfl) (W.n (gn rfl rfl rfl rfl) (W.n (gu rfl rfl rfl) (W.n (gu rfl rfl rfl) (W.n (gu rfl rfl rfl) (W.n (gu rfl rfl rfl) ?_)))))))))))
                  refine W.n (gu rfl rfl rfl) (W.n (gu rfl rfl rfl) (W.n (gu rfl rfl rfl) (W.n (gu rfl rfl rfl) (W.n (gu rfl rfl rfl) (W.n (gu rfl rfl rfl) (W.n (gu rfl rfl rfl) (W.n (gu rfl rfl rfl) (W.n (gn rfl rfl rfl rfl) (sv (ptk (.bool true) rfl rfl rfl) (sv (mvv (.bool true) rfl) (W.n (gn rfl rfl rfl rfl) ?_)))))))))))
                  refine W.n (gn rfl rfl rfl rfl) (W.n (gn rfl rfl rfl rfl) (W.n (gn rfl rfl rfl rfl) (sv (ptk (.bool true) rfl rfl rfl) (W.e ?_))))
                  obtain rfl := osi h155
                  exact ⟨_, C, ⟨rfl, rfl, rfl, rfl, rfl, rfl, rfl, rfl, rfl, trivial⟩, h143, h145, h127, h96, p146, p147, p130⟩
                · refine W.v (gy rfl rfl rfl b157) (mvv (.int .u64 y120.1) rfl) (W.v (gy rfl rfl rfl b157) (mvv (.int .u64 y27.1) rfl) (W.v (gy rfl rfl rfl b157) (rv_geq rfl rfl) (sv (pfk (.bool (decide (y27.1 ≤ y120.1))) rfl b157 rfl) (sv (mvv (.bool (decide (y27.1 ≤ y120.1))) rfl) ?_))))
                  rcases bif_some h155 with ⟨b158, h155⟩ | ⟨b158, h155⟩
                  · refine W.n (gn rfl rfl rfl b158) (W.n (gn rfl rfl rfl b158) (W.n (gn rfl rfl rfl b158) (W.n (gu rfl rfl rfl) (W.n (gu rfl rfl rfl) (W.n (gu rfl rfl rfl) (W.n (gu rfl rfl rfl) (W.n (gu rfl rfl rfl) (W.n (gu rfl rfl rfl) (W.n (gu rfl rfl rfl) (W.n (gu rfl rfl rfl) (W.n (gu rfl rfl rfl) ?_)))))))))))
                    refine W.n (gu rfl rfl rfl) (W.n (gu rfl rfl rfl) (W.n (gu rfl rfl rfl) (W.n (gn rfl rfl rfl b158) (sv (ptk (.bool true) rfl b158 rfl) (sv (mvv (.bool true) rfl) (W.n (gn rfl rfl rfl rfl) (W.n (gn rfl rfl rfl rfl) (W.n (gn rfl rfl rfl rfl) (W.n (gn rfl rfl rfl rfl) (sv (ptk (.bool true) rfl rfl rfl) (W.e ?_)))))))))))
                    obtain rfl := osi h155
                    exact ⟨_, C, ⟨rfl, rfl, rfl, rfl, rfl, rfl, rfl, rfl, rfl, trivial⟩, h143, h145, h127, h96, p146, p147, p130⟩
                  · refine W.v (gy rfl rfl rfl b158) (mvv (.int .i64 x102) rfl) (W.v (gy rfl rfl rfl b158) (rv_gtr rfl rfl) (W.v (gy rfl rfl rfl b158) (mvv (.bool (decide ((0 : Int) < x102))) rfl) ?_))
                    rcases bif_some h155 with ⟨b159, h155⟩ | ⟨b159, h155⟩
                    · refine W.v (gy rfl rfl rfl b159) (mvv (.int .u64 y120.1) rfl) ?_
                      obtain ⟨y160, h161, h155⟩ := pur_some h155
                      refine W.v (gy rfl rfl rfl b159) (rv_conv Tryz.underlying74 Tryz.underlying3 rfl h161) (W.v (gy rfl rfl rfl b159) (mvv v74 rfl) (W.v (gy rfl rfl rfl b159) (rv_nilcheck rfl h96.ptr) (W.v (gy rfl rfl rfl b159) (rv_fieldAddr (b := pb v74) (o := 0) st29 rfl h96.ptr) ?_)))
                      obtain ⟨c162, h163, h164, h165⟩ := Ob.rowR (i := 0) h96 rfl
                      refine W.r (gy rfl rfl rfl b159) (rw_ofield (i := 0) (c := c162) h96 ag27 h163 rfl) (W.v (gy rfl rfl rfl b159) (mvv (.int .i64 x102) rfl) ?_)
                      obtain ⟨y166, h167, h155⟩ := pur_some h155
                      refine W.v (gy rfl rfl rfl b159) (rv_sub rfl rfl h167) ?_
                      obtain ⟨y168, h169, h155⟩ := bnd_some h155
                      refine W.v (gy rfl rfl rfl b159) (rv_index el27 h164.sealed rfl rfl h169) (W.v (gy rfl rfl rfl b159) (rv_fieldAddr st79 rfl rfl) ?_)
                      obtain ⟨cs170, h171, h172⟩ := Ow.cellsO h164 h169
                      obtain ⟨c173, rfl, g174⟩ := marigraphref08_Series.r.1 h171
                      refine W.r (gy rfl rfl rfl b159) (rw_el1 (off := 0) ag3 (h172 _ (Sm.refl _ _)) rfl rfl) (W.v (gy rfl rfl rfl b159) (rv_leq rfl rfl) (W.v (gy rfl rfl rfl b158) (ptk (.bool (decide (y160 ≤ y168.Id))) rfl b159 rfl) (sv (pfk (.bool (decide (y160 ≤ y168.Id))) rfl b158 rfl) (sv (mvv (.bool (decide (y160 ≤ y168.Id))) rfl) ?_))))
                      rcases bif_some h155 with ⟨b175, h155⟩ | ⟨b175, h155⟩
                      · refine W.n (gn rfl rfl rfl b175) (W.n (gn rfl rfl rfl b175) (W.n (gn rfl rfl rfl b175) (W.n (gn rfl rfl rfl b175) (sv (ptk (.bool true) rfl b175 rfl) (W.e ?_)))))
                        obtain rfl := osi h155
                        exact ⟨_, C, ⟨rfl, rfl, rfl, rfl, rfl, rfl, rfl, rfl, rfl, trivial⟩, h143, h145, h127, h96, p146, p147, p130⟩
                      · refine W.v (gy rfl rfl rfl b175) (mvv v74 rfl) (W.v (gy rfl rfl rfl b175) (mvv v142 rfl) ?_)
                        obtain ⟨y176, h177, h155⟩ := bnd_some h155
                        refine W.c (gy rfl rfl rfl b175) (dc_call (vs := [v74, v142]) can47 rfl ?_)
                        refine (marigraphref08_Index_find_w C.sb h96 h143 h177).mono ?_
                        rintro _ w178 ⟨S179, rfl, c180⟩
                        refine ⟨_, rfl, ?_⟩
                        replace h127 := h127.cx c180
                        replace h96 := h96.cx c180
                        replace h143 := h143.cx c180
                        replace h145 := h145.cx c180
                        replace C := C.trans c180
                        refine W.v (gy rfl rfl rfl b175) (rv_geq rfl rfl) (sv (pfk (.bool (decide ((0 : Int) ≤ y176))) rfl b175 rfl) (W.e ?_))
                        obtain rfl := osi h155
                        exact ⟨_, C, ⟨rfl, rfl, rfl, rfl, rfl, rfl, rfl, rfl, rfl, trivial⟩, h143, h145, h127, h96, p146, p147, p130⟩
                    · refine W.n (gn rfl rfl rfl b159) (W.n (gn rfl rfl rfl b159) (W.n (gn rfl rfl rfl b159) (W.n (gn rfl rfl rfl b159) (W.n (gn rfl rfl rfl b159) (W.n (gn rfl rfl rfl b159) (W.n (gn rfl rfl rfl b159) (W.n (gn rfl rfl rfl b159) (W.n (gn rfl rfl rfl b159) (W.n (gn rfl rfl rfl b159) (W.n (gn rfl rfl rfl b159) (W.n (gn rfl rfl rfl b159) ?_)))))))))))
                      refine W.v (gy rfl rfl rfl b158) (pfk (.bool false) rfl b159 rfl) (sv (pfk (.bool false) rfl b158 rfl) (sv (mvv (.bool false) rfl) (W.v (gy rfl rfl rfl rfl) (mvv v74 rfl) (W.v (gy rfl rfl rfl rfl) (mvv v142 rfl) ?_))))
                      obtain ⟨y181, h182, h155⟩ := bnd_some h155
                      refine W.c (gy rfl rfl rfl rfl) (dc_call (vs := [v74, v142]) can47 rfl ?_)
                      refine (marigraphref08_Index_find_w C.sb h96 h143 h182).mono ?_
                      rintro _ w183 ⟨S184, rfl, c185⟩
                      refine ⟨_, rfl, ?_⟩
                      replace h127 := h127.cx c185
                      replace h96 := h96.cx c185
                      replace h143 := h143.cx c185
                      replace h145 := h145.cx c185
                      replace C := C.trans c185
                      refine W.v (gy rfl rfl rfl rfl) (rv_geq rfl rfl) (sv (pfk (.bool (decide ((0 : Int) ≤ y181))) rfl rfl rfl) (W.e ?_))
                      obtain rfl := osi h155
                      exact ⟨_, C, ⟨rfl, rfl, rfl, rfl, rfl, rfl, rfl, rfl, rfl, trivial⟩, h143, h145, h127, h96, p146, p147, p130⟩
            · rintro ρ w187 ⟨S186, C, h191, h143, h145, h127, h96, p188, p189, p190⟩
              refine h191.cw fun ρ => ?_
              clear h191
              rcases bif_some h151 with ⟨b192, h151⟩ | ⟨b192, h151⟩
              · refine cw_t rfl b192 ?_
                refine cw_seq fun K193 k194 => ?_
                refine cw_region (sv (asv (.pointer none) rfl) (sv (asv (.int .i64 6) rfl) (W.e (k194 _ _ (cw_ret ?_)))))
                obtain rfl := osi h151
                replace h117 := h117.2 _ rfl
                obtain rfl := osi h117
                replace h106 := h106.2 _ rfl
                obtain rfl := osi h106
                have h195 := congrArg some h105
                obtain rfl := osi h195
                replace h := h.2 _ rfl
                obtain rfl := osi h
                exact ⟨_, rfl, _, _, _, _, rfl, C, ⟨rfl, rfl, rfl⟩, (fun b hb => by cases hb)⟩
              · refine cw_f rfl b192 (cw_skip ?_)
                obtain rfl := osi h151
                exact ⟨_, rfl, ⟨_, C, ⟨rfl, rfl, rfl, rfl, rfl, rfl, rfl, rfl, trivial⟩, h143, h145, h127, h96, p188, p189, p190⟩⟩
          · rintro ρ w197 ⟨o148n, rfl, ⟨S196, C, h201, h143, h145, h127, h96, p198, p199, p200⟩⟩
            replace h117 := h117.1 _ rfl
            refine h201.cw fun ρ => ?_
            clear h201
            refine cw_seq fun K202 k203 => ?_
            refine cw_region (sv (mvv v74 rfl) (sv (mvv v74 rfl) (sv (rv_nilcheck rfl h96.ptr) (sv (rv_fieldAddr (b := pb v74) (o := 0) st29 rfl h96.ptr) ?_))))
            obtain ⟨c204, h205, h206, h207⟩ := Ob.rowR (i := 0) h96 rfl
            refine sr (rw_ofield (i := 0) (c := c204) h96 ag27 h205 rfl) (sv (mvv (.int .u64 y120.1) rfl) ?_)
            obtain ⟨y208, h209, h117⟩ := pur_some h117
            refine sv (rv_conv Tryz.underlying74 Tryz.underlying3 rfl h209) (sv (mvv v142 rfl) (sv (rv_build (r := [.int .i64 y208, v142]) st79 zr79 (by obtain ⟨_, _, rfl⟩ := h143.len; rfl)) ?_))
            refine sc (dc_lit (vs := [.agg (List.toArray [.int .i64 y208, v142])]) (xs := ([(marigraphref08_Series.mk y208 y137.1)] : List marigraphref08_Series)) (base := w.heap.size) el27 rfl rfl (.cons (marigraphref08_Series.o.2 ⟨_, rfl, h143⟩) (.nil)) (Nat.le_of_ble_eq_true rfl) C.up.size C.sb fun v210 w211 h212 h213 u214 => ?_)
            have p215 := ap_fresh h213 (fun b hb => (h96.lt b hb).1)
            have p216 := ap_fresh h213 (fun b hb => (h127.lt b hb).1)
            have p217 := ap_fresh h213 (fun b hb => (h145.lt b hb).2)
            replace h206 := h206.nw u214
            replace h96 := h96.nw u214
            replace h127 := h127.nw u214
            replace h145 := h145.nw u214
            replace C := C.new u214
            obtain ⟨y218, h219, h117⟩ := bnd_some h117
            refine sc (dc_append el27 (by decide) h206 h212.src rfl rfl h219 (Nat.zero_le _) C.sb fun v220 w221 h222 u223 h224 => ?_)
            have h225 : ∀ b, Blk v220 b → Blk c204 b ∨ b ∉ fp97 := fun b hq => (h224 b hq).imp id fun hl hm => absurd (h96.lt b hm).1 (Nat.not_lt_of_le hl)
            have h226 : ∀ b, Blk v220 b → b ∈ fp97 ∨ w211.heap.size ≤ b := fun b hq => (h224 b hq).imp (fun hl => (h207 b hl).1) id
            refine sv (rv_nilcheck rfl h96.ptr) (sv (rv_fieldAddr (b := pb v74) (o := 0) st29 rfl h96.ptr) ?_)
            obtain ⟨y227, h228, h117⟩ := pur_some h117
            refine sc (dc_ofieldR (i := 0) (k := marigraphref08_Series.k) (er := 79) (xs := y218) h96 rfl h205 u223 h222 h225 ag27 rfl rfl fun w229 fp233 h230 h234 u231 => ?_)
            replace h230 : Ob 29 (marigraphref08_Index.fs ({ x104 with S := y218 } : marigraphref08_Index)) S196 w229 v74 (cs99.set 0 v220) fp233 := h230
            rw [h228] at h230
            obtain ⟨cs237, h238⟩ : ∃ cs, cs = cs99.set 0 v220 := ⟨_, rfl⟩
            rw [← h238] at h230
            have h235 : ∀ b, b ∈ fp97 → ¬ S196 b := fun b hb => (h96.lt b hb).2
            have c232 := Cx.ofUp C.sb u231
            have h236 : ∀ b, b ∈ fp233 → b ∈ fp97 ∨ w211.heap.size ≤ b := fun b hb => (h234 b hb).elim .inl (h226 b)
            have p239 := ap_grow (ap_symm p200) h236 (fun b hb => (h127.lt b hb).1)
            have p240 := ap_grow (ap_symm p199) h236 (fun b hb => (h145.lt b hb).2)
            have h241 : ∀ b, b ∈ fp233 → w.heap.size ≤ b := fun b hb => (h236 b hb).elim (h98 b) (fun hl => Nat.le_trans C.up.size hl)
            replace h127 := h127.cf c232 h235 p200
            replace h145 := h145.cf c232 h235 p199
            replace C := C.ofc c232 (fun b hb => .inr (h98 b hb))
            refine W.e (k203 _ _ (cw_region (sv (mvv v18 rfl) (sv (mvv v144 rfl) (sv (rv_nilcheck rfl h127.ptr) (sv (rv_fieldAddr (b := pb v18) (o := 0) st92 rfl h127.ptr) ?_))))))
            replace h127 := h127.or (ap_symm p198)
            replace h230 := h230.or p240
            replace C := C.sealO h145
            replace h145 := h145.sealed
            obtain ⟨y242, h243, h117⟩ := pur_some h117
            have h248 : ∀ b, b ∈ fp126 → ¬ (Or S196 (Blk v144)) b := fun b hb => (h127.lt b hb).2
            refine sc (dc_ofield (i := 0) (k := (kSl (kI .u8))) (h1 := rfl) (a' := y137.2.1) h127 rfl ag36 rfl rfl (rep_sl.2 ⟨_, rfl, h145⟩) fun w244 h245 u246 => ?_)
            replace h245 : Ob 92 (marigraphref01_Taker.fs ({ y120.2 with B := y137.2.1 } : marigraphref01_Taker)) (Or S196 (Blk v144)) w244 v18 (cs125.set 0 v144) fp126 := h245
            rw [h243] at h245
            obtain ⟨cs249, h250⟩ : ∃ cs, cs = cs125.set 0 v144 := ⟨_, rfl⟩
            rw [← h250] at h245
            have c247 := Cx.ofUp C.sb u246
            replace h230 := h230.cf c247 h248 p239
            replace C := C.ofc c247 (fun b hb => .inr (h131 b hb))
            refine W.e ?_
            obtain rfl := osi h117
            exact ⟨_, rfl, ⟨_, _, _, _, _, C, ⟨rfl, rfl, rfl, rfl, rfl, trivial⟩, h245, h131, h230, h241, (ap_symm p239)⟩⟩
        · rintro ρ w252 ⟨o114n, rfl, ⟨S251, fp254, cs256, fp258, cs260, C, h262, h253, h255, h257, h259, p261⟩⟩
          replace h106 := h106.1 _ rfl
          refine h262.cw fun ρ => ?_
          clear h262
          refine cw_region (sv (mvv (.int .i64 x102) rfl) ?_)
          obtain ⟨y263, h264, h106⟩ := pur_some h106
          refine sv (rv_add rfl rfl h264) (sv (asv (.int .i64 y263) rfl) (W.e ?_))
          obtain rfl := osi h106
          exact ⟨_, rfl, ⟨_, _, _, _, _, C, ⟨rfl, rfl, rfl, rfl, rfl, trivial⟩, h253, h255, h257, h259, p261⟩⟩
      · refine cw_f rfl b113 (cw_exit ?_)
        obtain rfl := osi h106
        have h265 := congrArg some h105
        obtain rfl := osi h265
        exact ⟨_, rfl, ⟨_, _, _, _, _, C, ⟨rfl, rfl, trivial⟩, h92, h94, h96, h98, p100⟩⟩
    · rintro ρ w267 ⟨o83n, rfl, ⟨S266, fp269, cs271, fp273, cs275, C, h277, h268, h270, h272, h274, p276⟩⟩
      replace h := h.1 _ rfl
      refine h277.cw fun ρ => ?_
      clear h277
      refine cw_seq fun K278 k279 => ?_
      refine cw_seq fun K280 k281 => ?_
      refine cw_region (sv (mvv v18 rfl) ?_)
      obtain ⟨y282, h283, h⟩ := bnd_some h
      refine sc (dc_call (vs := [v18]) can48 rfl ?_)
      refine (marigraphref01_Taker_End_w C.sb h268 h283).mono ?_
      rintro _ w284 ⟨S285, rfl, c286⟩
      refine ⟨_, rfl, ?_⟩
      replace h272 := h272.cx c286
      replace C := C.trans c286
      refine sv (rv_neq rfl rfl) (W.e (k281 _ _ ?_))
      rcases bif_some h with ⟨b287, h⟩ | ⟨b287, h⟩
      · refine cw_t rfl b287 ?_
        refine cw_seq fun K288 k289 => ?_
        refine cw_region (sv (asv (.pointer none) rfl) (sv (asv (.int .i64 6) rfl) (W.e (k289 _ _ (cw_ret ?_)))))
        obtain rfl := osi h
        exact ⟨_, rfl, _, _, _, _, rfl, C, ⟨rfl, rfl, rfl⟩, (fun b hb => by cases hb)⟩
      · refine cw_f rfl b287 (cw_skip (k279 _ _ ?_))
        refine cw_seq fun K290 k291 => ?_
        refine cw_region (sv (mvv v74 rfl) (sv (asv v74 rfl) (sv (asv (.int .i64 0) rfl) (W.e (k291 _ _ (cw_ret ?_))))))
        obtain rfl := osi h
        exact ⟨_, rfl, _, _, _, _, rfl, C, h272, h274⟩

noncomputable def index_Index_Bytes.b2 (y15 : index_Index) (y52 : (List Int)) (x68 : List Int) (x69 : Int) : Option (((List Int) × Int) ⊕ ((List Int))) :=
  (bif (decide (x69 < (y52.length : Int))) then ((at_ y52 x69).bind fun y81 => ((label_Put ((mget y81 y15.series).getD ([] : List api_Label))).bind fun y90 => (pur (IntKind.u64.wrap y81) fun y100 => ((octs_Put x68 y100).bind fun y102 => ((app_ 1 y102 y90.1).bind fun y112 => (pur (IntKind.i64.wrap (x69 + (1 : Int))) fun y122 => some (.inl (y112, y122)))))))) else some (.inr x68))
noncomputable def index_Index_Bytes (a0 : Option index_Index) : Option (List Int) :=
  (bif a0.isNone then some ([] : List Int) else ((a0).bind fun y15 => (pur (IntKind.u64.wrap y15.given) fun y18 => ((octs_Put ([] : List Int) y18).bind fun y22 => (pur (IntKind.u64.wrap (y15.series.length : Int)) fun y34 => ((octs_Put y22 y34).bind fun y36 => (((index_Index_all y15).bind fun y52 => (iter (fun s : (List Int) × Int => index_Index_Bytes.b2 y15 y52 s.1 s.2) (y36, (0 : Int)))).bind fun o46 => some o46)))))))
theorem index_Index_Bytes_w {S : Nat → Prop} {w : World} {a0 : Option index_Index} {v0 : Value} {cs0 : List Value} {fp0 : List Nat} {r : (List Int)} (hS : Sb S w) (h0 : Obo 61 index_Index.fs S w v0 a0 cs0 fp0) (h : index_Index_Bytes a0 = some r) :
    Calls Tryz.prog 10 (List.toArray [v0]) w fun e w1 => ∃ S1 u0, e = .returned (u0) ∧ Cx No S w S1 w1 ∧ Ow (kI .u8) 5 S1 w.heap.size w1 u0 r := by
  refine enter Tryz.func10 rfl (by kernel_rfl) rfl ?_
  have C := Cx.refl (F := No) hS
  unfold index_Index_Bytes at h
  have hl0 : ∀ b ∈ fp0, b < w.heap.size := fun b hb => (h0.lt b hb).1
  refine cw_seq fun K1 k2 => ?_
  refine cw_region (sv (asv (.slice none 0 0) rfl) (W.e (k2 _ _ ?_)))
  refine cw_seq fun K3 k4 => ?_
  refine cw_seq fun K5 k6 => ?_
  refine cw_region (sv (mvv v0 rfl) (sv (rv_nileq Tryz.underlying24 rfl rfl h0.ne) (W.e (k6 _ _ ?_))))
  rcases bif_some h with ⟨b7, h⟩ | ⟨b7, h⟩
  · refine cw_t rfl b7 ?_
    refine cw_seq fun K8 k9 => ?_
    refine cw_region (sv (asv (.slice none 0 0) rfl) (W.e (k9 _ _ (cw_ret ?_))))
    obtain rfl := osi h
    exact ⟨_, rfl, _, _, rfl, C, Ow.nil _ _ _ _ _⟩
  · refine cw_f rfl b7 (cw_skip (k4 _ _ ?_))
    refine cw_seq fun K10 k11 => ?_
    refine cw_drawU (.one 0 true (.one 1 true (.one 2 true (.one 3 true (.one 4 true (.one 6 true (.one 7 true (.one 8 true (.one 9 true (.one 5 false (.one 10 false (.one 11 true (.one 12 false (.one 13 true .done)))))))))))))) [(3, [10]), (9, [10])] [(5, [10]), (10, [10]), (12, [10])] (fun c => bif Nat.beq c 10 then (One (pb v0)) else No) fol (by kernel_rfl) fun w12 u13 => ?_
    replace h0 := h0.nw u13
    replace C := C.new u13
    have h0d := h0
    have m14 := Sm.refl (One (pb v0)) w12
    refine mtv rfl rfl (mvv v0 rfl) ?_
    obtain ⟨y15, h16, h⟩ := bnd_some h
    have h17 := h0
    rw [h16] at h17
    replace h17 : Ob 61 (index_Index.fs y15) _ _ _ _ _ := h17
    have h17d := h17
    refine mtv rfl rfl (rv_nilcheck rfl h17.ptr) (mtv rfl rfl (rv_fieldAddr (b := pb v0) (o := 0) st61 rfl h17.ptr) (mtr rfl rfl ⟨m14, trivial⟩ (fun w' hq => rw_ofieldU (i := 4) (c := .int .i64 y15.given) h17 hq.1 ag3 (h17.sc (i := 4) rfl) rfl) ?_))
    obtain ⟨y18, h19, h⟩ := pur_some h
    refine mtv rfl rfl (rv_conv Tryz.underlying3 Tryz.underlying74 rfl h19) (mtv rfl rfl (mvv v0 rfl) (mtv rfl rfl (rv_nilcheck rfl h17.ptr) (mtv rfl rfl (rv_fieldAddr (b := pb v0) (o := 0) st61 rfl h17.ptr) ?_)))
    obtain ⟨c20, h21⟩ := h17.at (i := 0) rfl
    refine mtr rfl rfl ⟨m14, trivial⟩ (fun w' hq => rw_ofieldU (i := 0) (c := c20) h17 hq.1 ag56 h21 rfl) ?_
    obtain ⟨y22, h23, h⟩ := bnd_some h
    refine mtc rfl rfl (dc_call (vs := [.slice none 0 0, .int .u64 y18]) can33 rfl ?_)
    refine (octs_Put_w C.sb (sl_nil _ _ _) h23).mono ?_
    rintro _ w24 ⟨S25, v27, rfl, c26, h28⟩
    refine ⟨_, rfl, ?_⟩
    have p29 := ap_fresh (fun b hb => (h28.lt b hb).1) (fun b hb => (h17.lt b hb).1)
    replace h28 := h28.base C.up.size
    replace h17 := h17.cx c26
    replace h0 := h0.cx c26
    replace C := C.trans c26
    have z30 := (c26.up).size
    have m31 := m14.nx c26.up (by omega)
    refine ⟨⟨m31, trivial⟩, ?_⟩
    obtain ⟨_, h32, h33⟩ := Ob.rep h17 (i := 0) rfl h21
    refine mtc rfl rfl (Rw.does (rep_mlen h32 Tryz.underlying56 (Sm.refl _ _) rfl) ⟨⟨m31, trivial⟩, ?_⟩)
    obtain ⟨y34, h35, h⟩ := pur_some h
    refine mtv rfl rfl (rv_conv Tryz.underlying3 Tryz.underlying74 rfl h35) ?_
    replace h17 := h17.or (ap_symm p29)
    replace h0 := h0.or (ap_symm p29)
    replace C := C.sealO h28
    replace h28 := h28.sealed
    obtain ⟨y36, h37, h⟩ := bnd_some h
    refine mtc rfl rfl (dc_call (vs := [v27, .int .u64 y34]) can33 rfl ?_)
    refine (octs_Put_w C.sb h28 h37).mono ?_
    rintro _ w38 ⟨S39, v41, rfl, c40, h42⟩
    refine ⟨_, rfl, ?_⟩
    have p43 := ap_fresh (fun b hb => (h42.lt b hb).1) (fun b hb => (h17.lt b hb).1)
    replace h42 := h42.base C.up.size
    replace h17 := h17.cx c40
    replace h0 := h0.cx c40
    replace C := C.trans c40
    have z44 := (c40.up).size
    have m45 := m31.nx c40.up (by omega)
    refine ⟨⟨m45, trivial⟩, ?_⟩
    refine mtv rfl rfl (asv v41 rfl) (MT.e (k11 _ _ ?_))
    obtain ⟨o46, h49, h⟩ := bnd_some h
    refine cw_seq' (fun ρ w1 => ∃ S1 v127, Cx No S w S1 w1 ∧ Has ρ [(3, v127)] ∧ Ow (kI .u8) 5 S1 w.heap.size w1 v127 o46) ?_ ?_
    · refine cw_seq fun K50 k51 => ?_
      refine cw_region (sv (mvv v0 rfl) ?_)
      obtain ⟨y52, h53, h49⟩ := bnd_some h49
      refine sc (dc_call (vs := [v0]) can34 rfl ?_)
      refine (index_Index_all_w C.sb h17 h53).mono ?_
      rintro _ w54 ⟨S55, v57, rfl, c56, h58⟩
      refine ⟨_, rfl, ?_⟩
      have p59 := ap_fresh (fun b hb => (h58.lt b hb).1) (fun b hb => (h17.lt b hb).1)
      have p60 := ap_fresh (fun b hb => (h58.lt b hb).1) (fun b hb => (h42.lt b hb).2)
      replace h58 := h58.base C.up.size
      replace h17 := h17.cx c56
      replace h0 := h0.cx c56
      replace h42 := h42.cx c56
      replace C := C.trans c56
      refine sv (rv_lenS el49 h58.sealed rfl) (sv (mvv (.int .i64 0) rfl) (W.e (k51 _ _ (cw_block ?_))))
      refine cw_iter h49 (fun s ρ w1 => ∃ S1 v64, Cx No S w S1 w1 ∧ Has ρ [(0, v0), (3, v64), (24, v57), (25, .int .i64 (y52.length : Int)), (26, .int .i64 s.2)] ∧ Ow (kI .u8) 5 S1 w.heap.size w1 v64 s.1 ∧ Ow (kI .i64) 3 S1 w.heap.size w1 v57 y52 ∧ Obo 61 index_Index.fs S1 w1 v0 a0 cs0 fp0 ∧ Ob 61 (index_Index.fs y15) S1 w1 v0 cs0 fp0 ∧ Ap v64 v57) ⟨_, _, C, ⟨rfl, rfl, rfl, rfl, rfl, trivial⟩, h42, h58, h0, h17, (ap_symm p60)⟩ ?_
      rintro ⟨x68, x69⟩ q61 ρ w63 ⟨S62, v64, C, h67, h65, h58, h0, h17, p66⟩ h71 h70
      refine h67.cw fun ρ => ?_
      clear h67
      replace h71 : index_Index_Bytes.b2 y15 y52 x68 x69 = some q61 := h71
      unfold index_Index_Bytes.b2 at h71
      refine cw_seq fun K72 k73 => ?_
      refine cw_region (sv (rv_lss rfl rfl) (W.e (k73 _ _ ?_)))
      refine cw_seq fun K74 k75 => ?_
      rcases bif_some h71 with ⟨b76, h71⟩ | ⟨b76, h71⟩
      · refine cw_t rfl b76 (cw_skip (k75 _ _ ?_))
        refine cw_seq fun K77 k78 => ?_
        refine cw_block ?_
        refine cw_seq fun K79 k80 => ?_
        refine cw_region ?_
        obtain ⟨y81, h82, h71⟩ := bnd_some h71
        refine sv (rv_index el49 h58.sealed rfl rfl h82) (sr (rw_loadC el49 h58.sealed h82 rfl _ (Sm.refl _ _)) (sv (asv (.int .i64 y81) rfl) (W.e (k80 _ _ ?_))))
        refine cw_seq fun K83 k84 => ?_
        refine cw_region (sv (mvv v0 rfl) (sv (rv_nilcheck rfl h17.ptr) (sv (rv_fieldAddr (b := pb v0) (o := 0) st61 rfl h17.ptr) (sr (rw_ofield (i := 0) (c := c20) h17 ag56 h21 rfl) (sv (mvv (.int .i64 y81) rfl) ?_)))))
        obtain ⟨_, h85, h86⟩ := Ob.rep h17 (i := 0) rfl h21
        obtain ⟨v87, h88, h89⟩ := rep_look (P := Tryz.prog) (tm := 56) (te := 31) (y0 := ([] : List api_Label)) h85 Tryz.underlying56 zv31 (sl_nil _ _ _) y81
        refine sr ((h89 (Sm.refl _ _) rfl rfl).1) ?_
        obtain ⟨y90, h91, h71⟩ := bnd_some h71
        refine sc (dc_call (vs := [v87]) can35 rfl ?_)
        refine (label_Put_w C.sb h88 h91).mono ?_
        rintro _ w92 ⟨S93, v95, rfl, c94, h96⟩
        refine ⟨_, rfl, ?_⟩
        have p97 := ap_fresh (fun b hb => (h96.lt b hb).1) (fun b hb => (h17.lt b hb).1)
        have p98 := ap_fresh (fun b hb => (h96.lt b hb).1) (fun b hb => (h65.lt b hb).2)
        have p99 := ap_fresh (fun b hb => (h96.lt b hb).1) (fun b hb => (h58.lt b hb).2)
        replace h96 := h96.base C.up.size
        replace h17 := h17.cx c94
        replace h0 := h0.cx c94
        replace h65 := h65.cx c94
        replace h58 := h58.cx c94
        replace C := C.trans c94
        refine sv (mvv (.tuple (List.toArray [v95, .int .i64 y90.2])) rfl) (sv (rv_extract rfl rfl) (sv (rv_extract rfl rfl) (sv (asv v95 rfl) (sv (asv (.int .i64 y90.2) rfl) (W.e (k84 _ _ (cw_region (sv (mvv v64 rfl) (sv (mvv (.int .i64 y81) rfl) ?_)))))))))
        obtain ⟨y100, h101, h71⟩ := pur_some h71
        refine sv (rv_conv Tryz.underlying3 Tryz.underlying74 rfl h101) ?_
        replace h17 := h17.or (fun b hq hb => absurd (h65.lt b hb).1 (Nat.not_le_of_lt (hl0 b hq)))
        replace h0 := h0.or (fun b hq hb => absurd (h65.lt b hb).1 (Nat.not_le_of_lt (hl0 b hq)))
        replace h96 := h96.or p98
        replace h58 := h58.or (ap_symm p66)
        replace C := C.sealO h65
        replace h65 := h65.sealed
        obtain ⟨y102, h103, h71⟩ := bnd_some h71
        refine sc (dc_call (vs := [v64, .int .u64 y100]) can33 rfl ?_)
        refine (octs_Put_w C.sb h65 h103).mono ?_
        rintro _ w104 ⟨S105, v107, rfl, c106, h108⟩
        refine ⟨_, rfl, ?_⟩
        have p109 := ap_fresh (fun b hb => (h108.lt b hb).1) (fun b hb => (h17.lt b hb).1)
        have p110 := ap_fresh (fun b hb => (h108.lt b hb).1) (fun b hb => (h96.lt b hb).2)
        have p111 := ap_fresh (fun b hb => (h108.lt b hb).1) (fun b hb => (h58.lt b hb).2)
        replace h108 := h108.base C.up.size
        replace h17 := h17.cx c106
        replace h0 := h0.cx c106
        replace h96 := h96.cx c106
        replace h58 := h58.cx c106
        replace C := C.trans c106
        refine sv (mvv v95 rfl) ?_
        obtain ⟨y112, h113, h71⟩ := bnd_some h71
        have h119 := h108
        refine sc (dc_append el36 (by decide) h119 h96.src rfl rfl h113 C.up.size C.sb fun v114 w115 h116 u117 h118 => ?_)
        have p120 := ap_grow p109 h118 (fun b hb => (h17.lt b hb).1)
        have p121 := ap_grow p111 h118 (fun b hb => (h58.lt b hb).2)
        replace h17 := h17.wr u117 h119.not (ap_symm p109)
        replace h0 := h0.wr u117 h119.not (ap_symm p109)
        replace h58 := h58.wr u117 h119.not (ap_symm p111)
        replace C := C.ow h119 u117
        refine sv (asv v114 rfl) (W.e (k78 _ _ (cw_region ?_)))
        obtain ⟨y122, h123, h71⟩ := pur_some h71
        refine sv (rv_add rfl rfl h123) (sv (mvv (.int .i64 y122) rfl) (W.e ?_))
        obtain rfl := osi h71
        exact ⟨_, rfl, ⟨_, _, C, ⟨rfl, rfl, rfl, rfl, rfl, trivial⟩, h116, h58, h0, h17, p121⟩⟩
      · refine cw_f rfl b76 (cw_exit ?_)
        obtain rfl := osi h71
        have h124 := congrArg some h70
        obtain rfl := osi h124
        exact ⟨_, _, C, ⟨rfl, trivial⟩, h65⟩
    · rintro ρ w126 ⟨S125, v127, C, h129, h128⟩
      refine h129.cw fun ρ => ?_
      clear h129
      refine cw_seq fun K130 k131 => ?_
      refine cw_region (sv (mvv v127 rfl) (sv (asv v127 rfl) (W.e (k131 _ _ (cw_ret ?_)))))
      obtain rfl := osi h
      exact ⟨_, rfl, _, _, rfl, C, h128⟩

noncomputable def marigraphref08_Index_at.b2 (a0 : marigraphref08_Index) (a1 : Int) (x13 : Int) : Option ((Int) ⊕ ((Unit) ⊕ (Int))) :=
  (bif (decide (x13 < (a0.S.length : Int))) then ((at_ a0.S x13).bind fun y33 => (bif (y33.Id == a1) then some (.inr (.inr x13)) else (pur (IntKind.i64.wrap (x13 + (1 : Int))) fun y44 => some (.inl y44)))) else some (.inr (.inl ())))
noncomputable def marigraphref08_Index_at (a0 : marigraphref08_Index) (a1 : Int) : Option Int :=
  ((iter (fun s : Int => marigraphref08_Index_at.b2 a0 a1 s) (0 : Int)).bind (Sum.elim (fun o3n => some (-1 : Int)) (fun q => some q)))
theorem marigraphref08_Index_at_w {S : Nat → Prop} {w : World} {a0 : marigraphref08_Index} {a1 : Int} {v0 : Value} {cs0 : List Value} {fp0 : List Nat} {r : Int} (hS : Sb S w) (h0 : Ob 29 (marigraphref08_Index.fs a0) S w v0 cs0 fp0) (h : marigraphref08_Index_at a0 a1 = some r) :
    Calls Tryz.prog 54 (List.toArray [v0, .int .i64 a1]) w fun e w1 => ∃ S1, e = .returned (.int .i64 r) ∧ Cx No S w S1 w1 := by
  refine enter Tryz.func54 rfl (by kernel_rfl) rfl ?_
  have C := Cx.refl (F := No) hS
  unfold marigraphref08_Index_at at h
  have hl0 : ∀ b ∈ fp0, b < w.heap.size := fun b hb => (h0.lt b hb).1
  refine cw_seq fun K1 k2 => ?_
  refine cw_region (sv (asv (.int .i64 0) rfl) (W.e (k2 _ _ ?_)))
  obtain ⟨o3, h6, h⟩ := bnds_some h
  refine cw_seq' (fun ρ w1 => ∃ o3n, o3 = (.inl o3n) ∧ ∃ S1, Cx No S w S1 w1 ∧ Has ρ []) ?_ ?_
  · refine cw_seq fun K7 k8 => ?_
    refine cw_region (sv (asv (.int .i64 0) rfl) (W.e (k8 _ _ (cw_block ?_))))
    refine cw_iter h6 (fun s ρ w1 => ∃ S1, Cx No S w S1 w1 ∧ Has ρ [(0, v0), (1, .int .i64 a1), (5, .int .i64 s)] ∧ Ob 29 (marigraphref08_Index.fs a0) S1 w1 v0 cs0 fp0) ⟨_, C, ⟨rfl, rfl, rfl, trivial⟩, h0⟩ ?_
    rintro x13 q9 ρ w11 ⟨S10, C, h12, h0⟩ h15 h14
    refine h12.cw fun ρ => ?_
    clear h12
    replace h15 : marigraphref08_Index_at.b2 a0 a1 x13 = some q9 := h15
    unfold marigraphref08_Index_at.b2 at h15
    refine cw_seq fun K16 k17 => ?_
    refine cw_seq fun K18 k19 => ?_
    refine cw_region (sv (mvv (.int .i64 x13) rfl) (sv (mvv v0 rfl) (sv (rv_nilcheck rfl h0.ptr) (sv (rv_fieldAddr (b := pb v0) (o := 0) st29 rfl h0.ptr) ?_))))
    obtain ⟨c20, h21, h22, h23⟩ := Ob.rowR (i := 0) h0 rfl
    refine sr (rw_ofield (i := 0) (c := c20) h0 ag27 h21 rfl) (sv (rv_lenS el27 h22.sealed rfl) (sv (rv_lss rfl rfl) (W.e (k19 _ _ ?_))))
    rcases bif_some h15 with ⟨b24, h15⟩ | ⟨b24, h15⟩
    · refine cw_t rfl b24 (cw_skip (k17 _ _ ?_))
      refine cw_seq fun K25 k26 => ?_
      refine cw_block ?_
      refine cw_seq fun K27 k28 => ?_
      refine cw_region (sv (mvv v0 rfl) (sv (rv_nilcheck rfl h0.ptr) (sv (rv_fieldAddr (b := pb v0) (o := 0) st29 rfl h0.ptr) ?_)))
      obtain ⟨c29, h30, h31, h32⟩ := Ob.rowR (i := 0) h0 rfl
      refine sr (rw_ofield (i := 0) (c := c29) h0 ag27 h30 rfl) (sv (mvv (.int .i64 x13) rfl) ?_)
      obtain ⟨y33, h34, h15⟩ := bnd_some h15
      refine sv (rv_index el27 h31.sealed rfl rfl h34) (sv (rv_fieldAddr st79 rfl rfl) ?_)
      obtain ⟨cs35, h36, h37⟩ := Ow.cellsO h31 h34
      obtain ⟨c38, rfl, g39⟩ := marigraphref08_Series.r.1 h36
      refine sr (rw_el1 (off := 0) ag3 (h37 _ (Sm.refl _ _)) rfl rfl) (sv (mvv (.int .i64 a1) rfl) (sv (rv_eql rfl rfl) (W.e (k28 _ _ ?_))))
      rcases bif_some h15 with ⟨b40, h15⟩ | ⟨b40, h15⟩
      · refine cw_t rfl b40 ?_
        refine cw_seq fun K41 k42 => ?_
        refine cw_region (sv (mvv (.int .i64 x13) rfl) (sv (asv (.int .i64 x13) rfl) (W.e (k42 _ _ (cw_ret ?_)))))
        obtain rfl := osi h15
        have h43 := congrArg some h14
        obtain rfl := osi h43
        replace h := h.2 _ rfl
        obtain rfl := osi h
        exact ⟨_, rfl, _, rfl, C⟩
      · refine cw_f rfl b40 (cw_skip (k26 _ _ (cw_region (sv (mvv (.int .i64 x13) rfl) ?_))))
        obtain ⟨y44, h45, h15⟩ := pur_some h15
        refine sv (rv_add rfl rfl h45) (sv (asv (.int .i64 y44) rfl) (W.e ?_))
        obtain rfl := osi h15
        exact ⟨_, rfl, ⟨_, C, ⟨rfl, rfl, rfl, trivial⟩, h0⟩⟩
    · refine cw_f rfl b24 (cw_exit ?_)
      obtain rfl := osi h15
      have h46 := congrArg some h14
      obtain rfl := osi h46
      exact ⟨_, rfl, ⟨_, C, trivial⟩⟩
  · rintro ρ w48 ⟨o3n, rfl, ⟨S47, C, h49⟩⟩
    replace h := h.1 _ rfl
    refine h49.cw fun ρ => ?_
    clear h49
    refine cw_seq fun K50 k51 => ?_
    refine cw_region (sv (asv (.int .i64 (-1)) rfl) (W.e (k51 _ _ (cw_ret ?_))))
    obtain rfl := osi h
    exact ⟨_, rfl, _, rfl, C⟩

noncomputable def marigraphref08_Index_Drop (a0 : marigraphref08_Index) (a1 : Int) : Option (Int × marigraphref08_Index) :=
  ((marigraphref08_Index_at a0 a1).bind fun y5 => (bif (decide (y5 < (0 : Int))) then some ((2 : Int), a0) else ((upto_ a0.S y5).bind fun y26 => (pur (IntKind.i64.wrap (y5 + (1 : Int))) fun y35 => ((from_ a0.S y35).bind fun y37 => ((app_ 32 ([] : List marigraphref08_Series) y26).bind fun y50 => ((app_ 32 y50 y37).bind fun y61 => (pur ({ a0 with S := y61 } : marigraphref08_Index) fun y72 => some ((0 : Int), y72)))))))))
theorem marigraphref08_Index_Drop_w {S : Nat → Prop} {w : World} {a0 : marigraphref08_Index} {a1 : Int} {v0 : Value} {cs0 : List Value} {fp0 : List Nat} {r : Int × marigraphref08_Index} (hS : Sb S w) (h0 : Ob 29 (marigraphref08_Index.fs a0) S w v0 cs0 fp0) (h : marigraphref08_Index_Drop a0 a1 = some r) :
    Calls Tryz.prog 18 (List.toArray [v0, .int .i64 a1]) w fun e w1 => ∃ S1 us_0 up_0, e = .returned (.int .i64 r.1) ∧ Cx (fun b => b ∈ fp0) S w S1 w1 ∧ Ob 29 (marigraphref08_Index.fs r.2) S1 w1 v0 us_0 up_0 ∧ (∀ b, b ∈ up_0 → b ∈ fp0 ∨ w.heap.size ≤ b) := by
  refine enter Tryz.func18 rfl (by kernel_rfl) rfl ?_
  have C := Cx.refl (F := (fun b => b ∈ fp0)) hS
  unfold marigraphref08_Index_Drop at h
  have hs0 : ∀ b, b ∈ fp0 → b ∈ fp0 ∨ w.heap.size ≤ b := fun b hb => .inl hb
  have hl0 : ∀ b ∈ fp0, b < w.heap.size := fun b hb => (h0.lt b hb).1
  refine cw_seq fun K1 k2 => ?_
  refine cw_region (sv (asv (.int .i64 0) rfl) (W.e (k2 _ _ ?_)))
  refine cw_seq fun K3 k4 => ?_
  refine cw_region (sv (mvv v0 rfl) (sv (mvv (.int .i64 a1) rfl) ?_))
  obtain ⟨y5, h6, h⟩ := bnd_some h
  refine sc (dc_call (vs := [v0, .int .i64 a1]) can54 rfl ?_)
  refine (marigraphref08_Index_at_w C.sb h0 h6).mono ?_
  rintro _ w7 ⟨S8, rfl, c9⟩
  refine ⟨_, rfl, ?_⟩
  replace h0 := h0.cx c9
  replace C := C.trans c9
  refine sv (asv (.int .i64 y5) rfl) (W.e (k4 _ _ ?_))
  refine cw_seq fun K10 k11 => ?_
  refine cw_seq fun K12 k13 => ?_
  refine cw_region (sv (mvv (.int .i64 y5) rfl) (sv (rv_lss rfl rfl) (W.e (k13 _ _ ?_))))
  rcases bif_some h with ⟨b14, h⟩ | ⟨b14, h⟩
  · refine cw_t rfl b14 ?_
    refine cw_seq fun K15 k16 => ?_
    refine cw_region (sv (asv (.int .i64 2) rfl) (W.e (k16 _ _ (cw_ret ?_))))
    obtain rfl := osi h
    exact ⟨_, rfl, _, _, _, rfl, C, h0, hs0⟩
  · refine cw_f rfl b14 (cw_skip (k11 _ _ ?_))
    refine cw_seq fun K17 k18 => ?_
    refine cw_drawU (.one 0 true (.one 2 true (.one 3 true (.one 4 true (.one 5 true (.one 6 true (.one 7 true (.one 9 true (.one 10 true (.one 11 true (.one 12 true (.one 13 true (.one 14 true (.one 15 true (.one 1 false (.one 8 false (.one 16 false (.one 17 true (.one 18 true (.one 19 false .done)))))))))))))))))))) [(5, [10]), (12, [10])] [(1, [10]), (8, [10]), (16, [10]), (19, [])] (fun c => bif Nat.beq c 10 then (One (pb v0)) else No) fol (by kernel_rfl) fun w19 u20 => ?_
    replace h0 := h0.nw u20
    replace C := C.new u20
    have h0d := h0
    have m21 := Sm.refl (One (pb v0)) w19
    refine mtv rfl rfl (mvv v0 rfl) (mtv rfl rfl (mvv v0 rfl) (mtv rfl rfl (rv_nilcheck rfl h0.ptr) (mtv rfl rfl (rv_fieldAddr (b := pb v0) (o := 0) st29 rfl h0.ptr) ?_)))
    obtain ⟨c22, h23, h24, h25⟩ := Ob.rowR (i := 0) h0 rfl
    refine mtr rfl rfl ⟨m21, trivial⟩ (fun w' hq => rw_ofieldU (i := 0) (c := c22) h0 hq.1 ag27 h23 rfl) (mtv rfl rfl (mvv (.int .i64 y5) rfl) ?_)
    obtain ⟨y26, h27, h⟩ := bnd_some h
    obtain ⟨v28, h29, h30⟩ := Ow.uptoB (P := Tryz.prog) h24 h27 el27
    refine mtv rfl rfl (h30 rfl rfl) (mtv rfl rfl (mvv v0 rfl) (mtv rfl rfl (rv_nilcheck rfl h0.ptr) (mtv rfl rfl (rv_fieldAddr (b := pb v0) (o := 0) st29 rfl h0.ptr) ?_)))
    obtain ⟨c31, h32, h33, h34⟩ := Ob.rowR (i := 0) h0 rfl
    refine mtr rfl rfl ⟨m21, trivial⟩ (fun w' hq => rw_ofieldU (i := 0) (c := c31) h0 hq.1 ag27 h32 rfl) (mtv rfl rfl (mvv (.int .i64 y5) rfl) ?_)
    obtain ⟨y35, h36, h⟩ := pur_some h
    refine mtv rfl rfl (rv_add rfl rfl h36) ?_
    obtain ⟨y37, h38, h⟩ := bnd_some h
    obtain ⟨v39, h40, h41⟩ := Ow.fromB (P := Tryz.prog) h33 h38 el27
    refine mtv rfl rfl (h41 rfl rfl) ?_
    refine mtc rfl rfl (dc_lit (vs := []) (xs := ([] : List marigraphref08_Series)) (base := w.heap.size) el27 rfl rfl (.nil) (Nat.le_of_ble_eq_true rfl) C.up.size C.sb fun v42 w43 h44 h45 u46 => ?_)
    have p47 := ap_fresh h45 (fun b hb => (h0.lt b hb).1)
    replace h24 := h24.nw u46
    replace h0 := h0.nw u46
    replace h29 := h29.nw u46
    replace h33 := h33.nw u46
    replace h40 := h40.nw u46
    replace C := C.new u46
    have z48 := (u46).size
    have m49 := m21.nx u46 (by omega)
    refine ⟨⟨m49, trivial⟩, ?_⟩
    obtain ⟨y50, h51, h⟩ := bnd_some h
    have h57 := h44
    refine mtc rfl rfl (dc_append el27 (by decide) h57 h29.src rfl rfl h51 C.up.size C.sb fun v52 w53 h54 u55 h56 => ?_)
    have p58 := ap_grow p47 h56 (fun b hb => (h0.lt b hb).1)
    replace h33 := h33.wr u55 h57.not (fun b h1 h2 => (ap_symm p47) b (h34 b h1).1 h2)
    replace h0 := h0.wr u55 h57.not (ap_symm p47)
    replace h40 := h40.wr u55 h57.not (fun b h1 h2 => (ap_symm p47) b (h34 b h1).1 h2)
    replace C := C.ow h57 u55
    have z59 := (u55).size
    have m60 := m49.wrC u55 (by omega) (ap_one p47 h0.hd)
    refine ⟨⟨m60, trivial⟩, ?_⟩
    obtain ⟨y61, h62, h⟩ := bnd_some h
    have h68 := h54
    refine mtc rfl rfl (dc_append el27 (by decide) h68 h40.src rfl rfl h62 C.up.size C.sb fun v63 w64 h65 u66 h67 => ?_)
    have p69 := ap_grow p58 h67 (fun b hb => (h0.lt b hb).1)
    replace h0 := h0.wr u66 h68.not (ap_symm p58)
    replace C := C.ow h68 u66
    have z70 := (u66).size
    have m71 := m60.wrC u66 (by omega) (ap_one p58 h0.hd)
    refine ⟨⟨m71, trivial⟩, ?_⟩
    refine mtv rfl rfl (rv_nilcheck rfl h0.ptr) (mtv rfl rfl (rv_fieldAddr (b := pb v0) (o := 0) st29 rfl h0.ptr) ?_)
    obtain ⟨y72, h73, h⟩ := pur_some h
    refine mtc rfl rfl (dc_ofieldN (i := 0) (k := marigraphref08_Series.k) (er := 79) (xs := y61) h0 rfl (h65.base (Nat.zero_le _)) p69 ag27 rfl rfl fun w74 fp78 h75 h79 u76 => ?_)
    replace h75 : Ob 29 (marigraphref08_Index.fs ({ a0 with S := y61 } : marigraphref08_Index)) S8 w74 v0 (cs0.set 0 v63) fp78 := h75
    rw [h73] at h75
    obtain ⟨cs82, h83⟩ : ∃ cs, cs = cs0.set 0 v63 := ⟨_, rfl⟩
    rw [← h83] at h75
    have h80 : ∀ b, b ∈ fp0 → ¬ S8 b := fun b hb => (h0.lt b hb).2
    have c77 := Cx.ofUp C.sb u76
    have h81 : ∀ b, b ∈ fp78 → b ∈ fp0 ∨ Blk v63 b ∨ w64.heap.size ≤ b := fun b hb => (h79 b hb).imp id .inl
    have h84 : ∀ b, b ∈ fp78 → b ∈ fp0 ∨ w.heap.size ≤ b := fun b hb => (h81 b hb).elim (hs0 b) (fun hl => hl.elim (fun hl => .inr (h65.lt b hl).1) (fun hl => .inr (Nat.le_trans C.up.size hl)))
    replace C := C.ofc c77 hs0
    have z85 := (u76).size
    refine ⟨trivial, ?_⟩
    refine MT.e (k18 _ _ ?_)
    refine cw_seq fun K86 k87 => ?_
    refine cw_region (sv (asv (.int .i64 0) rfl) (W.e (k87 _ _ (cw_ret ?_))))
    obtain rfl := osi h
    exact ⟨_, rfl, _, _, _, rfl, C, h75, h84⟩

noncomputable def marigraphlaw08_some.b2 (a0 : List api_Ask) (x13 : Int) : Option ((Int) ⊕ ((Unit) ⊕ ((List api_Ask)))) :=
  (bif (decide (x13 < (a0.length : Int))) then (((at_ a0 x13).bind fun y27 => (pur y27 fun y37 => ((bif (decide ((12 : Int) ≤ x13)) then some true else (bif (decide ((100 : Int) < (y37.Name.size : Int))) then some true else some (decide ((100 : Int) < (y37.Val.size : Int))))).bind fun o43 => (bif o43 then ((upto_ a0 x13).bind fun y61 => some (.inr (.inr (.inr y61)))) else some (.inl ()))))).bind (Sum.elim (fun o21n => (pur (IntKind.i64.wrap (x13 + (1 : Int))) fun y70 => some (.inl y70))) (fun q => some q))) else some (.inr (.inl ())))
noncomputable def marigraphlaw08_some (a0 : List api_Ask) : Option (List api_Ask) :=
  ((iter (fun s : Int => marigraphlaw08_some.b2 a0 s) (0 : Int)).bind (Sum.elim (fun o3n => some a0) (fun q => some q)))
theorem marigraphlaw08_some_w {S : Nat → Prop} {w : World} {a0 : List api_Ask} {v0 : Value} {r : (List api_Ask)} (hS : Sb S w) (h0 : Sl (kSl api_Ask.k) S w v0 a0) (h : marigraphlaw08_some a0 = some r) :
    Calls Tryz.prog 19 (List.toArray [v0]) w fun e w1 => ∃ S1 u0, e = .returned (u0) ∧ Cx No S w S1 w1 ∧ Sl (kSl api_Ask.k) S1 w1 u0 r := by
  refine enter Tryz.func19 rfl (by kernel_rfl) rfl ?_
  have C := Cx.refl (F := No) hS
  unfold marigraphlaw08_some at h
  refine cw_seq fun K1 k2 => ?_
  refine cw_region (sv (asv (.slice none 0 0) rfl) (W.e (k2 _ _ ?_)))
  obtain ⟨o3, h6, h⟩ := bnds_some h
  refine cw_seq' (fun ρ w1 => ∃ o3n, o3 = (.inl o3n) ∧ ∃ S1, Cx No S w S1 w1 ∧ Has ρ [(0, v0)] ∧ Sl (kSl api_Ask.k) S1 w1 v0 a0) ?_ ?_
  · refine cw_seq fun K7 k8 => ?_
    refine cw_region (sv (mvv v0 rfl) (sv (rv_lenS el32 h0 rfl) (sv (mvv (.int .i64 0) rfl) (W.e (k8 _ _ (cw_block ?_))))))
    refine cw_iter h6 (fun s ρ w1 => ∃ S1, Cx No S w S1 w1 ∧ Has ρ [(0, v0), (5, v0), (6, .int .i64 (a0.length : Int)), (7, .int .i64 s)] ∧ Sl (kSl api_Ask.k) S1 w1 v0 a0) ⟨_, C, ⟨rfl, rfl, rfl, rfl, trivial⟩, h0⟩ ?_
    rintro x13 q9 ρ w11 ⟨S10, C, h12, h0⟩ h15 h14
    refine h12.cw fun ρ => ?_
    clear h12
    replace h15 : marigraphlaw08_some.b2 a0 x13 = some q9 := h15
    unfold marigraphlaw08_some.b2 at h15
    refine cw_seq fun K16 k17 => ?_
    refine cw_region (sv (rv_lss rfl rfl) (W.e (k17 _ _ ?_)))
    refine cw_seq fun K18 k19 => ?_
    rcases bif_some h15 with ⟨b20, h15⟩ | ⟨b20, h15⟩
    · refine cw_t rfl b20 (cw_skip (k19 _ _ ?_))
      obtain ⟨o21, h24, h15⟩ := bnds_some h15
      refine cw_seq' (fun ρ w1 => ∃ o21n, o21 = (.inl o21n) ∧ ∃ S1, Cx No S w S1 w1 ∧ Has ρ [(0, v0), (5, v0), (6, .int .i64 (a0.length : Int)), (7, .int .i64 x13)] ∧ Sl (kSl api_Ask.k) S1 w1 v0 a0) ?_ ?_
      · refine cw_block ?_
        refine cw_seq fun K25 k26 => ?_
        refine cw_region (sv (mvv (.int .i64 x13) rfl) ?_)
        obtain ⟨y27, h28, h24⟩ := bnd_some h24
        refine sv (rv_index el32 h0 rfl rfl h28) ?_
        obtain ⟨v29, h30, h31⟩ := rw_loadA (P := Tryz.prog) el32 h0 h28
        obtain rfl := api_Ask.o.1 h30
        refine sr (h31 _ (Sm.refl _ _) rfl) ?_
        refine sc (dc_allocO (x0 := (api_Ask.mk (0 : Int) ByteArray.empty ByteArray.empty)) (base := w.heap.size) el32 zr53 (fun _ => api_Ask.r.2 rfl) C.up.size C.sb fun b32 w33 h34 h35 u36 => ?_)
        replace h0 := h0.nw u36
        replace C := C.new u36
        refine sv (asv (.int .i64 x13) rfl) ?_
        obtain ⟨y37, h38, h24⟩ := pur_some h24
        have h42 := h34
        refine sc (dc_storeO el32 h42 (show at_ [(api_Ask.mk (0 : Int) ByteArray.empty ByteArray.empty)] (0 : Int) = some (api_Ask.mk (0 : Int) ByteArray.empty ByteArray.empty) from rfl) rfl rfl (((api_Ask.o (x := y27)).2 rfl)) fun w39 h40 u41 => ?_)
        replace h40 : Ow api_Ask.k 53 S10 w.heap.size w39 (.slice (some ⟨b32, 0, none⟩) 1 1) [y27] := h40
        rw [h38] at h40
        replace h0 := h0.wr u41 h42.not
        replace C := C.ow h42 u41
        refine W.e (k26 _ _ ?_)
        obtain ⟨o43, h46, h24⟩ := bnd_some h24
        refine cw_seq' (fun ρ w1 => ∃ S1, Cx No S w S1 w1 ∧ Has ρ [(0, v0), (3, .int .i64 x13), (5, v0), (6, .int .i64 (a0.length : Int)), (7, .int .i64 x13), (25, .bool o43)] ∧ Sl (kSl api_Ask.k) S1 w1 v0 a0) ?_ ?_
        · refine cw_region (sv (mvv (.int .i64 x13) rfl) (sv (rv_geq rfl rfl) (sv (mvv (.bool (decide ((12 : Int) ≤ x13))) rfl) ?_)))
          rcases bif_some h46 with ⟨b47, h46⟩ | ⟨b47, h46⟩
          · refine W.n (gn rfl rfl rfl b47) (W.n (gn rfl rfl rfl b47) (W.n (gn rfl rfl rfl b47) (W.n (gn rfl rfl rfl b47) (sv (ptk (.bool true) rfl b47 rfl) (sv (mvv (.bool true) rfl) (W.n (gn rfl rfl rfl rfl) (W.n (gn rfl rfl rfl rfl) (W.n (gn rfl rfl rfl rfl) (W.n (gn rfl rfl rfl rfl) (sv (ptk (.bool true) rfl rfl rfl) (W.e ?_)))))))))))
            obtain rfl := osi h46
            exact ⟨_, C, ⟨rfl, rfl, rfl, rfl, rfl, rfl, trivial⟩, h0⟩
          · refine W.v (gy rfl rfl rfl b47) (rv_fieldAddr st53 rfl rfl) ?_
            obtain ⟨cs48, h49, h50⟩ := Ow.cellsO h40 (show at_ [y37] (0 : Int) = some y37 from rfl)
            obtain rfl := api_Ask.r.1 h49
            refine W.r (gy rfl rfl rfl b47) (rw_el1 (off := 1) ag9 (h50 _ (Sm.refl _ _)) rfl rfl) (W.v (gy rfl rfl rfl b47) (rv_slen Tryz.underlying9 rfl) (W.v (gy rfl rfl rfl b47) (rv_gtr rfl rfl) (sv (pfk (.bool (decide ((100 : Int) < (y37.Name.size : Int)))) rfl b47 rfl) (sv (mvv (.bool (decide ((100 : Int) < (y37.Name.size : Int)))) rfl) ?_))))
            rcases bif_some h46 with ⟨b51, h46⟩ | ⟨b51, h46⟩
            · refine W.n (gn rfl rfl rfl b51) (W.n (gn rfl rfl rfl b51) (W.n (gn rfl rfl rfl b51) (W.n (gn rfl rfl rfl b51) (sv (ptk (.bool true) rfl b51 rfl) (W.e ?_)))))
              obtain rfl := osi h46
              exact ⟨_, C, ⟨rfl, rfl, rfl, rfl, rfl, rfl, trivial⟩, h0⟩
            · refine W.v (gy rfl rfl rfl b51) (rv_fieldAddr st53 rfl rfl) ?_
              obtain ⟨cs52, h53, h54⟩ := Ow.cellsO h40 (show at_ [y37] (0 : Int) = some y37 from rfl)
              obtain rfl := api_Ask.r.1 h53
              refine W.r (gy rfl rfl rfl b51) (rw_el1 (off := 2) ag9 (h54 _ (Sm.refl _ _)) rfl rfl) (W.v (gy rfl rfl rfl b51) (rv_slen Tryz.underlying9 rfl) (W.v (gy rfl rfl rfl b51) (rv_gtr rfl rfl) (sv (pfk (.bool (decide ((100 : Int) < (y37.Val.size : Int)))) rfl b51 rfl) (W.e ?_))))
              obtain rfl := osi h46
              exact ⟨_, C, ⟨rfl, rfl, rfl, rfl, rfl, rfl, trivial⟩, h0⟩
        · rintro ρ w56 ⟨S55, C, h57, h0⟩
          refine h57.cw fun ρ => ?_
          clear h57
          rcases bif_some h24 with ⟨b58, h24⟩ | ⟨b58, h24⟩
          · refine cw_t rfl b58 ?_
            refine cw_seq fun K59 k60 => ?_
            refine cw_region (sv (mvv v0 rfl) (sv (mvv (.int .i64 x13) rfl) ?_))
            obtain ⟨y61, h62, h24⟩ := bnd_some h24
            obtain ⟨v63, h64, h65⟩ := rv_uptoA (P := Tryz.prog) el32 h0 h62
            refine sv (h65 rfl rfl) (sv (asv v63 rfl) (W.e (k60 _ _ (cw_ret ?_))))
            obtain rfl := osi h24
            replace h15 := h15.2 _ rfl
            obtain rfl := osi h15
            have h66 := congrArg some h14
            obtain rfl := osi h66
            replace h := h.2 _ rfl
            obtain rfl := osi h
            exact ⟨_, rfl, _, _, rfl, C, h64⟩
          · refine cw_f rfl b58 (cw_skip ?_)
            obtain rfl := osi h24
            exact ⟨_, rfl, ⟨_, C, ⟨rfl, rfl, rfl, rfl, trivial⟩, h0⟩⟩
      · rintro ρ w68 ⟨o21n, rfl, ⟨S67, C, h69, h0⟩⟩
        replace h15 := h15.1 _ rfl
        refine h69.cw fun ρ => ?_
        clear h69
        refine cw_region ?_
        obtain ⟨y70, h71, h15⟩ := pur_some h15
        refine sv (rv_add rfl rfl h71) (sv (mvv (.int .i64 y70) rfl) (W.e ?_))
        obtain rfl := osi h15
        exact ⟨_, rfl, ⟨_, C, ⟨rfl, rfl, rfl, rfl, trivial⟩, h0⟩⟩
    · refine cw_f rfl b20 (cw_exit ?_)
      obtain rfl := osi h15
      have h72 := congrArg some h14
      obtain rfl := osi h72
      exact ⟨_, rfl, ⟨_, C, ⟨rfl, trivial⟩, h0⟩⟩
  · rintro ρ w74 ⟨o3n, rfl, ⟨S73, C, h75, h0⟩⟩
    replace h := h.1 _ rfl
    refine h75.cw fun ρ => ?_
    clear h75
    refine cw_seq fun K76 k77 => ?_
    refine cw_region (sv (mvv v0 rfl) (sv (asv v0 rfl) (W.e (k77 _ _ (cw_ret ?_)))))
    obtain rfl := osi h
    exact ⟨_, rfl, _, _, rfl, C, h0⟩

noncomputable def marigraphref07_Right.b2 (a0 : List api_Ask) (x13 : Int) : Option ((Int) ⊕ ((Unit) ⊕ (Bool))) :=
  (bif (decide (x13 < (a0.length : Int))) then (((at_ a0 x13).bind fun y27 => (pur y27 fun y37 => ((bif (decide (y37.Op < (1 : Int))) then some true else (bif (decide ((4 : Int) < y37.Op)) then some true else ((marigraphref05_Name y37.Name).bind fun y58 => (bif (!y58) then some true else (bif (decide ((64 : Int) < (y37.Val.size : Int))) then some true else (bif (y37.Op == (4 : Int)) then (bif (!strEq y37.Val ByteArray.empty) then some true else (bif (y37.Op == (1 : Int)) then some (strEq y37.Val ByteArray.empty) else some false)) else (bif (y37.Op == (1 : Int)) then some (strEq y37.Val ByteArray.empty) else some false))))))).bind fun o43 => (bif o43 then some (.inr (.inr (.inr false))) else some (.inl ()))))).bind (Sum.elim (fun o21n => (pur (IntKind.i64.wrap (x13 + (1 : Int))) fun y100 => some (.inl y100))) (fun q => some q))) else some (.inr (.inl ())))
noncomputable def marigraphref07_Right (a0 : List api_Ask) : Option Bool :=
  ((iter (fun s : Int => marigraphref07_Right.b2 a0 s) (0 : Int)).bind (Sum.elim (fun o3n => some (decide ((a0.length : Int) ≤ (8 : Int)))) (fun q => some q)))
theorem marigraphref07_Right_w {S : Nat → Prop} {w : World} {a0 : List api_Ask} {v0 : Value} {r : Bool} (hS : Sb S w) (h0 : Sl (kSl api_Ask.k) S w v0 a0) (h : marigraphref07_Right a0 = some r) :
    Calls Tryz.prog 55 (List.toArray [v0]) w fun e w1 => ∃ S1, e = .returned (.bool r) ∧ Cx No S w S1 w1 := by
  refine enter Tryz.func55 rfl (by kernel_rfl) rfl ?_
  have C := Cx.refl (F := No) hS
  unfold marigraphref07_Right at h
  refine cw_seq fun K1 k2 => ?_
  refine cw_region (sv (asv (.bool false) rfl) (W.e (k2 _ _ ?_)))
  obtain ⟨o3, h6, h⟩ := bnds_some h
  refine cw_seq' (fun ρ w1 => ∃ o3n, o3 = (.inl o3n) ∧ ∃ S1, Cx No S w S1 w1 ∧ Has ρ [(0, v0)] ∧ Sl (kSl api_Ask.k) S1 w1 v0 a0) ?_ ?_
  · refine cw_seq fun K7 k8 => ?_
    refine cw_region (sv (asv (.int .i64 0) rfl) (W.e (k8 _ _ (cw_block ?_))))
    refine cw_iter h6 (fun s ρ w1 => ∃ S1, Cx No S w S1 w1 ∧ Has ρ [(0, v0), (3, .int .i64 s)] ∧ Sl (kSl api_Ask.k) S1 w1 v0 a0) ⟨_, C, ⟨rfl, rfl, trivial⟩, h0⟩ ?_
    rintro x13 q9 ρ w11 ⟨S10, C, h12, h0⟩ h15 h14
    refine h12.cw fun ρ => ?_
    clear h12
    replace h15 : marigraphref07_Right.b2 a0 x13 = some q9 := h15
    unfold marigraphref07_Right.b2 at h15
    refine cw_seq fun K16 k17 => ?_
    refine cw_seq fun K18 k19 => ?_
    refine cw_region (sv (mvv (.int .i64 x13) rfl) (sv (mvv v0 rfl) (sv (rv_lenS el32 h0 rfl) (sv (rv_lss rfl rfl) (W.e (k19 _ _ ?_))))))
    rcases bif_some h15 with ⟨b20, h15⟩ | ⟨b20, h15⟩
    · refine cw_t rfl b20 (cw_skip (k17 _ _ ?_))
      obtain ⟨o21, h24, h15⟩ := bnds_some h15
      refine cw_seq' (fun ρ w1 => ∃ o21n, o21 = (.inl o21n) ∧ ∃ S1, Cx No S w S1 w1 ∧ Has ρ [(0, v0), (3, .int .i64 x13)] ∧ Sl (kSl api_Ask.k) S1 w1 v0 a0) ?_ ?_
      · refine cw_block ?_
        refine cw_seq fun K25 k26 => ?_
        refine cw_region (sv (mvv v0 rfl) (sv (mvv (.int .i64 x13) rfl) ?_))
        obtain ⟨y27, h28, h24⟩ := bnd_some h24
        refine sv (rv_index el32 h0 rfl rfl h28) ?_
        obtain ⟨v29, h30, h31⟩ := rw_loadA (P := Tryz.prog) el32 h0 h28
        obtain rfl := api_Ask.o.1 h30
        refine sr (h31 _ (Sm.refl _ _) rfl) ?_
        refine sc (dc_allocO (x0 := (api_Ask.mk (0 : Int) ByteArray.empty ByteArray.empty)) (base := w.heap.size) el32 zr53 (fun _ => api_Ask.r.2 rfl) C.up.size C.sb fun b32 w33 h34 h35 u36 => ?_)
        replace h0 := h0.nw u36
        replace C := C.new u36
        obtain ⟨y37, h38, h24⟩ := pur_some h24
        have h42 := h34
        refine sc (dc_storeO el32 h42 (show at_ [(api_Ask.mk (0 : Int) ByteArray.empty ByteArray.empty)] (0 : Int) = some (api_Ask.mk (0 : Int) ByteArray.empty ByteArray.empty) from rfl) rfl rfl (((api_Ask.o (x := y27)).2 rfl)) fun w39 h40 u41 => ?_)
        replace h40 : Ow api_Ask.k 53 S10 w.heap.size w39 (.slice (some ⟨b32, 0, none⟩) 1 1) [y27] := h40
        rw [h38] at h40
        replace h0 := h0.wr u41 h42.not
        replace C := C.ow h42 u41
        refine W.e (k26 _ _ ?_)
        obtain ⟨o43, h46, h24⟩ := bnd_some h24
        refine cw_seq' (fun ρ w1 => ∃ S1, Cx No S w S1 w1 ∧ Has ρ [(0, v0), (3, .int .i64 x13), (54, .bool o43)] ∧ Sl (kSl api_Ask.k) S1 w1 v0 a0) ?_ ?_
        · refine cw_region (sv (rv_fieldAddr st53 rfl rfl) ?_)
          obtain ⟨cs47, h48, h49⟩ := Ow.cellsO h40 (show at_ [y37] (0 : Int) = some y37 from rfl)
          obtain rfl := api_Ask.r.1 h48
          refine sr (rw_el1 (off := 0) ag5 (h49 _ (Sm.refl _ _)) rfl rfl) (sv (rv_lss rfl rfl) (sv (mvv (.bool (decide (y37.Op < (1 : Int)))) rfl) ?_))
          rcases bif_some h46 with ⟨b50, h46⟩ | ⟨b50, h46⟩
          · refine W.n (gn rfl rfl rfl b50) (W.n (gn rfl rfl rfl b50) (W.n (gn rfl rfl rfl b50) (sv (ptk (.bool true) rfl b50 rfl) (sv (mvv (.bool true) rfl) (W.n (gn rfl rfl rfl rfl) (W.n (gn rfl rfl rfl rfl) (W.n (gn rfl rfl rfl rfl) (W.n (gn rfl rfl rfl rfl) (sv (ptk (.bool true) rfl rfl rfl) (sv (mvv (.bool true) rfl) (W.n (gn rfl rfl rfl rfl) ?_)))))))))))
            refine W.n (gn rfl rfl rfl rfl) (W.n (gn rfl rfl rfl rfl) (W.n (gn rfl rfl rfl rfl) (sv (ptk (.bool true) rfl rfl rfl) (sv (mvv (.bool true) rfl) (W.n (gn rfl rfl rfl rfl) (W.n (gn rfl rfl rfl rfl) (W.n (gn rfl rfl rfl rfl) (W.n (gn rfl rfl rfl rfl) (W.n (gu rfl rfl rfl) (W.n (gu rfl rfl rfl) (W.n (gu rfl rfl rfl) ?_)))))))))))
            refine W.n (gn rfl rfl rfl rfl) (sv (ptk (.bool true) rfl rfl rfl) (sv (mvv (.bool true) rfl) (W.n (gn rfl rfl rfl rfl) (W.n (gn rfl rfl rfl rfl) (W.n (gn rfl rfl rfl rfl) (W.n (gn rfl rfl rfl rfl) (W.n (gu rfl rfl rfl) (W.n (gu rfl rfl rfl) (W.n (gu rfl rfl rfl) (W.n (gn rfl rfl rfl rfl) (sv (ptk (.bool true) rfl rfl rfl) ?_)))))))))))
            refine W.e ?_
            obtain rfl := osi h46
            exact ⟨_, C, ⟨rfl, rfl, rfl, trivial⟩, h0⟩
          · refine W.v (gy rfl rfl rfl b50) (rv_fieldAddr st53 rfl rfl) ?_
            obtain ⟨cs51, h52, h53⟩ := Ow.cellsO h40 (show at_ [y37] (0 : Int) = some y37 from rfl)
            obtain rfl := api_Ask.r.1 h52
            refine W.r (gy rfl rfl rfl b50) (rw_el1 (off := 0) ag5 (h53 _ (Sm.refl _ _)) rfl rfl) (W.v (gy rfl rfl rfl b50) (rv_gtr rfl rfl) (sv (pfk (.bool (decide ((4 : Int) < y37.Op))) rfl b50 rfl) (sv (mvv (.bool (decide ((4 : Int) < y37.Op))) rfl) ?_)))
            rcases bif_some h46 with ⟨b54, h46⟩ | ⟨b54, h46⟩
            · refine W.n (gn rfl rfl rfl b54) (W.n (gn rfl rfl rfl b54) (W.n (gn rfl rfl rfl b54) (W.n (gn rfl rfl rfl b54) (sv (ptk (.bool true) rfl b54 rfl) (sv (mvv (.bool true) rfl) (W.n (gn rfl rfl rfl rfl) (W.n (gn rfl rfl rfl rfl) (W.n (gn rfl rfl rfl rfl) (W.n (gn rfl rfl rfl rfl) (sv (ptk (.bool true) rfl rfl rfl) (sv (mvv (.bool true) rfl) ?_)))))))))))
              refine W.n (gn rfl rfl rfl rfl) (W.n (gn rfl rfl rfl rfl) (W.n (gn rfl rfl rfl rfl) (W.n (gn rfl rfl rfl rfl) (W.n (gu rfl rfl rfl) (W.n (gu rfl rfl rfl) (W.n (gu rfl rfl rfl) (W.n (gn rfl rfl rfl rfl) (sv (ptk (.bool true) rfl rfl rfl) (sv (mvv (.bool true) rfl) (W.n (gn rfl rfl rfl rfl) (W.n (gn rfl rfl rfl rfl) ?_)))))))))))
              refine W.n (gn rfl rfl rfl rfl) (W.n (gn rfl rfl rfl rfl) (W.n (gu rfl rfl rfl) (W.n (gu rfl rfl rfl) (W.n (gu rfl rfl rfl) (W.n (gn rfl rfl rfl rfl) (sv (ptk (.bool true) rfl rfl rfl) (W.e ?_)))))))
              obtain rfl := osi h46
              exact ⟨_, C, ⟨rfl, rfl, rfl, trivial⟩, h0⟩
            · refine W.v (gy rfl rfl rfl b54) (rv_fieldAddr st53 rfl rfl) ?_
              obtain ⟨cs55, h56, h57⟩ := Ow.cellsO h40 (show at_ [y37] (0 : Int) = some y37 from rfl)
              obtain rfl := api_Ask.r.1 h56
              refine W.r (gy rfl rfl rfl b54) (rw_el1 (off := 1) ag9 (h57 _ (Sm.refl _ _)) rfl rfl) ?_
              obtain ⟨y58, h59, h46⟩ := bnd_some h46
              refine W.c (gy rfl rfl rfl b54) (dc_call (vs := [.string y37.Name]) can82 rfl ?_)
              refine (marigraphref05_Name_w C.sb  h59).mono ?_
              rintro _ w60 ⟨S61, rfl, c62⟩
              refine ⟨_, rfl, ?_⟩
              replace h0 := h0.cx c62
              replace h40 := h40.cx c62
              replace C := C.trans c62
              refine W.v (gy rfl rfl rfl b54) (rv_not rfl) (sv (pfk (.bool (!y58)) rfl b54 rfl) (sv (mvv (.bool (!y58)) rfl) ?_))
              rcases bif_some h46 with ⟨b63, h46⟩ | ⟨b63, h46⟩
              · refine W.n (gn rfl rfl rfl b63) (W.n (gn rfl rfl rfl b63) (W.n (gn rfl rfl rfl b63) (W.n (gn rfl rfl rfl b63) (sv (ptk (.bool true) rfl b63 rfl) (sv (mvv (.bool true) rfl) (W.n (gn rfl rfl rfl rfl) (W.n (gn rfl rfl rfl rfl) (W.n (gn rfl rfl rfl rfl) (W.n (gn rfl rfl rfl rfl) (W.n (gu rfl rfl rfl) (W.n (gu rfl rfl rfl) ?_)))))))))))
                refine W.n (gu rfl rfl rfl) (W.n (gn rfl rfl rfl rfl) (sv (ptk (.bool true) rfl rfl rfl) (sv (mvv (.bool true) rfl) (W.n (gn rfl rfl rfl rfl) (W.n (gn rfl rfl rfl rfl) (W.n (gn rfl rfl rfl rfl) (W.n (gn rfl rfl rfl rfl) (W.n (gu rfl rfl rfl) (W.n (gu rfl rfl rfl) (W.n (gu rfl rfl rfl) (W.n (gn rfl rfl rfl rfl) ?_)))))))))))
                refine sv (ptk (.bool true) rfl rfl rfl) (W.e ?_)
                obtain rfl := osi h46
                exact ⟨_, C, ⟨rfl, rfl, rfl, trivial⟩, h0⟩
              · refine W.v (gy rfl rfl rfl b63) (rv_fieldAddr st53 rfl rfl) ?_
                obtain ⟨cs64, h65, h66⟩ := Ow.cellsO h40 (show at_ [y37] (0 : Int) = some y37 from rfl)
                obtain rfl := api_Ask.r.1 h65
                refine W.r (gy rfl rfl rfl b63) (rw_el1 (off := 2) ag9 (h66 _ (Sm.refl _ _)) rfl rfl) (W.v (gy rfl rfl rfl b63) (rv_slen Tryz.underlying9 rfl) (W.v (gy rfl rfl rfl b63) (rv_gtr rfl rfl) (sv (pfk (.bool (decide ((64 : Int) < (y37.Val.size : Int)))) rfl b63 rfl) (sv (mvv (.bool (decide ((64 : Int) < (y37.Val.size : Int)))) rfl) ?_))))
                rcases bif_some h46 with ⟨b67, h46⟩ | ⟨b67, h46⟩
                · refine W.n (gn rfl rfl rfl b67) (W.n (gn rfl rfl rfl b67) (W.n (gn rfl rfl rfl b67) (W.n (gn rfl rfl rfl b67) (W.n (gu rfl rfl rfl) (W.n (gu rfl rfl rfl) (W.n (gu rfl rfl rfl) (W.n (gn rfl rfl rfl b67) (sv (ptk (.bool true) rfl b67 rfl) (sv (mvv (.bool true) rfl) (W.n (gn rfl rfl rfl rfl) (W.n (gn rfl rfl rfl rfl) ?_)))))))))))
                  refine W.n (gn rfl rfl rfl rfl) (W.n (gn rfl rfl rfl rfl) (W.n (gu rfl rfl rfl) (W.n (gu rfl rfl rfl) (W.n (gu rfl rfl rfl) (W.n (gn rfl rfl rfl rfl) (sv (ptk (.bool true) rfl rfl rfl) (W.e ?_)))))))
                  obtain rfl := osi h46
                  exact ⟨_, C, ⟨rfl, rfl, rfl, trivial⟩, h0⟩
                · refine W.v (gy rfl rfl rfl b67) (rv_fieldAddr st53 rfl rfl) ?_
                  obtain ⟨cs68, h69, h70⟩ := Ow.cellsO h40 (show at_ [y37] (0 : Int) = some y37 from rfl)
                  obtain rfl := api_Ask.r.1 h69
                  refine W.r (gy rfl rfl rfl b67) (rw_el1 (off := 0) ag5 (h70 _ (Sm.refl _ _)) rfl rfl) (W.v (gy rfl rfl rfl b67) (rv_eql rfl rfl) (W.v (gy rfl rfl rfl b67) (mvv (.bool (y37.Op == (4 : Int))) rfl) ?_))
                  rcases bif_some h46 with ⟨b71, h46⟩ | ⟨b71, h46⟩
                  · refine W.v (gy rfl rfl rfl b71) (rv_fieldAddr st53 rfl rfl) ?_
                    obtain ⟨cs72, h73, h74⟩ := Ow.cellsO h40 (show at_ [y37] (0 : Int) = some y37 from rfl)
                    obtain rfl := api_Ask.r.1 h73
                    refine W.r (gy rfl rfl rfl b71) (rw_el1 (off := 2) ag9 (h74 _ (Sm.refl _ _)) rfl rfl) (W.v (gy rfl rfl rfl b71) (rv_sneq rfl rfl) (W.v (gy rfl rfl rfl b67) (ptk (.bool (!strEq y37.Val ByteArray.empty)) rfl b71 rfl) (sv (pfk (.bool (!strEq y37.Val ByteArray.empty)) rfl b67 rfl) (sv (mvv (.bool (!strEq y37.Val ByteArray.empty)) rfl) ?_))))
                    rcases bif_some h46 with ⟨b75, h46⟩ | ⟨b75, h46⟩
                    · refine W.n (gn rfl rfl rfl b75) (W.n (gn rfl rfl rfl b75) (W.n (gn rfl rfl rfl b75) (W.n (gn rfl rfl rfl b75) (W.n (gu rfl rfl rfl) (W.n (gu rfl rfl rfl) (W.n (gu rfl rfl rfl) (W.n (gn rfl rfl rfl b75) (sv (ptk (.bool true) rfl b75 rfl) (W.e ?_)))))))))
                      obtain rfl := osi h46
                      exact ⟨_, C, ⟨rfl, rfl, rfl, trivial⟩, h0⟩
                    · refine W.v (gy rfl rfl rfl b75) (rv_fieldAddr st53 rfl rfl) ?_
                      obtain ⟨cs76, h77, h78⟩ := Ow.cellsO h40 (show at_ [y37] (0 : Int) = some y37 from rfl)
                      obtain rfl := api_Ask.r.1 h77
                      refine W.r (gy rfl rfl rfl b75) (rw_el1 (off := 0) ag5 (h78 _ (Sm.refl _ _)) rfl rfl) (W.v (gy rfl rfl rfl b75) (rv_eql rfl rfl) (W.v (gy rfl rfl rfl b75) (mvv (.bool (y37.Op == (1 : Int))) rfl) ?_))
                      rcases bif_some h46 with ⟨b79, h46⟩ | ⟨b79, h46⟩
                      · refine W.v (gy rfl rfl rfl b79) (rv_fieldAddr st53 rfl rfl) ?_
                        obtain ⟨cs80, h81, h82⟩ := Ow.cellsO h40 (show at_ [y37] (0 : Int) = some y37 from rfl)
                        obtain rfl := api_Ask.r.1 h81
                        refine W.r (gy rfl rfl rfl b79) (rw_el1 (off := 2) ag9 (h82 _ (Sm.refl _ _)) rfl rfl) (W.v (gy rfl rfl rfl b79) (rv_seql rfl rfl) (W.v (gy rfl rfl rfl b75) (ptk (.bool (strEq y37.Val ByteArray.empty)) rfl b79 rfl) (sv (pfk (.bool (strEq y37.Val ByteArray.empty)) rfl b75 rfl) (W.e ?_))))
                        obtain rfl := osi h46
                        exact ⟨_, C, ⟨rfl, rfl, rfl, trivial⟩, h0⟩
                      · refine W.n (gn rfl rfl rfl b79) (W.n (gn rfl rfl rfl b79) (W.n (gn rfl rfl rfl b79) (W.v (gy rfl rfl rfl b75) (pfk (.bool false) rfl b79 rfl) (sv (pfk (.bool false) rfl b75 rfl) (W.e ?_)))))
                        obtain rfl := osi h46
                        exact ⟨_, C, ⟨rfl, rfl, rfl, trivial⟩, h0⟩
                  · refine W.n (gn rfl rfl rfl b71) (W.n (gn rfl rfl rfl b71) (W.n (gn rfl rfl rfl b71) (W.v (gy rfl rfl rfl b67) (pfk (.bool false) rfl b71 rfl) (sv (pfk (.bool false) rfl b67 rfl) (sv (mvv (.bool false) rfl) (W.v (gy rfl rfl rfl rfl) (rv_fieldAddr st53 rfl rfl) ?_))))))
                    obtain ⟨cs83, h84, h85⟩ := Ow.cellsO h40 (show at_ [y37] (0 : Int) = some y37 from rfl)
                    obtain rfl := api_Ask.r.1 h84
                    refine W.r (gy rfl rfl rfl rfl) (rw_el1 (off := 0) ag5 (h85 _ (Sm.refl _ _)) rfl rfl) (W.v (gy rfl rfl rfl rfl) (rv_eql rfl rfl) (W.v (gy rfl rfl rfl rfl) (mvv (.bool (y37.Op == (1 : Int))) rfl) ?_))
                    rcases bif_some h46 with ⟨b86, h46⟩ | ⟨b86, h46⟩
                    · refine W.v (gy rfl rfl rfl b86) (rv_fieldAddr st53 rfl rfl) ?_
                      obtain ⟨cs87, h88, h89⟩ := Ow.cellsO h40 (show at_ [y37] (0 : Int) = some y37 from rfl)
                      obtain rfl := api_Ask.r.1 h88
                      refine W.r (gy rfl rfl rfl b86) (rw_el1 (off := 2) ag9 (h89 _ (Sm.refl _ _)) rfl rfl) (W.v (gy rfl rfl rfl b86) (rv_seql rfl rfl) (W.v (gy rfl rfl rfl rfl) (ptk (.bool (strEq y37.Val ByteArray.empty)) rfl b86 rfl) (sv (pfk (.bool (strEq y37.Val ByteArray.empty)) rfl rfl rfl) (W.e ?_))))
                      obtain rfl := osi h46
                      exact ⟨_, C, ⟨rfl, rfl, rfl, trivial⟩, h0⟩
                    · refine W.n (gn rfl rfl rfl b86) (W.n (gn rfl rfl rfl b86) (W.n (gn rfl rfl rfl b86) (W.v (gy rfl rfl rfl rfl) (pfk (.bool false) rfl b86 rfl) (sv (pfk (.bool false) rfl rfl rfl) (W.e ?_)))))
                      obtain rfl := osi h46
                      exact ⟨_, C, ⟨rfl, rfl, rfl, trivial⟩, h0⟩
        · rintro ρ w91 ⟨S90, C, h92, h0⟩
          refine h92.cw fun ρ => ?_
          clear h92
          rcases bif_some h24 with ⟨b93, h24⟩ | ⟨b93, h24⟩
          · refine cw_t rfl b93 ?_
            refine cw_seq fun K94 k95 => ?_
            refine cw_region (sv (asv (.bool false) rfl) (W.e (k95 _ _ (cw_ret ?_))))
            obtain rfl := osi h24
            replace h15 := h15.2 _ rfl
            obtain rfl := osi h15
            have h96 := congrArg some h14
            obtain rfl := osi h96
            replace h := h.2 _ rfl
            obtain rfl := osi h
            exact ⟨_, rfl, _, rfl, C⟩
          · refine cw_f rfl b93 (cw_skip ?_)
            obtain rfl := osi h24
            exact ⟨_, rfl, ⟨_, C, ⟨rfl, rfl, trivial⟩, h0⟩⟩
      · rintro ρ w98 ⟨o21n, rfl, ⟨S97, C, h99, h0⟩⟩
        replace h15 := h15.1 _ rfl
        refine h99.cw fun ρ => ?_
        clear h99
        refine cw_region (sv (mvv (.int .i64 x13) rfl) ?_)
        obtain ⟨y100, h101, h15⟩ := pur_some h15
        refine sv (rv_add rfl rfl h101) (sv (asv (.int .i64 y100) rfl) (W.e ?_))
        obtain rfl := osi h15
        exact ⟨_, rfl, ⟨_, C, ⟨rfl, rfl, trivial⟩, h0⟩⟩
    · refine cw_f rfl b20 (cw_exit ?_)
      obtain rfl := osi h15
      have h102 := congrArg some h14
      obtain rfl := osi h102
      exact ⟨_, rfl, ⟨_, C, ⟨rfl, trivial⟩, h0⟩⟩
  · rintro ρ w104 ⟨o3n, rfl, ⟨S103, C, h105, h0⟩⟩
    replace h := h.1 _ rfl
    refine h105.cw fun ρ => ?_
    clear h105
    refine cw_seq fun K106 k107 => ?_
    refine cw_region (sv (mvv v0 rfl) (sv (rv_lenS el32 h0 rfl) (sv (rv_leq rfl rfl) (sv (asv (.bool (decide ((a0.length : Int) ≤ (8 : Int)))) rfl) (W.e (k107 _ _ (cw_ret ?_)))))))
    obtain rfl := osi h
    exact ⟨_, rfl, _, rfl, C⟩

noncomputable def marigraphref05_Get.b2 (a0 : List api_Label) (a1 : ByteArray) (x13 : Int) : Option ((Int) ⊕ ((Unit) ⊕ (ByteArray × Bool))) :=
  (bif (decide (x13 < (a0.length : Int))) then ((at_ a0 x13).bind fun y25 => (bif (strEq y25.Name a1) then ((at_ a0 x13).bind fun y33 => some (.inr (.inr (y33.Val, true)))) else (pur (IntKind.i64.wrap (x13 + (1 : Int))) fun y39 => some (.inl y39)))) else some (.inr (.inl ())))
noncomputable def marigraphref05_Get (a0 : List api_Label) (a1 : ByteArray) : Option (ByteArray × Bool) :=
  ((iter (fun s : Int => marigraphref05_Get.b2 a0 a1 s) (0 : Int)).bind (Sum.elim (fun o3n => some (ByteArray.empty, false)) (fun q => some q)))
theorem marigraphref05_Get_w {S : Nat → Prop} {w : World} {a0 : List api_Label} {a1 : ByteArray} {v0 : Value} {r : ByteArray × Bool} (hS : Sb S w) (h0 : Sl (kSl api_Label.k) S w v0 a0) (h : marigraphref05_Get a0 a1 = some r) :
    Calls Tryz.prog 60 (List.toArray [v0, .string a1]) w fun e w1 => ∃ S1, e = .returned (.tuple (List.toArray [.string r.1, .bool r.2])) ∧ Cx No S w S1 w1 := by
  refine enter Tryz.func60 rfl (by kernel_rfl) rfl ?_
  have C := Cx.refl (F := No) hS
  unfold marigraphref05_Get at h
  refine cw_seq fun K1 k2 => ?_
  refine cw_region (sv (asv (.string ByteArray.empty) rfl) (sv (asv (.bool false) rfl) (W.e (k2 _ _ ?_))))
  obtain ⟨o3, h6, h⟩ := bnds_some h
  refine cw_seq' (fun ρ w1 => ∃ o3n, o3 = (.inl o3n) ∧ ∃ S1, Cx No S w S1 w1 ∧ Has ρ []) ?_ ?_
  · refine cw_seq fun K7 k8 => ?_
    refine cw_region (sv (asv (.int .i64 0) rfl) (W.e (k8 _ _ (cw_block ?_))))
    refine cw_iter h6 (fun s ρ w1 => ∃ S1, Cx No S w S1 w1 ∧ Has ρ [(0, v0), (1, .string a1), (6, .int .i64 s)] ∧ Sl (kSl api_Label.k) S1 w1 v0 a0) ⟨_, C, ⟨rfl, rfl, rfl, trivial⟩, h0⟩ ?_
    rintro x13 q9 ρ w11 ⟨S10, C, h12, h0⟩ h15 h14
    refine h12.cw fun ρ => ?_
    clear h12
    replace h15 : marigraphref05_Get.b2 a0 a1 x13 = some q9 := h15
    unfold marigraphref05_Get.b2 at h15
    refine cw_seq fun K16 k17 => ?_
    refine cw_seq fun K18 k19 => ?_
    refine cw_region (sv (mvv (.int .i64 x13) rfl) (sv (mvv v0 rfl) (sv (rv_lenS el31 h0 rfl) (sv (rv_lss rfl rfl) (W.e (k19 _ _ ?_))))))
    rcases bif_some h15 with ⟨b20, h15⟩ | ⟨b20, h15⟩
    · refine cw_t rfl b20 (cw_skip (k17 _ _ ?_))
      refine cw_seq fun K21 k22 => ?_
      refine cw_block ?_
      refine cw_seq fun K23 k24 => ?_
      refine cw_region (sv (mvv v0 rfl) (sv (mvv (.int .i64 x13) rfl) ?_))
      obtain ⟨y25, h26, h15⟩ := bnd_some h15
      refine sv (rv_index el31 h0 rfl rfl h26) (sv (rv_fieldAddr st46 rfl rfl) ?_)
      obtain ⟨cs27, h28, h29⟩ := Sl.cells h0 h26
      obtain rfl := api_Label.r.1 h28
      refine sr (rw_el1 (off := 0) ag9 (h29 _ (Sm.refl _ _)) rfl rfl) (sv (mvv (.string a1) rfl) (sv (rv_seql rfl rfl) (W.e (k24 _ _ ?_))))
      rcases bif_some h15 with ⟨b30, h15⟩ | ⟨b30, h15⟩
      · refine cw_t rfl b30 ?_
        refine cw_seq fun K31 k32 => ?_
        refine cw_region (sv (mvv v0 rfl) (sv (mvv (.int .i64 x13) rfl) ?_))
        obtain ⟨y33, h34, h15⟩ := bnd_some h15
        refine sv (rv_index el31 h0 rfl rfl h34) (sv (rv_fieldAddr st46 rfl rfl) ?_)
        obtain ⟨cs35, h36, h37⟩ := Sl.cells h0 h34
        obtain rfl := api_Label.r.1 h36
        refine sr (rw_el1 (off := 1) ag9 (h37 _ (Sm.refl _ _)) rfl rfl) (sv (asv (.string y33.Val) rfl) (sv (asv (.bool true) rfl) (W.e (k32 _ _ (cw_ret ?_)))))
        obtain rfl := osi h15
        have h38 := congrArg some h14
        obtain rfl := osi h38
        replace h := h.2 _ rfl
        obtain rfl := osi h
        exact ⟨_, rfl, _, rfl, C⟩
      · refine cw_f rfl b30 (cw_skip (k22 _ _ (cw_region (sv (mvv (.int .i64 x13) rfl) ?_))))
        obtain ⟨y39, h40, h15⟩ := pur_some h15
        refine sv (rv_add rfl rfl h40) (sv (asv (.int .i64 y39) rfl) (W.e ?_))
        obtain rfl := osi h15
        exact ⟨_, rfl, ⟨_, C, ⟨rfl, rfl, rfl, trivial⟩, h0⟩⟩
    · refine cw_f rfl b20 (cw_exit ?_)
      obtain rfl := osi h15
      have h41 := congrArg some h14
      obtain rfl := osi h41
      exact ⟨_, rfl, ⟨_, C, trivial⟩⟩
  · rintro ρ w43 ⟨o3n, rfl, ⟨S42, C, h44⟩⟩
    replace h := h.1 _ rfl
    refine h44.cw fun ρ => ?_
    clear h44
    refine cw_seq fun K45 k46 => ?_
    refine cw_region (sv (asv (.string ByteArray.empty) rfl) (sv (asv (.bool false) rfl) (W.e (k46 _ _ (cw_ret ?_)))))
    obtain rfl := osi h
    exact ⟨_, rfl, _, rfl, C⟩

noncomputable def marigraphref07_One (a0 : api_Ask) (a1 : List api_Label) : Option Bool :=
  ((marigraphref05_Get a1 a0.Name).bind fun y11 => (bif (a0.Op == (1 : Int)) then ((bif y11.2 then some (strEq y11.1 a0.Val) else some false).bind fun o23 => some o23) else (bif (a0.Op == (2 : Int)) then ((bif (!y11.2) then some true else some (!strEq y11.1 a0.Val)).bind fun o34 => some o34) else (bif (a0.Op == (3 : Int)) then ((bif y11.2 then (bif (decide ((a0.Val.size : Int) ≤ (y11.1.size : Int))) then ((supto_ y11.1 (a0.Val.size : Int)).bind fun y54 => some (strEq y54 a0.Val)) else some false) else some false).bind fun o45 => some o45) else (bif (a0.Op == (4 : Int)) then some y11.2 else some false)))))
theorem marigraphref07_One_w {S : Nat → Prop} {w : World} {a0 : api_Ask} {a1 : List api_Label} {v0 v1 : Value} {r : Bool} (hS : Sb S w) (h0 : Sl api_Ask.k S w v0 a0) (h1 : Sl (kSl api_Label.k) S w v1 a1) (h : marigraphref07_One a0 a1 = some r) :
    Calls Tryz.prog 83 (List.toArray [v0, v1]) w fun e w1 => ∃ S1, e = .returned (.bool r) ∧ Cx No S w S1 w1 := by
  refine enter Tryz.func83 rfl (by kernel_rfl) rfl ?_
  have C := Cx.refl (F := No) hS
  unfold marigraphref07_One at h
  obtain rfl := api_Ask.o.1 h0
  refine cw_seq fun K1 k2 => ?_
  refine cw_region ?_
  refine sc (dc_boxS C.sb rfl fun b3 S4 w5 c6 h7 => ?_)
  replace h1 := h1.cx c6
  replace C := C.trans c6
  refine sv (asv (.bool false) rfl) (W.e (k2 _ _ ?_))
  refine cw_seq fun K9 k10 => ?_
  refine cw_region (sv (mvv v1 rfl) (sv (rv_fieldAddr st53 rfl rfl) (sr (rw_bk ag9 h7.2 rfl rfl) ?_)))
  obtain ⟨y11, h12, h⟩ := bnd_some h
  refine sc (dc_call (vs := [v1, .string a0.Name]) can60 rfl ?_)
  refine (marigraphref05_Get_w C.sb h1 h12).mono ?_
  rintro _ w13 ⟨S14, rfl, c15⟩
  refine ⟨_, rfl, ?_⟩
  replace h7 := h7.cx c15
  replace C := C.trans c15
  refine sv (mvv (.tuple (List.toArray [.string y11.1, .bool y11.2])) rfl) (sv (rv_extract rfl rfl) (sv (rv_extract rfl rfl) (sv (asv (.string y11.1) rfl) (sv (asv (.bool y11.2) rfl) (W.e (k10 _ _ ?_))))))
  refine cw_seq fun K16 k17 => ?_
  refine cw_seq fun K18 k19 => ?_
  refine cw_region (sv (rv_fieldAddr st53 rfl rfl) (sr (rw_bk ag5 h7.2 rfl rfl) (W.e (k19 _ _ (cw_block ?_)))))
  refine cw_seq fun K20 k21 => ?_
  refine cw_region (sv (rv_eql rfl rfl) (sv (asv (.bool (a0.Op == (1 : Int))) rfl) (W.e (k21 _ _ ?_))))
  rcases bif_some h with ⟨b22, h⟩ | ⟨b22, h⟩
  · refine cw_t rfl b22 ?_
    obtain ⟨o23, h26, h⟩ := bnd_some h
    refine cw_seq' (fun ρ w1 => ∃ S1, Cx No S w S1 w1 ∧ Has ρ [(4, .bool o23)]) ?_ ?_
    · refine cw_region (sv (mvv (.bool y11.2) rfl) (sv (mvv (.bool y11.2) rfl) ?_))
      rcases bif_some h26 with ⟨b27, h26⟩ | ⟨b27, h26⟩
      · refine W.v (gy rfl rfl rfl b27) (mvv (.string y11.1) rfl) (W.v (gy rfl rfl rfl b27) (rv_fieldAddr st53 rfl rfl) (W.r (gy rfl rfl rfl b27) (rw_bk ag9 h7.2 rfl rfl) (W.v (gy rfl rfl rfl b27) (rv_seql rfl rfl) (sv (ptk (.bool (strEq y11.1 a0.Val)) rfl b27 rfl) (sv (asv (.bool (strEq y11.1 a0.Val)) rfl) (W.e ?_))))))
        obtain rfl := osi h26
        exact ⟨_, C, ⟨rfl, trivial⟩⟩
      · refine W.n (gn rfl rfl rfl b27) (W.n (gn rfl rfl rfl b27) (W.n (gn rfl rfl rfl b27) (W.n (gn rfl rfl rfl b27) (sv (pfk (.bool false) rfl b27 rfl) (sv (asv (.bool false) rfl) (W.e ?_))))))
        obtain rfl := osi h26
        exact ⟨_, C, ⟨rfl, trivial⟩⟩
    · rintro ρ w29 ⟨S28, C, h30⟩
      refine h30.cw fun ρ => ?_
      clear h30
      refine cw_ret ?_
      obtain rfl := osi h
      exact ⟨_, rfl, _, rfl, C⟩
  · refine cw_f rfl b22 ?_
    refine cw_seq fun K31 k32 => ?_
    refine cw_region (sv (rv_eql rfl rfl) (sv (asv (.bool (a0.Op == (2 : Int))) rfl) (W.e (k32 _ _ ?_))))
    rcases bif_some h with ⟨b33, h⟩ | ⟨b33, h⟩
    · refine cw_t rfl b33 ?_
      obtain ⟨o34, h37, h⟩ := bnd_some h
      refine cw_seq' (fun ρ w1 => ∃ S1, Cx No S w S1 w1 ∧ Has ρ [(4, .bool o34)]) ?_ ?_
      · refine cw_region (sv (mvv (.bool y11.2) rfl) (sv (rv_not rfl) (sv (mvv (.bool (!y11.2)) rfl) ?_)))
        rcases bif_some h37 with ⟨b38, h37⟩ | ⟨b38, h37⟩
        · refine W.n (gn rfl rfl rfl b38) (W.n (gn rfl rfl rfl b38) (W.n (gn rfl rfl rfl b38) (W.n (gn rfl rfl rfl b38) (sv (ptk (.bool true) rfl b38 rfl) (sv (asv (.bool true) rfl) (W.e ?_))))))
          obtain rfl := osi h37
          exact ⟨_, C, ⟨rfl, trivial⟩⟩
        · refine W.v (gy rfl rfl rfl b38) (mvv (.string y11.1) rfl) (W.v (gy rfl rfl rfl b38) (rv_fieldAddr st53 rfl rfl) (W.r (gy rfl rfl rfl b38) (rw_bk ag9 h7.2 rfl rfl) (W.v (gy rfl rfl rfl b38) (rv_sneq rfl rfl) (sv (pfk (.bool (!strEq y11.1 a0.Val)) rfl b38 rfl) (sv (asv (.bool (!strEq y11.1 a0.Val)) rfl) (W.e ?_))))))
          obtain rfl := osi h37
          exact ⟨_, C, ⟨rfl, trivial⟩⟩
      · rintro ρ w40 ⟨S39, C, h41⟩
        refine h41.cw fun ρ => ?_
        clear h41
        refine cw_ret ?_
        obtain rfl := osi h
        exact ⟨_, rfl, _, rfl, C⟩
    · refine cw_f rfl b33 ?_
      refine cw_seq fun K42 k43 => ?_
      refine cw_region (sv (rv_eql rfl rfl) (sv (asv (.bool (a0.Op == (3 : Int))) rfl) (W.e (k43 _ _ ?_))))
      rcases bif_some h with ⟨b44, h⟩ | ⟨b44, h⟩
      · refine cw_t rfl b44 ?_
        obtain ⟨o45, h48, h⟩ := bnd_some h
        refine cw_seq' (fun ρ w1 => ∃ S1, Cx No S w S1 w1 ∧ Has ρ [(4, .bool o45)]) ?_ ?_
        · refine cw_drawU (.one 0 true (.one 1 true (.one 2 true (.one 3 true (.one 4 true (.one 5 true (.one 6 true (.one 7 true (.one 8 true (.one 9 true (.one 10 true (.one 11 true (.one 12 true (.one 13 true (.one 14 true (.one 15 true (.one 16 true (.one 17 true (.one 18 true (.one 19 true .done)))))))))))))))))))) [(5, [9]), (12, [9]), (16, [9])] [] (fun c => bif Nat.beq c 9 then (fun _ => True) else No) fol (by kernel_rfl) fun w49 u50 => ?_
          replace h7 := h7.nw u50
          replace C := C.new u50
          have m51 := Sm.refl (fun _ => True) w49
          refine mtv rfl rfl (mvv (.bool y11.2) rfl) (mtv rfl rfl (mvv (.bool y11.2) rfl) ?_)
          rcases bif_some h48 with ⟨b52, h48⟩ | ⟨b52, h48⟩
          · refine MT.vv rfl rfl (gy rfl rfl rfl b52) (mvv (.string y11.1) rfl) (MT.vv rfl rfl (gy rfl rfl rfl b52) (rv_slen Tryz.underlying9 rfl) (MT.vv rfl rfl (gy rfl rfl rfl b52) (rv_fieldAddr st53 rfl rfl) (MT.r rfl rfl (gy rfl rfl rfl b52) ⟨m51, trivial⟩ (fun w' hq => rw_bk ag9 (h7.sm (hq.1.mono fun _ _ => trivial)) rfl rfl) (MT.vv rfl rfl (gy rfl rfl rfl b52) (rv_slen Tryz.underlying9 rfl) (MT.vv rfl rfl (gy rfl rfl rfl b52) (rv_geq rfl rfl) (mtv rfl rfl (ptk (.bool (decide ((a0.Val.size : Int) ≤ (y11.1.size : Int)))) rfl b52 rfl) (mtv rfl rfl (mvv (.bool (decide ((a0.Val.size : Int) ≤ (y11.1.size : Int)))) rfl) ?_)))))))
            rcases bif_some h48 with ⟨b53, h48⟩ | ⟨b53, h48⟩
            · refine MT.vv rfl rfl (gy rfl rfl rfl b53) (mvv (.string y11.1) rfl) (MT.vv rfl rfl (gy rfl rfl rfl b53) (rv_fieldAddr st53 rfl rfl) (MT.r rfl rfl (gy rfl rfl rfl b53) ⟨m51, trivial⟩ (fun w' hq => rw_bk ag9 (h7.sm (hq.1.mono fun _ _ => trivial)) rfl rfl) (MT.vv rfl rfl (gy rfl rfl rfl b53) (rv_slen Tryz.underlying9 rfl) ?_)))
              obtain ⟨y54, h55, h48⟩ := bnd_some h48
              refine MT.vv rfl rfl (gy rfl rfl rfl b53) (rv_supto Tryz.underlying9 rfl rfl h55) (MT.vv rfl rfl (gy rfl rfl rfl b53) (rv_fieldAddr st53 rfl rfl) (MT.r rfl rfl (gy rfl rfl rfl b53) ⟨m51, trivial⟩ (fun w' hq => rw_bk ag9 (h7.sm (hq.1.mono fun _ _ => trivial)) rfl rfl) (MT.vv rfl rfl (gy rfl rfl rfl b53) (rv_seql rfl rfl) (mtv rfl rfl (ptk (.bool (strEq y54 a0.Val)) rfl b53 rfl) (mtv rfl rfl (asv (.bool (strEq y54 a0.Val)) rfl) (MT.e ?_))))))
              obtain rfl := osi h48
              exact ⟨_, C, ⟨rfl, trivial⟩⟩
            · refine MT.n rfl rfl (gn rfl rfl rfl b53) trivial (MT.n rfl rfl (gn rfl rfl rfl b53) trivial (MT.n rfl rfl (gn rfl rfl rfl b53) ⟨m51, trivial⟩ (MT.n rfl rfl (gn rfl rfl rfl b53) trivial (MT.n rfl rfl (gn rfl rfl rfl b53) trivial (MT.n rfl rfl (gn rfl rfl rfl b53) trivial (MT.n rfl rfl (gn rfl rfl rfl b53) ⟨m51, trivial⟩ (MT.n rfl rfl (gn rfl rfl rfl b53) trivial (mtv rfl rfl (pfk (.bool false) rfl b53 rfl) (mtv rfl rfl (asv (.bool false) rfl) (MT.e ?_))))))))))
              obtain rfl := osi h48
              exact ⟨_, C, ⟨rfl, trivial⟩⟩
          · refine MT.n rfl rfl (gn rfl rfl rfl b52) trivial (MT.n rfl rfl (gn rfl rfl rfl b52) trivial (MT.n rfl rfl (gn rfl rfl rfl b52) trivial (MT.n rfl rfl (gn rfl rfl rfl b52) ⟨m51, trivial⟩ (MT.n rfl rfl (gn rfl rfl rfl b52) trivial (MT.n rfl rfl (gn rfl rfl rfl b52) trivial (mtv rfl rfl (pfk (.bool false) rfl b52 rfl) (mtv rfl rfl (mvv (.bool false) rfl) (MT.n rfl rfl (gn rfl rfl rfl rfl) trivial (MT.n rfl rfl (gn rfl rfl rfl rfl) trivial (MT.n rfl rfl (gn rfl rfl rfl rfl) ⟨m51, trivial⟩ (MT.n rfl rfl (gn rfl rfl rfl rfl) trivial ?_)))))))))))
            refine MT.n rfl rfl (gn rfl rfl rfl rfl) trivial (MT.n rfl rfl (gn rfl rfl rfl rfl) trivial (MT.n rfl rfl (gn rfl rfl rfl rfl) ⟨m51, trivial⟩ (MT.n rfl rfl (gn rfl rfl rfl rfl) trivial (mtv rfl rfl (pfk (.bool false) rfl rfl rfl) (mtv rfl rfl (asv (.bool false) rfl) (MT.e ?_))))))
            obtain rfl := osi h48
            exact ⟨_, C, ⟨rfl, trivial⟩⟩
        · rintro ρ w57 ⟨S56, C, h58⟩
          refine h58.cw fun ρ => ?_
          clear h58
          refine cw_ret ?_
          obtain rfl := osi h
          exact ⟨_, rfl, _, rfl, C⟩
      · refine cw_f rfl b44 ?_
        refine cw_seq fun K59 k60 => ?_
        refine cw_region (sv (rv_eql rfl rfl) (sv (asv (.bool (a0.Op == (4 : Int))) rfl) (W.e (k60 _ _ ?_))))
        rcases bif_some h with ⟨b61, h⟩ | ⟨b61, h⟩
        · refine cw_t rfl b61 ?_
          refine cw_seq fun K62 k63 => ?_
          refine cw_region (sv (mvv (.bool y11.2) rfl) (sv (asv (.bool y11.2) rfl) (W.e (k63 _ _ (cw_ret ?_)))))
          obtain rfl := osi h
          exact ⟨_, rfl, _, rfl, C⟩
        · refine cw_f rfl b61 (cw_skip (k17 _ _ ?_))
          refine cw_seq fun K64 k65 => ?_
          refine cw_region (sv (asv (.bool false) rfl) (W.e (k65 _ _ (cw_ret ?_))))
          obtain rfl := osi h
          exact ⟨_, rfl, _, rfl, C⟩

noncomputable def marigraphref07_All.b2 (a0 : List api_Ask) (a1 : List api_Label) (x13 : Int) : Option ((Int) ⊕ ((Unit) ⊕ (Bool))) :=
  (bif (decide (x13 < (a0.length : Int))) then ((at_ a0 x13).bind fun y25 => ((marigraphref07_One y25 a1).bind fun y30 => (bif (!y30) then some (.inr (.inr false)) else (pur (IntKind.i64.wrap (x13 + (1 : Int))) fun y39 => some (.inl y39))))) else some (.inr (.inl ())))
noncomputable def marigraphref07_All (a0 : List api_Ask) (a1 : List api_Label) : Option Bool :=
  ((iter (fun s : Int => marigraphref07_All.b2 a0 a1 s) (0 : Int)).bind (Sum.elim (fun o3n => some true) (fun q => some q)))
theorem marigraphref07_All_w {S : Nat → Prop} {w : World} {a0 : List api_Ask} {a1 : List api_Label} {v0 v1 : Value} {r : Bool} (hS : Sb S w) (h0 : Sl (kSl api_Ask.k) S w v0 a0) (h1 : Sl (kSl api_Label.k) S w v1 a1) (h : marigraphref07_All a0 a1 = some r) :
    Calls Tryz.prog 56 (List.toArray [v0, v1]) w fun e w1 => ∃ S1, e = .returned (.bool r) ∧ Cx No S w S1 w1 := by
  refine enter Tryz.func56 rfl (by kernel_rfl) rfl ?_
  have C := Cx.refl (F := No) hS
  unfold marigraphref07_All at h
  refine cw_seq fun K1 k2 => ?_
  refine cw_region (sv (asv (.bool false) rfl) (W.e (k2 _ _ ?_)))
  obtain ⟨o3, h6, h⟩ := bnds_some h
  refine cw_seq' (fun ρ w1 => ∃ o3n, o3 = (.inl o3n) ∧ ∃ S1, Cx No S w S1 w1 ∧ Has ρ []) ?_ ?_
  · refine cw_seq fun K7 k8 => ?_
    refine cw_region (sv (asv (.int .i64 0) rfl) (W.e (k8 _ _ (cw_block ?_))))
    refine cw_iter h6 (fun s ρ w1 => ∃ S1, Cx No S w S1 w1 ∧ Has ρ [(0, v0), (1, v1), (5, .int .i64 s)] ∧ Sl (kSl api_Ask.k) S1 w1 v0 a0 ∧ Sl (kSl api_Label.k) S1 w1 v1 a1) ⟨_, C, ⟨rfl, rfl, rfl, trivial⟩, h0, h1⟩ ?_
    rintro x13 q9 ρ w11 ⟨S10, C, h12, h0, h1⟩ h15 h14
    refine h12.cw fun ρ => ?_
    clear h12
    replace h15 : marigraphref07_All.b2 a0 a1 x13 = some q9 := h15
    unfold marigraphref07_All.b2 at h15
    refine cw_seq fun K16 k17 => ?_
    refine cw_seq fun K18 k19 => ?_
    refine cw_region (sv (mvv (.int .i64 x13) rfl) (sv (mvv v0 rfl) (sv (rv_lenS el32 h0 rfl) (sv (rv_lss rfl rfl) (W.e (k19 _ _ ?_))))))
    rcases bif_some h15 with ⟨b20, h15⟩ | ⟨b20, h15⟩
    · refine cw_t rfl b20 (cw_skip (k17 _ _ ?_))
      refine cw_seq fun K21 k22 => ?_
      refine cw_block ?_
      refine cw_seq fun K23 k24 => ?_
      refine cw_region (sv (mvv v0 rfl) (sv (mvv (.int .i64 x13) rfl) ?_))
      obtain ⟨y25, h26, h15⟩ := bnd_some h15
      refine sv (rv_index el32 h0 rfl rfl h26) ?_
      obtain ⟨v27, h28, h29⟩ := rw_loadA (P := Tryz.prog) el32 h0 h26
      obtain rfl := api_Ask.o.1 h28
      refine sr (h29 _ (Sm.refl _ _) rfl) (sv (mvv v1 rfl) ?_)
      obtain ⟨y30, h31, h15⟩ := bnd_some h15
      refine sc (dc_call (vs := [.agg (List.toArray [.int .u8 y25.Op, .string y25.Name, .string y25.Val]), v1]) can83 rfl ?_)
      refine (marigraphref07_One_w C.sb ((api_Ask.o (x := y25)).2 rfl) h1 h31).mono ?_
      rintro _ w32 ⟨S33, rfl, c34⟩
      refine ⟨_, rfl, ?_⟩
      replace h0 := h0.cx c34
      replace h1 := h1.cx c34
      replace C := C.trans c34
      refine sv (rv_not rfl) (W.e (k24 _ _ ?_))
      rcases bif_some h15 with ⟨b35, h15⟩ | ⟨b35, h15⟩
      · refine cw_t rfl b35 ?_
        refine cw_seq fun K36 k37 => ?_
        refine cw_region (sv (asv (.bool false) rfl) (W.e (k37 _ _ (cw_ret ?_))))
        obtain rfl := osi h15
        have h38 := congrArg some h14
        obtain rfl := osi h38
        replace h := h.2 _ rfl
        obtain rfl := osi h
        exact ⟨_, rfl, _, rfl, C⟩
      · refine cw_f rfl b35 (cw_skip (k22 _ _ (cw_region (sv (mvv (.int .i64 x13) rfl) ?_))))
        obtain ⟨y39, h40, h15⟩ := pur_some h15
        refine sv (rv_add rfl rfl h40) (sv (asv (.int .i64 y39) rfl) (W.e ?_))
        obtain rfl := osi h15
        exact ⟨_, rfl, ⟨_, C, ⟨rfl, rfl, rfl, trivial⟩, h0, h1⟩⟩
    · refine cw_f rfl b20 (cw_exit ?_)
      obtain rfl := osi h15
      have h41 := congrArg some h14
      obtain rfl := osi h41
      exact ⟨_, rfl, ⟨_, C, trivial⟩⟩
  · rintro ρ w43 ⟨o3n, rfl, ⟨S42, C, h44⟩⟩
    replace h := h.1 _ rfl
    refine h44.cw fun ρ => ?_
    clear h44
    refine cw_seq fun K45 k46 => ?_
    refine cw_region (sv (asv (.bool true) rfl) (W.e (k46 _ _ (cw_ret ?_))))
    obtain rfl := osi h
    exact ⟨_, rfl, _, rfl, C⟩

noncomputable def marigraphref08_Index_Find.b2 (a0 : marigraphref08_Index) (a1 : List api_Ask) (x29 : List Int) (x30 : Int) : Option (((List Int) × Int) ⊕ ((List Int))) :=
  (bif (decide (x30 < (a0.S.length : Int))) then (((at_ a0.S x30).bind fun y52 => ((marigraphref07_All a1 y52.L).bind fun y59 => (bif y59 then ((at_ a0.S x30).bind fun y69 => ((app_ 8 x29 ([y69.Id] : List Int)).bind fun y83 => some y83)) else some x29))).bind fun o42 => (pur (IntKind.i64.wrap (x30 + (1 : Int))) fun y97 => some (.inl (o42, y97)))) else some (.inr x29))
noncomputable def marigraphref08_Index_Find (a0 : marigraphref08_Index) (a1 : List api_Ask) : Option ((List Int) × Int) :=
  ((marigraphref07_Right a1).bind fun y7 => (bif (!y7) then some (([] : List Int), (1 : Int)) else ((iter (fun s : (List Int) × Int => marigraphref08_Index_Find.b2 a0 a1 s.1 s.2) (([] : List Int), (0 : Int))).bind fun o17 => some (o17, (0 : Int)))))
theorem marigraphref08_Index_Find_w {S : Nat → Prop} {w : World} {a0 : marigraphref08_Index} {a1 : List api_Ask} {v0 v1 : Value} {cs0 : List Value} {fp0 : List Nat} {r : (List Int) × Int} (hS : Sb S w) (h0 : Ob 29 (marigraphref08_Index.fs a0) S w v0 cs0 fp0) (h1 : Sl (kSl api_Ask.k) S w v1 a1) (h : marigraphref08_Index_Find a0 a1 = some r) :
    Calls Tryz.prog 20 (List.toArray [v0, v1]) w fun e w1 => ∃ S1 u0, e = .returned (.tuple (List.toArray [u0, .int .i64 r.2])) ∧ Cx No S w S1 w1 ∧ Ow (kI .i64) 3 S1 w.heap.size w1 u0 r.1 := by
  refine enter Tryz.func20 rfl (by kernel_rfl) rfl ?_
  have C := Cx.refl (F := No) hS
  unfold marigraphref08_Index_Find at h
  have hl0 : ∀ b ∈ fp0, b < w.heap.size := fun b hb => (h0.lt b hb).1
  refine cw_seq fun K1 k2 => ?_
  refine cw_region (sv (asv (.slice none 0 0) rfl) (sv (asv (.int .i64 0) rfl) (W.e (k2 _ _ ?_))))
  refine cw_seq fun K3 k4 => ?_
  refine cw_seq fun K5 k6 => ?_
  refine cw_region (sv (mvv v1 rfl) ?_)
  obtain ⟨y7, h8, h⟩ := bnd_some h
  refine sc (dc_call (vs := [v1]) can55 rfl ?_)
  refine (marigraphref07_Right_w C.sb h1 h8).mono ?_
  rintro _ w9 ⟨S10, rfl, c11⟩
  refine ⟨_, rfl, ?_⟩
  replace h0 := h0.cx c11
  replace h1 := h1.cx c11
  replace C := C.trans c11
  refine sv (rv_not rfl) (W.e (k6 _ _ ?_))
  rcases bif_some h with ⟨b12, h⟩ | ⟨b12, h⟩
  · refine cw_t rfl b12 ?_
    refine cw_seq fun K13 k14 => ?_
    refine cw_region (sv (asv (.slice none 0 0) rfl) (sv (asv (.int .i64 1) rfl) (W.e (k14 _ _ (cw_ret ?_)))))
    obtain rfl := osi h
    exact ⟨_, rfl, _, _, rfl, C, Ow.nil _ _ _ _ _⟩
  · refine cw_f rfl b12 (cw_skip (k4 _ _ ?_))
    refine cw_seq fun K15 k16 => ?_
    refine cw_region (sv (asv (.slice none 0 0) rfl) (W.e (k16 _ _ ?_)))
    obtain ⟨o17, h20, h⟩ := bnd_some h
    refine cw_seq' (fun ρ w1 => ∃ S1 v102, Cx No S w S1 w1 ∧ Has ρ [(6, v102)] ∧ Ow (kI .i64) 3 S1 w.heap.size w1 v102 o17) ?_ ?_
    · refine cw_seq fun K21 k22 => ?_
      refine cw_region (sv (asv (.int .i64 0) rfl) (W.e (k22 _ _ (cw_block ?_))))
      refine cw_iter h20 (fun s ρ w1 => ∃ S1 v26, Cx No S w S1 w1 ∧ Has ρ [(0, v0), (1, v1), (6, v26), (7, .int .i64 s.2)] ∧ Sl (kSl api_Ask.k) S1 w1 v1 a1 ∧ Ow (kI .i64) 3 S1 w.heap.size w1 v26 s.1 ∧ Ob 29 (marigraphref08_Index.fs a0) S1 w1 v0 cs0 fp0) ⟨_, _, C, ⟨rfl, rfl, rfl, rfl, trivial⟩, h1, Ow.nil _ _ _ _ _, h0⟩ ?_
      rintro ⟨x29, x30⟩ q23 ρ w25 ⟨S24, v26, C, h28, h1, h27, h0⟩ h32 h31
      refine h28.cw fun ρ => ?_
      clear h28
      replace h32 : marigraphref08_Index_Find.b2 a0 a1 x29 x30 = some q23 := h32
      unfold marigraphref08_Index_Find.b2 at h32
      refine cw_seq fun K33 k34 => ?_
      refine cw_seq fun K35 k36 => ?_
      refine cw_region (sv (mvv (.int .i64 x30) rfl) (sv (mvv v0 rfl) (sv (rv_nilcheck rfl h0.ptr) (sv (rv_fieldAddr (b := pb v0) (o := 0) st29 rfl h0.ptr) ?_))))
      obtain ⟨c37, h38, h39, h40⟩ := Ob.rowR (i := 0) h0 rfl
      refine sr (rw_ofield (i := 0) (c := c37) h0 ag27 h38 rfl) (sv (rv_lenS el27 h39.sealed rfl) (sv (rv_lss rfl rfl) (W.e (k36 _ _ ?_))))
      rcases bif_some h32 with ⟨b41, h32⟩ | ⟨b41, h32⟩
      · refine cw_t rfl b41 (cw_skip (k34 _ _ ?_))
        obtain ⟨o42, h45, h32⟩ := bnd_some h32
        refine cw_seq' (fun ρ w1 => ∃ S1 v94, Cx No S w S1 w1 ∧ Has ρ [(0, v0), (1, v1), (6, v94), (7, .int .i64 x30)] ∧ Sl (kSl api_Ask.k) S1 w1 v1 a1 ∧ Ow (kI .i64) 3 S1 w.heap.size w1 v94 o42 ∧ Ob 29 (marigraphref08_Index.fs a0) S1 w1 v0 cs0 fp0) ?_ ?_
        · refine cw_block ?_
          refine cw_seq fun K46 k47 => ?_
          refine cw_region (sv (mvv v1 rfl) (sv (mvv v0 rfl) (sv (rv_nilcheck rfl h0.ptr) (sv (rv_fieldAddr (b := pb v0) (o := 0) st29 rfl h0.ptr) ?_))))
          obtain ⟨c48, h49, h50, h51⟩ := Ob.rowR (i := 0) h0 rfl
          refine sr (rw_ofield (i := 0) (c := c48) h0 ag27 h49 rfl) (sv (mvv (.int .i64 x30) rfl) ?_)
          obtain ⟨y52, h53, h45⟩ := bnd_some h45
          refine sv (rv_index el27 h50.sealed rfl rfl h53) (sv (rv_fieldAddr st79 rfl rfl) ?_)
          obtain ⟨cs54, h55, h56⟩ := Ow.cellsO h50 h53
          obtain ⟨c57, rfl, g58⟩ := marigraphref08_Series.r.1 h55
          refine sr (rw_el1 (off := 1) ag31 (h56 _ (Sm.refl _ _)) rfl rfl) ?_
          obtain ⟨y59, h60, h45⟩ := bnd_some h45
          refine sc (dc_call (vs := [v1, c57]) can56 rfl ?_)
          refine (marigraphref07_All_w C.sb h1 g58 h60).mono ?_
          rintro _ w61 ⟨S62, rfl, c63⟩
          refine ⟨_, rfl, ?_⟩
          replace h0 := h0.cx c63
          replace h1 := h1.cx c63
          replace h27 := h27.cx c63
          replace C := C.trans c63
          refine W.e (k47 _ _ ?_)
          rcases bif_some h45 with ⟨b64, h45⟩ | ⟨b64, h45⟩
          · refine cw_t rfl b64 (cw_region (sv (mvv v26 rfl) (sv (mvv v0 rfl) (sv (rv_nilcheck rfl h0.ptr) (sv (rv_fieldAddr (b := pb v0) (o := 0) st29 rfl h0.ptr) ?_)))))
            obtain ⟨c65, h66, h67, h68⟩ := Ob.rowR (i := 0) h0 rfl
            refine sr (rw_ofield (i := 0) (c := c65) h0 ag27 h66 rfl) (sv (mvv (.int .i64 x30) rfl) ?_)
            obtain ⟨y69, h70, h45⟩ := bnd_some h45
            refine sv (rv_index el27 h67.sealed rfl rfl h70) (sv (rv_fieldAddr st79 rfl rfl) ?_)
            obtain ⟨cs71, h72, h73⟩ := Ow.cellsO h67 h70
            obtain ⟨c74, rfl, g75⟩ := marigraphref08_Series.r.1 h72
            refine sr (rw_el1 (off := 0) ag3 (h73 _ (Sm.refl _ _)) rfl rfl) ?_
            refine sc (dc_lit (vs := [.int .i64 y69.Id]) (xs := ([y69.Id] : List Int)) (base := w.heap.size) el49 rfl rfl (.cons (sl_sc.2 rfl) (.nil)) (Nat.le_of_ble_eq_true rfl) C.up.size C.sb fun v76 w77 h78 h79 u80 => ?_)
            have p81 := ap_fresh h79 (fun b hb => (h0.lt b hb).1)
            have p82 := ap_fresh h79 (fun b hb => (h27.lt b hb).2)
            replace h0 := h0.nw u80
            replace h1 := h1.nw u80
            replace h27 := h27.nw u80
            replace C := C.new u80
            obtain ⟨y83, h84, h45⟩ := bnd_some h45
            have h90 := h27
            refine sc (dc_append el49 (by decide) h90 h78.src rfl rfl h84 C.up.size C.sb fun v85 w86 h87 u88 h89 => ?_)
            have p91 := ap_grow (ap_symm (fun b hq hb => absurd (h27.lt b hb).1 (Nat.not_le_of_lt (hl0 b hq)))) h89 (fun b hb => (h0.lt b hb).1)
            replace h0 := h0.wr u88 h90.not (fun b hq hb => absurd (h90.lt b hb).1 (Nat.not_le_of_lt (hl0 b hq)))
            replace h1 := h1.wr u88 h90.not
            replace C := C.ow h90 u88
            refine sv (asv v85 rfl) (W.e ?_)
            obtain rfl := osi h45
            exact ⟨_, _, C, ⟨rfl, rfl, rfl, rfl, trivial⟩, h1, h87, h0⟩
          · refine cw_f rfl b64 (cw_skip ?_)
            obtain rfl := osi h45
            exact ⟨_, _, C, ⟨rfl, rfl, rfl, rfl, trivial⟩, h1, h27, h0⟩
        · rintro ρ w93 ⟨S92, v94, C, h96, h1, h95, h0⟩
          refine h96.cw fun ρ => ?_
          clear h96
          refine cw_region (sv (mvv (.int .i64 x30) rfl) ?_)
          obtain ⟨y97, h98, h32⟩ := pur_some h32
          refine sv (rv_add rfl rfl h98) (sv (asv (.int .i64 y97) rfl) (W.e ?_))
          obtain rfl := osi h32
          exact ⟨_, rfl, ⟨_, _, C, ⟨rfl, rfl, rfl, rfl, trivial⟩, h1, h95, h0⟩⟩
      · refine cw_f rfl b41 (cw_exit ?_)
        obtain rfl := osi h32
        have h99 := congrArg some h31
        obtain rfl := osi h99
        exact ⟨_, _, C, ⟨rfl, trivial⟩, h27⟩
    · rintro ρ w101 ⟨S100, v102, C, h104, h103⟩
      refine h104.cw fun ρ => ?_
      clear h104
      refine cw_seq fun K105 k106 => ?_
      refine cw_region (sv (mvv v102 rfl) (sv (asv v102 rfl) (sv (asv (.int .i64 0) rfl) (W.e (k106 _ _ (cw_ret ?_))))))
      obtain rfl := osi h
      exact ⟨_, rfl, _, _, rfl, C, h103⟩

noncomputable def marigraphlaw08_few.b2 (a0 : List api_Label) (x13 : Int) : Option ((Int) ⊕ ((Unit) ⊕ ((List api_Label)))) :=
  (bif (decide (x13 < (a0.length : Int))) then (((at_ a0 x13).bind fun y27 => (pur y27 fun y37 => ((bif (decide ((12 : Int) ≤ x13)) then some true else (bif (decide ((100 : Int) < (y37.Name.size : Int))) then some true else some (decide ((100 : Int) < (y37.Val.size : Int))))).bind fun o43 => (bif o43 then ((upto_ a0 x13).bind fun y61 => some (.inr (.inr (.inr y61)))) else some (.inl ()))))).bind (Sum.elim (fun o21n => (pur (IntKind.i64.wrap (x13 + (1 : Int))) fun y70 => some (.inl y70))) (fun q => some q))) else some (.inr (.inl ())))
noncomputable def marigraphlaw08_few (a0 : List api_Label) : Option (List api_Label) :=
  ((iter (fun s : Int => marigraphlaw08_few.b2 a0 s) (0 : Int)).bind (Sum.elim (fun o3n => some a0) (fun q => some q)))
theorem marigraphlaw08_few_w {S : Nat → Prop} {w : World} {a0 : List api_Label} {v0 : Value} {r : (List api_Label)} (hS : Sb S w) (h0 : Sl (kSl api_Label.k) S w v0 a0) (h : marigraphlaw08_few a0 = some r) :
    Calls Tryz.prog 21 (List.toArray [v0]) w fun e w1 => ∃ S1 u0, e = .returned (u0) ∧ Cx No S w S1 w1 ∧ Sl (kSl api_Label.k) S1 w1 u0 r := by
  refine enter Tryz.func21 rfl (by kernel_rfl) rfl ?_
  have C := Cx.refl (F := No) hS
  unfold marigraphlaw08_few at h
  refine cw_seq fun K1 k2 => ?_
  refine cw_region (sv (asv (.slice none 0 0) rfl) (W.e (k2 _ _ ?_)))
  obtain ⟨o3, h6, h⟩ := bnds_some h
  refine cw_seq' (fun ρ w1 => ∃ o3n, o3 = (.inl o3n) ∧ ∃ S1, Cx No S w S1 w1 ∧ Has ρ [(0, v0)] ∧ Sl (kSl api_Label.k) S1 w1 v0 a0) ?_ ?_
  · refine cw_seq fun K7 k8 => ?_
    refine cw_region (sv (mvv v0 rfl) (sv (rv_lenS el31 h0 rfl) (sv (mvv (.int .i64 0) rfl) (W.e (k8 _ _ (cw_block ?_))))))
    refine cw_iter h6 (fun s ρ w1 => ∃ S1, Cx No S w S1 w1 ∧ Has ρ [(0, v0), (5, v0), (6, .int .i64 (a0.length : Int)), (7, .int .i64 s)] ∧ Sl (kSl api_Label.k) S1 w1 v0 a0) ⟨_, C, ⟨rfl, rfl, rfl, rfl, trivial⟩, h0⟩ ?_
    rintro x13 q9 ρ w11 ⟨S10, C, h12, h0⟩ h15 h14
    refine h12.cw fun ρ => ?_
    clear h12
    replace h15 : marigraphlaw08_few.b2 a0 x13 = some q9 := h15
    unfold marigraphlaw08_few.b2 at h15
    refine cw_seq fun K16 k17 => ?_
    refine cw_region (sv (rv_lss rfl rfl) (W.e (k17 _ _ ?_)))
    refine cw_seq fun K18 k19 => ?_
    rcases bif_some h15 with ⟨b20, h15⟩ | ⟨b20, h15⟩
    · refine cw_t rfl b20 (cw_skip (k19 _ _ ?_))
      obtain ⟨o21, h24, h15⟩ := bnds_some h15
      refine cw_seq' (fun ρ w1 => ∃ o21n, o21 = (.inl o21n) ∧ ∃ S1, Cx No S w S1 w1 ∧ Has ρ [(0, v0), (5, v0), (6, .int .i64 (a0.length : Int)), (7, .int .i64 x13)] ∧ Sl (kSl api_Label.k) S1 w1 v0 a0) ?_ ?_
      · refine cw_block ?_
        refine cw_seq fun K25 k26 => ?_
        refine cw_region (sv (mvv (.int .i64 x13) rfl) ?_)
        obtain ⟨y27, h28, h24⟩ := bnd_some h24
        refine sv (rv_index el31 h0 rfl rfl h28) ?_
        obtain ⟨v29, h30, h31⟩ := rw_loadA (P := Tryz.prog) el31 h0 h28
        obtain rfl := api_Label.o.1 h30
        refine sr (h31 _ (Sm.refl _ _) rfl) ?_
        refine sc (dc_allocO (x0 := (api_Label.mk ByteArray.empty ByteArray.empty)) (base := w.heap.size) el31 zr46 (fun _ => api_Label.r.2 rfl) C.up.size C.sb fun b32 w33 h34 h35 u36 => ?_)
        replace h0 := h0.nw u36
        replace C := C.new u36
        refine sv (asv (.int .i64 x13) rfl) ?_
        obtain ⟨y37, h38, h24⟩ := pur_some h24
        have h42 := h34
        refine sc (dc_storeO el31 h42 (show at_ [(api_Label.mk ByteArray.empty ByteArray.empty)] (0 : Int) = some (api_Label.mk ByteArray.empty ByteArray.empty) from rfl) rfl rfl (((api_Label.o (x := y27)).2 rfl)) fun w39 h40 u41 => ?_)
        replace h40 : Ow api_Label.k 46 S10 w.heap.size w39 (.slice (some ⟨b32, 0, none⟩) 1 1) [y27] := h40
        rw [h38] at h40
        replace h0 := h0.wr u41 h42.not
        replace C := C.ow h42 u41
        refine W.e (k26 _ _ ?_)
        obtain ⟨o43, h46, h24⟩ := bnd_some h24
        refine cw_seq' (fun ρ w1 => ∃ S1, Cx No S w S1 w1 ∧ Has ρ [(0, v0), (3, .int .i64 x13), (5, v0), (6, .int .i64 (a0.length : Int)), (7, .int .i64 x13), (25, .bool o43)] ∧ Sl (kSl api_Label.k) S1 w1 v0 a0) ?_ ?_
        · refine cw_region (sv (mvv (.int .i64 x13) rfl) (sv (rv_geq rfl rfl) (sv (mvv (.bool (decide ((12 : Int) ≤ x13))) rfl) ?_)))
          rcases bif_some h46 with ⟨b47, h46⟩ | ⟨b47, h46⟩
          · refine W.n (gn rfl rfl rfl b47) (W.n (gn rfl rfl rfl b47) (W.n (gn rfl rfl rfl b47) (W.n (gn rfl rfl rfl b47) (sv (ptk (.bool true) rfl b47 rfl) (sv (mvv (.bool true) rfl) (W.n (gn rfl rfl rfl rfl) (W.n (gn rfl rfl rfl rfl) (W.n (gn rfl rfl rfl rfl) (W.n (gn rfl rfl rfl rfl) (sv (ptk (.bool true) rfl rfl rfl) (W.e ?_)))))))))))
            obtain rfl := osi h46
            exact ⟨_, C, ⟨rfl, rfl, rfl, rfl, rfl, rfl, trivial⟩, h0⟩
          · refine W.v (gy rfl rfl rfl b47) (rv_fieldAddr st46 rfl rfl) ?_
            obtain ⟨cs48, h49, h50⟩ := Ow.cellsO h40 (show at_ [y37] (0 : Int) = some y37 from rfl)
            obtain rfl := api_Label.r.1 h49
            refine W.r (gy rfl rfl rfl b47) (rw_el1 (off := 0) ag9 (h50 _ (Sm.refl _ _)) rfl rfl) (W.v (gy rfl rfl rfl b47) (rv_slen Tryz.underlying9 rfl) (W.v (gy rfl rfl rfl b47) (rv_gtr rfl rfl) (sv (pfk (.bool (decide ((100 : Int) < (y37.Name.size : Int)))) rfl b47 rfl) (sv (mvv (.bool (decide ((100 : Int) < (y37.Name.size : Int)))) rfl) ?_))))
            rcases bif_some h46 with ⟨b51, h46⟩ | ⟨b51, h46⟩
            · refine W.n (gn rfl rfl rfl b51) (W.n (gn rfl rfl rfl b51) (W.n (gn rfl rfl rfl b51) (W.n (gn rfl rfl rfl b51) (sv (ptk (.bool true) rfl b51 rfl) (W.e ?_)))))
              obtain rfl := osi h46
              exact ⟨_, C, ⟨rfl, rfl, rfl, rfl, rfl, rfl, trivial⟩, h0⟩
            · refine W.v (gy rfl rfl rfl b51) (rv_fieldAddr st46 rfl rfl) ?_
              obtain ⟨cs52, h53, h54⟩ := Ow.cellsO h40 (show at_ [y37] (0 : Int) = some y37 from rfl)
              obtain rfl := api_Label.r.1 h53
              refine W.r (gy rfl rfl rfl b51) (rw_el1 (off := 1) ag9 (h54 _ (Sm.refl _ _)) rfl rfl) (W.v (gy rfl rfl rfl b51) (rv_slen Tryz.underlying9 rfl) (W.v (gy rfl rfl rfl b51) (rv_gtr rfl rfl) (sv (pfk (.bool (decide ((100 : Int) < (y37.Val.size : Int)))) rfl b51 rfl) (W.e ?_))))
              obtain rfl := osi h46
              exact ⟨_, C, ⟨rfl, rfl, rfl, rfl, rfl, rfl, trivial⟩, h0⟩
        · rintro ρ w56 ⟨S55, C, h57, h0⟩
          refine h57.cw fun ρ => ?_
          clear h57
          rcases bif_some h24 with ⟨b58, h24⟩ | ⟨b58, h24⟩
          · refine cw_t rfl b58 ?_
            refine cw_seq fun K59 k60 => ?_
            refine cw_region (sv (mvv v0 rfl) (sv (mvv (.int .i64 x13) rfl) ?_))
            obtain ⟨y61, h62, h24⟩ := bnd_some h24
            obtain ⟨v63, h64, h65⟩ := rv_uptoA (P := Tryz.prog) el31 h0 h62
            refine sv (h65 rfl rfl) (sv (asv v63 rfl) (W.e (k60 _ _ (cw_ret ?_))))
            obtain rfl := osi h24
            replace h15 := h15.2 _ rfl
            obtain rfl := osi h15
            have h66 := congrArg some h14
            obtain rfl := osi h66
            replace h := h.2 _ rfl
            obtain rfl := osi h
            exact ⟨_, rfl, _, _, rfl, C, h64⟩
          · refine cw_f rfl b58 (cw_skip ?_)
            obtain rfl := osi h24
            exact ⟨_, rfl, ⟨_, C, ⟨rfl, rfl, rfl, rfl, trivial⟩, h0⟩⟩
      · rintro ρ w68 ⟨o21n, rfl, ⟨S67, C, h69, h0⟩⟩
        replace h15 := h15.1 _ rfl
        refine h69.cw fun ρ => ?_
        clear h69
        refine cw_region ?_
        obtain ⟨y70, h71, h15⟩ := pur_some h15
        refine sv (rv_add rfl rfl h71) (sv (mvv (.int .i64 y70) rfl) (W.e ?_))
        obtain rfl := osi h15
        exact ⟨_, rfl, ⟨_, C, ⟨rfl, rfl, rfl, rfl, trivial⟩, h0⟩⟩
    · refine cw_f rfl b20 (cw_exit ?_)
      obtain rfl := osi h15
      have h72 := congrArg some h14
      obtain rfl := osi h72
      exact ⟨_, rfl, ⟨_, C, ⟨rfl, trivial⟩, h0⟩⟩
  · rintro ρ w74 ⟨o3n, rfl, ⟨S73, C, h75, h0⟩⟩
    replace h := h.1 _ rfl
    refine h75.cw fun ρ => ?_
    clear h75
    refine cw_seq fun K76 k77 => ?_
    refine cw_region (sv (mvv v0 rfl) (sv (asv v0 rfl) (W.e (k77 _ _ (cw_ret ?_)))))
    obtain rfl := osi h
    exact ⟨_, rfl, _, _, rfl, C, h0⟩

noncomputable def marigraphref05_Sort.b7 (a0 : List api_Label) (x17 : List api_Label) (x18 : Int) (x52 : Int) : Option ((Int) ⊕ (Int)) :=
  (((bif (decide (x52 < (x17.length : Int))) then ((at_ x17 x52).bind fun y67 => ((at_ a0 x18).bind fun y72 => some (strLt y67.Name y72.Name))) else some false).bind fun o59 => (bif o59 then some (.inl ()) else some (.inr (.inr x52)))).bind (Sum.elim (fun o55n => (pur (IntKind.i64.wrap (x52 + (1 : Int))) fun y85 => some (.inl y85))) (fun q => some q)))
noncomputable def marigraphref05_Sort.b2 (a0 : List api_Label) (x17 : List api_Label) (x18 : Int) : Option (((List api_Label) × Int) ⊕ ((List api_Label))) :=
  (((bif (decide (x18 < (a0.length : Int))) then some (decide (x18 ≤ (6 : Int))) else some false).bind fun o25 => (bif o25 then some (.inl ()) else some (.inr (.inr x17)))).bind (Sum.elim (fun o21n => (((iter (fun s : Int => marigraphref05_Sort.b7 a0 x17 x18 s) (0 : Int)).bind fun o44 => ((from_ x17 o44).bind fun y98 => ((app_ 32 ([] : List api_Label) y98).bind fun y104 => ((upto_ x17 o44).bind fun y118 => ((at_ a0 x18).bind fun y125 => ((app_ 32 y118 ([y125] : List api_Label)).bind fun y139 => ((app_ 32 y139 y104).bind fun y150 => some y150))))))).bind fun o38 => (pur (IntKind.i64.wrap (x18 + (1 : Int))) fun y163 => some (.inl (o38, y163))))) (fun q => some q)))
noncomputable def marigraphref05_Sort (a0 : List api_Label) : Option ((List api_Label) × Int) :=
  ((iter (fun s : (List api_Label) × Int => marigraphref05_Sort.b2 a0 s.1 s.2) (([] : List api_Label), (0 : Int))).bind fun o5 => ((marigraphref05_Right o5).bind fun y174 => (bif (!y174) then some (([] : List api_Label), (50 : Int)) else some (o5, (0 : Int)))))
theorem marigraphref05_Sort_w {S : Nat → Prop} {w : World} {a0 : List api_Label} {v0 : Value} {r : (List api_Label) × Int} (hS : Sb S w) (h0 : Sl (kSl api_Label.k) S w v0 a0) (h : marigraphref05_Sort a0 = some r) :
    Calls Tryz.prog 57 (List.toArray [v0]) w fun e w1 => ∃ S1 u0, e = .returned (.tuple (List.toArray [u0, .int .i64 r.2])) ∧ Cx No S w S1 w1 ∧ Sl (kSl api_Label.k) S1 w1 u0 r.1 := by
  refine enter Tryz.func57 rfl (by kernel_rfl) rfl ?_
  have C := Cx.refl (F := No) hS
  unfold marigraphref05_Sort at h
  refine cw_seq fun K1 k2 => ?_
  refine cw_region (sv (asv (.slice none 0 0) rfl) (sv (asv (.int .i64 0) rfl) (W.e (k2 _ _ ?_))))
  refine cw_seq fun K3 k4 => ?_
  refine cw_region (sv (asv (.slice none 0 0) rfl) (W.e (k4 _ _ ?_)))
  obtain ⟨o5, h8, h⟩ := bnd_some h
  refine cw_seq' (fun ρ w1 => ∃ S1 v167, Cx No S w S1 w1 ∧ Has ρ [(4, v167)] ∧ Ow api_Label.k 46 S1 w.heap.size w1 v167 o5) ?_ ?_
  · refine cw_seq fun K9 k10 => ?_
    refine cw_region (sv (asv (.int .i64 0) rfl) (W.e (k10 _ _ (cw_block ?_))))
    refine cw_iter h8 (fun s ρ w1 => ∃ S1 v14, Cx No S w S1 w1 ∧ Has ρ [(0, v0), (4, v14), (5, .int .i64 s.2)] ∧ Sl (kSl api_Label.k) S1 w1 v0 a0 ∧ Ow api_Label.k 46 S1 w.heap.size w1 v14 s.1) ⟨_, _, C, ⟨rfl, rfl, rfl, trivial⟩, h0, Ow.nil _ _ _ _ _⟩ ?_
    rintro ⟨x17, x18⟩ q11 ρ w13 ⟨S12, v14, C, h16, h0, h15⟩ h20 h19
    refine h16.cw fun ρ => ?_
    clear h16
    replace h20 : marigraphref05_Sort.b2 a0 x17 x18 = some q11 := h20
    unfold marigraphref05_Sort.b2 at h20
    obtain ⟨o21, h24, h20⟩ := bnds_some h20
    refine cw_seq' (fun ρ w1 => ∃ o21n, o21 = (.inl o21n) ∧ ∃ S1, Cx No S w S1 w1 ∧ Has ρ [(0, v0), (4, v14), (5, .int .i64 x18)] ∧ Sl (kSl api_Label.k) S1 w1 v0 a0 ∧ Ow api_Label.k 46 S1 w.heap.size w1 v14 x17) ?_ ?_
    · obtain ⟨o25, h28, h24⟩ := bnd_some h24
      refine cw_seq' (fun ρ w1 => ∃ S1, Cx No S w S1 w1 ∧ Has ρ [(0, v0), (4, v14), (5, .int .i64 x18), (15, .bool o25)] ∧ Sl (kSl api_Label.k) S1 w1 v0 a0 ∧ Ow api_Label.k 46 S1 w.heap.size w1 v14 x17) ?_ ?_
      · refine cw_region (sv (mvv (.int .i64 x18) rfl) (sv (mvv v0 rfl) (sv (rv_lenS el31 h0 rfl) (sv (rv_lss rfl rfl) (sv (mvv (.bool (decide (x18 < (a0.length : Int)))) rfl) ?_)))))
        rcases bif_some h28 with ⟨b29, h28⟩ | ⟨b29, h28⟩
        · refine W.v (gy rfl rfl rfl b29) (mvv (.int .i64 x18) rfl) (W.v (gy rfl rfl rfl b29) (rv_leq rfl rfl) (sv (ptk (.bool (decide (x18 ≤ (6 : Int)))) rfl b29 rfl) (W.e ?_)))
          obtain rfl := osi h28
          exact ⟨_, C, ⟨rfl, rfl, rfl, rfl, trivial⟩, h0, h15⟩
        · refine W.n (gn rfl rfl rfl b29) (W.n (gn rfl rfl rfl b29) (sv (pfk (.bool false) rfl b29 rfl) (W.e ?_)))
          obtain rfl := osi h28
          exact ⟨_, C, ⟨rfl, rfl, rfl, rfl, trivial⟩, h0, h15⟩
      · rintro ρ w31 ⟨S30, C, h32, h0, h15⟩
        refine h32.cw fun ρ => ?_
        clear h32
        rcases bif_some h24 with ⟨b33, h24⟩ | ⟨b33, h24⟩
        · refine cw_t rfl b33 (cw_skip ?_)
          obtain rfl := osi h24
          exact ⟨_, rfl, ⟨_, C, ⟨rfl, rfl, rfl, trivial⟩, h0, h15⟩⟩
        · refine cw_f rfl b33 (cw_exit ?_)
          obtain rfl := osi h24
          replace h20 := h20.2 _ rfl
          obtain rfl := osi h20
          have h34 := congrArg some h19
          obtain rfl := osi h34
          exact ⟨_, _, C, ⟨rfl, trivial⟩, h15⟩
    · rintro ρ w36 ⟨o21n, rfl, ⟨S35, C, h37, h0, h15⟩⟩
      replace h20 := h20.1 _ rfl
      refine h37.cw fun ρ => ?_
      clear h37
      obtain ⟨o38, h41, h20⟩ := bnd_some h20
      refine cw_seq' (fun ρ w1 => ∃ S1 v160, Cx No S w S1 w1 ∧ Has ρ [(0, v0), (4, v160), (5, .int .i64 x18)] ∧ Sl (kSl api_Label.k) S1 w1 v0 a0 ∧ Ow api_Label.k 46 S1 w.heap.size w1 v160 o38) ?_ ?_
      · refine cw_block ?_
        refine cw_seq fun K42 k43 => ?_
        refine cw_region (sv (asv (.int .i64 0) rfl) (W.e (k43 _ _ ?_)))
        obtain ⟨o44, h47, h41⟩ := bnd_some h41
        refine cw_seq' (fun ρ w1 => ∃ S1, Cx No S w S1 w1 ∧ Has ρ [(0, v0), (4, v14), (5, .int .i64 x18), (6, .int .i64 o44)] ∧ Sl (kSl api_Label.k) S1 w1 v0 a0 ∧ Ow api_Label.k 46 S1 w.heap.size w1 v14 x17) ?_ ?_
        · refine cw_block ?_
          refine cw_iter h47 (fun s ρ w1 => ∃ S1, Cx No S w S1 w1 ∧ Has ρ [(0, v0), (4, v14), (5, .int .i64 x18), (6, .int .i64 s)] ∧ Sl (kSl api_Label.k) S1 w1 v0 a0 ∧ Ow api_Label.k 46 S1 w.heap.size w1 v14 x17) ⟨_, C, ⟨rfl, rfl, rfl, rfl, trivial⟩, h0, h15⟩ ?_
          rintro x52 q48 ρ w50 ⟨S49, C, h51, h0, h15⟩ h54 h53
          refine h51.cw fun ρ => ?_
          clear h51
          replace h54 : marigraphref05_Sort.b7 a0 x17 x18 x52 = some q48 := h54
          unfold marigraphref05_Sort.b7 at h54
          obtain ⟨o55, h58, h54⟩ := bnds_some h54
          refine cw_seq' (fun ρ w1 => ∃ o55n, o55 = (.inl o55n) ∧ ∃ S1, Cx No S w S1 w1 ∧ Has ρ [(0, v0), (4, v14), (5, .int .i64 x18), (6, .int .i64 x52)] ∧ Sl (kSl api_Label.k) S1 w1 v0 a0 ∧ Ow api_Label.k 46 S1 w.heap.size w1 v14 x17) ?_ ?_
          · obtain ⟨o59, h62, h58⟩ := bnd_some h58
            refine cw_seq' (fun ρ w1 => ∃ S1, Cx No S w S1 w1 ∧ Has ρ [(0, v0), (4, v14), (5, .int .i64 x18), (6, .int .i64 x52), (34, .bool o59)] ∧ Sl (kSl api_Label.k) S1 w1 v0 a0 ∧ Ow api_Label.k 46 S1 w.heap.size w1 v14 x17) ?_ ?_
            · refine cw_drawU (.one 0 true (.one 1 true (.one 2 true (.one 3 true (.one 4 true (.one 5 true (.one 6 true (.one 7 true (.one 8 true (.one 9 true (.one 10 true (.one 11 true (.one 12 true (.one 13 true (.one 14 true (.one 15 true (.one 16 true .done))))))))))))))))) [(9, [9]), (14, [9])] [] (fun c => bif Nat.beq c 9 then (fun _ => True) else No) fol (by kernel_rfl) fun w63 u64 => ?_
              replace h0 := h0.nw u64
              replace h15 := h15.nw u64
              replace C := C.new u64
              have m65 := Sm.refl (fun _ => True) w63
              refine mtv rfl rfl (mvv (.int .i64 x52) rfl) (mtv rfl rfl (mvv v14 rfl) (mtv rfl rfl (rv_lenS el31 h15.sealed rfl) (mtv rfl rfl (rv_lss rfl rfl) (mtv rfl rfl (mvv (.bool (decide (x52 < (x17.length : Int)))) rfl) ?_))))
              rcases bif_some h62 with ⟨b66, h62⟩ | ⟨b66, h62⟩
              · refine MT.vv rfl rfl (gy rfl rfl rfl b66) (mvv v14 rfl) (MT.vv rfl rfl (gy rfl rfl rfl b66) (mvv (.int .i64 x52) rfl) ?_)
                obtain ⟨y67, h68, h62⟩ := bnd_some h62
                refine MT.vv rfl rfl (gy rfl rfl rfl b66) (rv_index el31 h15.sealed rfl rfl h68) (MT.vv rfl rfl (gy rfl rfl rfl b66) (rv_fieldAddr st46 rfl rfl) ?_)
                obtain ⟨cs69, h70, h71⟩ := Ow.cellsO h15 h68
                obtain rfl := api_Label.r.1 h70
                refine MT.r rfl rfl (gy rfl rfl rfl b66) ⟨m65, trivial⟩ (fun w' hq => rw_el1 (off := 0) ag9 (h71 w' (hq.1.mono fun _ _ => trivial)) rfl rfl) (MT.vv rfl rfl (gy rfl rfl rfl b66) (mvv v0 rfl) (MT.vv rfl rfl (gy rfl rfl rfl b66) (mvv (.int .i64 x18) rfl) ?_))
                obtain ⟨y72, h73, h62⟩ := bnd_some h62
                refine MT.vv rfl rfl (gy rfl rfl rfl b66) (rv_index el31 h0 rfl rfl h73) (MT.vv rfl rfl (gy rfl rfl rfl b66) (rv_fieldAddr st46 rfl rfl) ?_)
                obtain ⟨cs74, h75, h76⟩ := Sl.cells h0 h73
                obtain rfl := api_Label.r.1 h75
                refine MT.r rfl rfl (gy rfl rfl rfl b66) ⟨m65, trivial⟩ (fun w' hq => rw_el1 (off := 0) ag9 (h76 w' (hq.1.mono fun _ _ => trivial)) rfl rfl) (MT.vv rfl rfl (gy rfl rfl rfl b66) (rv_slss rfl rfl) (mtv rfl rfl (ptk (.bool (strLt y67.Name y72.Name)) rfl b66 rfl) (MT.e ?_)))
                obtain rfl := osi h62
                exact ⟨_, C, ⟨rfl, rfl, rfl, rfl, rfl, trivial⟩, h0, h15⟩
              · refine MT.n rfl rfl (gn rfl rfl rfl b66) trivial (MT.n rfl rfl (gn rfl rfl rfl b66) trivial (MT.n rfl rfl (gn rfl rfl rfl b66) trivial (MT.n rfl rfl (gn rfl rfl rfl b66) trivial (MT.n rfl rfl (gn rfl rfl rfl b66) ⟨m65, trivial⟩ (MT.n rfl rfl (gn rfl rfl rfl b66) trivial (MT.n rfl rfl (gn rfl rfl rfl b66) trivial (MT.n rfl rfl (gn rfl rfl rfl b66) trivial (MT.n rfl rfl (gn rfl rfl rfl b66) trivial (MT.n rfl rfl (gn rfl rfl rfl b66) ⟨m65, trivial⟩ (MT.n rfl rfl (gn rfl rfl rfl b66) trivial (mtv rfl rfl (pfk (.bool false) rfl b66 rfl) ?_)))))))))))
                refine MT.e ?_
                obtain rfl := osi h62
                exact ⟨_, C, ⟨rfl, rfl, rfl, rfl, rfl, trivial⟩, h0, h15⟩
            · rintro ρ w78 ⟨S77, C, h79, h0, h15⟩
              refine h79.cw fun ρ => ?_
              clear h79
              rcases bif_some h58 with ⟨b80, h58⟩ | ⟨b80, h58⟩
              · refine cw_t rfl b80 (cw_skip ?_)
                obtain rfl := osi h58
                exact ⟨_, rfl, ⟨_, C, ⟨rfl, rfl, rfl, rfl, trivial⟩, h0, h15⟩⟩
              · refine cw_f rfl b80 (cw_exit ?_)
                obtain rfl := osi h58
                replace h54 := h54.2 _ rfl
                obtain rfl := osi h54
                have h81 := congrArg some h53
                obtain rfl := osi h81
                exact ⟨_, C, ⟨rfl, rfl, rfl, rfl, trivial⟩, h0, h15⟩
          · rintro ρ w83 ⟨o55n, rfl, ⟨S82, C, h84, h0, h15⟩⟩
            replace h54 := h54.1 _ rfl
            refine h84.cw fun ρ => ?_
            clear h84
            refine cw_block (cw_region (sv (mvv (.int .i64 x52) rfl) ?_))
            obtain ⟨y85, h86, h54⟩ := pur_some h54
            refine sv (rv_add rfl rfl h86) (sv (asv (.int .i64 y85) rfl) (W.e ?_))
            obtain rfl := osi h54
            exact ⟨_, rfl, ⟨_, C, ⟨rfl, rfl, rfl, rfl, trivial⟩, h0, h15⟩⟩
        · rintro ρ w88 ⟨S87, C, h89, h0, h15⟩
          refine h89.cw fun ρ => ?_
          clear h89
          refine cw_seq fun K90 k91 => ?_
          refine cw_region ?_
          refine sc (dc_lit (vs := []) (xs := ([] : List api_Label)) (base := w.heap.size) el31 rfl rfl (.nil) (Nat.le_of_ble_eq_true rfl) C.up.size C.sb fun v92 w93 h94 h95 u96 => ?_)
          have p97 := ap_fresh h95 (fun b hb => (h15.lt b hb).2)
          replace h0 := h0.nw u96
          replace h15 := h15.nw u96
          replace C := C.new u96
          refine sv (mvv v14 rfl) (sv (mvv (.int .i64 o44) rfl) ?_)
          obtain ⟨y98, h99, h41⟩ := bnd_some h41
          obtain ⟨v100, h101, h102, h103⟩ := Ow.fromO (P := Tryz.prog) h15 h99 el31
          refine sv (h103 rfl rfl) ?_
          obtain ⟨y104, h105, h41⟩ := bnd_some h41
          have h111 := h94
          refine sc (dc_append el31 (by decide) h111 h102 rfl rfl h105 C.up.size C.sb fun v106 w107 h108 u109 h110 => ?_)
          have p112 := ap_grow p97 h110 (fun b hb => (h15.lt b hb).2)
          replace h0 := h0.wr u109 h111.not
          replace h15 := h15.wr u109 h111.not (ap_symm p97)
          replace C := C.ow h111 u109
          refine sv (asv v106 rfl) (W.e (k91 _ _ ?_))
          refine cw_seq fun K113 k114 => ?_
          refine cw_drawU (.one 0 true (.one 1 true (.one 2 true (.one 3 true (.one 4 true (.one 5 true (.one 6 true (.one 7 false (.one 8 false (.one 9 true .done)))))))))) [(6, [0])] [(7, []), (8, [0])] (fun c => bif Nat.beq c 0 then S87 else No) fol (by kernel_rfl) fun w115 u116 => ?_
          replace h0 := h0.nw u116
          replace h15 := h15.nw u116
          replace h108 := h108.nw u116
          replace C := C.new u116
          have h0d := h0
          have h15d := h15
          have h108d := h108
          have m117 := Sm.refl S87 w115
          refine mtv rfl rfl (mvv v14 rfl) (mtv rfl rfl (mvv (.int .i64 o44) rfl) ?_)
          obtain ⟨y118, h119, h41⟩ := bnd_some h41
          obtain ⟨v120, h121, h122, h123⟩ := Ow.upto (P := Tryz.prog) h15 h119 el31
          have p124 : Ap v120 v106 := fun b hq => (ap_symm p112) b (h122 b hq)
          refine mtv rfl rfl (h123 rfl rfl) (mtv rfl rfl (mvv v0 rfl) (mtv rfl rfl (mvv (.int .i64 x18) rfl) ?_))
          obtain ⟨y125, h126, h41⟩ := bnd_some h41
          refine mtv rfl rfl (rv_index el31 h0 rfl rfl h126) ?_
          obtain ⟨v127, h128, h129⟩ := rw_loadA (P := Tryz.prog) el31 h0 h126
          obtain rfl := api_Label.o.1 h128
          refine mtr rfl rfl ⟨m117, trivial⟩ (fun w' hq => h129 w' hq.1 rfl) ?_
          refine mtc rfl rfl (dc_lit (vs := [.agg (List.toArray [.string y125.Name, .string y125.Val])]) (xs := ([y125] : List api_Label)) (base := w.heap.size) el31 rfl rfl (.cons ((api_Label.o (x := y125)).2 rfl) (.nil)) (Nat.le_of_ble_eq_true rfl) C.up.size C.sb fun v130 w131 h132 h133 u134 => ?_)
          have p135 := ap_fresh h133 (fun b hb => (h108.lt b hb).2)
          have p136 := ap_fresh h133 (fun b hb => (h121.lt b hb).2)
          replace h0 := h0.nw u134
          replace h108 := h108.nw u134
          replace h121 := h121.nw u134
          replace C := C.new u134
          have z137 := (u134).size
          have m138 := m117.nx u134 (by omega)
          refine ⟨trivial, ?_⟩
          obtain ⟨y139, h140, h41⟩ := bnd_some h41
          have h146 := h121
          refine mtc rfl rfl (dc_append el31 (by decide) h146 h132.src rfl rfl h140 C.up.size C.sb fun v141 w142 h143 u144 h145 => ?_)
          have p147 := ap_grow p124 h145 (fun b hb => (h108.lt b hb).2)
          replace h0 := h0.wr u144 h146.not
          replace h108 := h108.wr u144 h146.not (ap_symm p124)
          replace C := C.ow h146 u144
          have z148 := (u144).size
          have m149 := m138.wrC u144 (by omega) h146.not
          refine ⟨⟨m149, trivial⟩, ?_⟩
          refine mtv rfl rfl (asv v141 rfl) (MT.e (k114 _ _ (cw_region (sv (mvv v141 rfl) (sv (mvv v106 rfl) ?_)))))
          obtain ⟨y150, h151, h41⟩ := bnd_some h41
          have h157 := h143
          refine sc (dc_append el31 (by decide) h157 h108.src rfl rfl h151 C.up.size C.sb fun v152 w153 h154 u155 h156 => ?_)
          replace h0 := h0.wr u155 h157.not
          replace C := C.ow h157 u155
          refine sv (asv v152 rfl) (W.e ?_)
          obtain rfl := osi h41
          exact ⟨_, _, C, ⟨rfl, rfl, rfl, trivial⟩, h0, h154⟩
      · rintro ρ w159 ⟨S158, v160, C, h162, h0, h161⟩
        refine h162.cw fun ρ => ?_
        clear h162
        refine cw_region (sv (mvv (.int .i64 x18) rfl) ?_)
        obtain ⟨y163, h164, h20⟩ := pur_some h20
        refine sv (rv_add rfl rfl h164) (sv (asv (.int .i64 y163) rfl) (W.e ?_))
        obtain rfl := osi h20
        exact ⟨_, rfl, ⟨_, _, C, ⟨rfl, rfl, rfl, trivial⟩, h0, h161⟩⟩
  · rintro ρ w166 ⟨S165, v167, C, h169, h168⟩
    refine h169.cw fun ρ => ?_
    clear h169
    refine cw_seq fun K170 k171 => ?_
    refine cw_seq fun K172 k173 => ?_
    refine cw_region (sv (mvv v167 rfl) ?_)
    replace C := C.sealO h168
    replace h168 := h168.sealed
    obtain ⟨y174, h175, h⟩ := bnd_some h
    refine sc (dc_call (vs := [v167]) can64 rfl ?_)
    refine (marigraphref05_Right_w C.sb h168 h175).mono ?_
    rintro _ w176 ⟨S177, rfl, c178⟩
    refine ⟨_, rfl, ?_⟩
    replace h168 := h168.cx c178
    replace C := C.trans c178
    refine sv (rv_not rfl) (W.e (k173 _ _ ?_))
    rcases bif_some h with ⟨b179, h⟩ | ⟨b179, h⟩
    · refine cw_t rfl b179 ?_
      refine cw_seq fun K180 k181 => ?_
      refine cw_region (sv (asv (.slice none 0 0) rfl) (sv (asv (.int .i64 50) rfl) (W.e (k181 _ _ (cw_ret ?_)))))
      obtain rfl := osi h
      exact ⟨_, rfl, _, _, rfl, C, (sl_nil _ _ _)⟩
    · refine cw_f rfl b179 (cw_skip (k171 _ _ ?_))
      refine cw_seq fun K182 k183 => ?_
      refine cw_region (sv (mvv v167 rfl) (sv (asv v167 rfl) (sv (asv (.int .i64 0) rfl) (W.e (k183 _ _ (cw_ret ?_))))))
      obtain rfl := osi h
      exact ⟨_, rfl, _, _, rfl, C, h168⟩

noncomputable def marigraphref08_Index_Add (a0 : marigraphref08_Index) (a1 : List api_Label) : Option (Int × Int × marigraphref08_Index) :=
  ((marigraphref05_Sort a1).bind fun y5 => (bif (y5.2 != (0 : Int)) then some ((0 : Int), y5.2, a0) else ((marigraphref08_Index_find a0 y5.1).bind fun y21 => (bif (decide ((0 : Int) ≤ y21)) then ((at_ a0.S y21).bind fun y37 => some (y37.Id, (0 : Int), a0)) else (((bif (decide ((200 : Int) ≤ (a0.S.length : Int))) then some true else some (decide ((4096 : Int) ≤ a0.Given))).bind fun o48 => (bif o48 then some (.inr ((0 : Int), (4 : Int), a0)) else some (.inl ()))).bind (Sum.elim (fun o44n => ((app_ 32 ([] : List marigraphref08_Series) a0.S).bind fun y80 => ((app_ 32 y80 ([(marigraphref08_Series.mk a0.Given y5.1)] : List marigraphref08_Series)).bind fun y96 => (pur ({ a0 with S := y96 } : marigraphref08_Index) fun y105 => (pur (IntKind.i64.wrap (y105.Given + (1 : Int))) fun y120 => (pur ({ y105 with Given := y120 } : marigraphref08_Index) fun y122 => some (a0.Given, (0 : Int), y122))))))) (fun q => some q)))))))
theorem marigraphref08_Index_Add_w {S : Nat → Prop} {w : World} {a0 : marigraphref08_Index} {a1 : List api_Label} {v0 v1 : Value} {cs0 : List Value} {fp0 : List Nat} {r : Int × Int × marigraphref08_Index} (hS : Sb S w) (h0 : Ob 29 (marigraphref08_Index.fs a0) S w v0 cs0 fp0) (h1 : Sl (kSl api_Label.k) S w v1 a1) (h : marigraphref08_Index_Add a0 a1 = some r) :
    Calls Tryz.prog 22 (List.toArray [v0, v1]) w fun e w1 => ∃ S1 us_0 up_0, e = .returned (.tuple (List.toArray [.int .i64 r.1, .int .i64 r.2.1])) ∧ Cx (fun b => b ∈ fp0) S w S1 w1 ∧ Ob 29 (marigraphref08_Index.fs r.2.2) S1 w1 v0 us_0 up_0 ∧ (∀ b, b ∈ up_0 → b ∈ fp0 ∨ w.heap.size ≤ b) := by
  refine enter Tryz.func22 rfl (by kernel_rfl) rfl ?_
  have C := Cx.refl (F := (fun b => b ∈ fp0)) hS
  unfold marigraphref08_Index_Add at h
  have hs0 : ∀ b, b ∈ fp0 → b ∈ fp0 ∨ w.heap.size ≤ b := fun b hb => .inl hb
  have hl0 : ∀ b ∈ fp0, b < w.heap.size := fun b hb => (h0.lt b hb).1
  refine cw_seq fun K1 k2 => ?_
  refine cw_region (sv (asv (.int .i64 0) rfl) (sv (asv (.int .i64 0) rfl) (W.e (k2 _ _ ?_))))
  refine cw_seq fun K3 k4 => ?_
  refine cw_region (sv (mvv v1 rfl) ?_)
  obtain ⟨y5, h6, h⟩ := bnd_some h
  refine sc (dc_call (vs := [v1]) can57 rfl ?_)
  refine (marigraphref05_Sort_w C.sb h1 h6).mono ?_
  rintro _ w7 ⟨S8, v10, rfl, c9, h11⟩
  refine ⟨_, rfl, ?_⟩
  replace h0 := h0.cx c9
  replace C := C.trans c9
  refine sv (mvv (.tuple (List.toArray [v10, .int .i64 y5.2])) rfl) (sv (rv_extract rfl rfl) (sv (rv_extract rfl rfl) (sv (asv v10 rfl) (sv (asv (.int .i64 y5.2) rfl) (W.e (k4 _ _ ?_))))))
  refine cw_seq fun K12 k13 => ?_
  refine cw_seq fun K14 k15 => ?_
  refine cw_region (sv (mvv (.int .i64 y5.2) rfl) (sv (rv_neq rfl rfl) (W.e (k15 _ _ ?_))))
  rcases bif_some h with ⟨b16, h⟩ | ⟨b16, h⟩
  · refine cw_t rfl b16 ?_
    refine cw_seq fun K17 k18 => ?_
    refine cw_region (sv (mvv (.int .i64 y5.2) rfl) (sv (asv (.int .i64 0) rfl) (sv (asv (.int .i64 y5.2) rfl) (W.e (k18 _ _ (cw_ret ?_))))))
    obtain rfl := osi h
    exact ⟨_, rfl, _, _, _, rfl, C, h0, hs0⟩
  · refine cw_f rfl b16 (cw_skip (k13 _ _ ?_))
    refine cw_seq fun K19 k20 => ?_
    refine cw_region (sv (mvv v0 rfl) (sv (mvv v10 rfl) ?_))
    obtain ⟨y21, h22, h⟩ := bnd_some h
    refine sc (dc_call (vs := [v0, v10]) can47 rfl ?_)
    refine (marigraphref08_Index_find_w C.sb h0 h11 h22).mono ?_
    rintro _ w23 ⟨S24, rfl, c25⟩
    refine ⟨_, rfl, ?_⟩
    replace h0 := h0.cx c25
    replace h11 := h11.cx c25
    replace C := C.trans c25
    refine sv (asv (.int .i64 y21) rfl) (W.e (k20 _ _ ?_))
    refine cw_seq fun K26 k27 => ?_
    refine cw_seq fun K28 k29 => ?_
    refine cw_region (sv (mvv (.int .i64 y21) rfl) (sv (rv_geq rfl rfl) (W.e (k29 _ _ ?_))))
    rcases bif_some h with ⟨b30, h⟩ | ⟨b30, h⟩
    · refine cw_t rfl b30 ?_
      refine cw_seq fun K31 k32 => ?_
      refine cw_region (sv (mvv v0 rfl) (sv (rv_nilcheck rfl h0.ptr) (sv (rv_fieldAddr (b := pb v0) (o := 0) st29 rfl h0.ptr) ?_)))
      obtain ⟨c33, h34, h35, h36⟩ := Ob.rowR (i := 0) h0 rfl
      refine sr (rw_ofield (i := 0) (c := c33) h0 ag27 h34 rfl) (sv (mvv (.int .i64 y21) rfl) ?_)
      obtain ⟨y37, h38, h⟩ := bnd_some h
      refine sv (rv_index el27 h35.sealed rfl rfl h38) (sv (rv_fieldAddr st79 rfl rfl) ?_)
      obtain ⟨cs39, h40, h41⟩ := Ow.cellsO h35 h38
      obtain ⟨c42, rfl, g43⟩ := marigraphref08_Series.r.1 h40
      refine sr (rw_el1 (off := 0) ag3 (h41 _ (Sm.refl _ _)) rfl rfl) (sv (asv (.int .i64 y37.Id) rfl) (sv (asv (.int .i64 0) rfl) (W.e (k32 _ _ (cw_ret ?_)))))
      obtain rfl := osi h
      exact ⟨_, rfl, _, _, _, rfl, C, h0, hs0⟩
    · refine cw_f rfl b30 (cw_skip (k27 _ _ ?_))
      obtain ⟨o44, h47, h⟩ := bnds_some h
      refine cw_seq' (fun ρ w1 => ∃ o44n, o44 = (.inl o44n) ∧ ∃ S1, Cx (fun b => b ∈ fp0) S w S1 w1 ∧ Has ρ [(0, v0), (6, v10)] ∧ Sl (kSl api_Label.k) S1 w1 v10 y5.1 ∧ Ob 29 (marigraphref08_Index.fs a0) S1 w1 v0 cs0 fp0) ?_ ?_
      · obtain ⟨o48, h51, h47⟩ := bnd_some h47
        refine cw_seq' (fun ρ w1 => ∃ S1, Cx (fun b => b ∈ fp0) S w S1 w1 ∧ Has ρ [(0, v0), (6, v10), (43, .bool o48)] ∧ Sl (kSl api_Label.k) S1 w1 v10 y5.1 ∧ Ob 29 (marigraphref08_Index.fs a0) S1 w1 v0 cs0 fp0) ?_ ?_
        · refine cw_region (sv (mvv v0 rfl) (sv (rv_nilcheck rfl h0.ptr) (sv (rv_fieldAddr (b := pb v0) (o := 0) st29 rfl h0.ptr) ?_)))
          obtain ⟨c52, h53, h54, h55⟩ := Ob.rowR (i := 0) h0 rfl
          refine sr (rw_ofield (i := 0) (c := c52) h0 ag27 h53 rfl) (sv (rv_lenS el27 h54.sealed rfl) (sv (rv_geq rfl rfl) (sv (mvv (.bool (decide ((200 : Int) ≤ (a0.S.length : Int)))) rfl) ?_)))
          rcases bif_some h51 with ⟨b56, h51⟩ | ⟨b56, h51⟩
          · refine W.n (gn rfl rfl rfl b56) (W.n (gn rfl rfl rfl b56) (W.n (gn rfl rfl rfl b56) (W.n (gn rfl rfl rfl b56) (W.n (gn rfl rfl rfl b56) (sv (ptk (.bool true) rfl b56 rfl) (W.e ?_))))))
            obtain rfl := osi h51
            exact ⟨_, C, ⟨rfl, rfl, rfl, trivial⟩, h11, h0⟩
          · refine W.v (gy rfl rfl rfl b56) (mvv v0 rfl) (W.v (gy rfl rfl rfl b56) (rv_nilcheck rfl h0.ptr) (W.v (gy rfl rfl rfl b56) (rv_fieldAddr (b := pb v0) (o := 0) st29 rfl h0.ptr) (W.r (gy rfl rfl rfl b56) (rw_ofield (i := 1) (c := .int .i64 a0.Given) h0 ag3 (h0.sc (i := 1) rfl) rfl) (W.v (gy rfl rfl rfl b56) (rv_geq rfl rfl) (sv (pfk (.bool (decide ((4096 : Int) ≤ a0.Given))) rfl b56 rfl) (W.e ?_))))))
            obtain rfl := osi h51
            exact ⟨_, C, ⟨rfl, rfl, rfl, trivial⟩, h11, h0⟩
        · rintro ρ w58 ⟨S57, C, h59, h11, h0⟩
          refine h59.cw fun ρ => ?_
          clear h59
          rcases bif_some h47 with ⟨b60, h47⟩ | ⟨b60, h47⟩
          · refine cw_t rfl b60 ?_
            refine cw_seq fun K61 k62 => ?_
            refine cw_region (sv (asv (.int .i64 0) rfl) (sv (asv (.int .i64 4) rfl) (W.e (k62 _ _ (cw_ret ?_)))))
            obtain rfl := osi h47
            replace h := h.2 _ rfl
            obtain rfl := osi h
            exact ⟨_, rfl, _, _, _, rfl, C, h0, hs0⟩
          · refine cw_f rfl b60 (cw_skip ?_)
            obtain rfl := osi h47
            exact ⟨_, rfl, ⟨_, C, ⟨rfl, rfl, trivial⟩, h11, h0⟩⟩
      · rintro ρ w64 ⟨o44n, rfl, ⟨S63, C, h65, h11, h0⟩⟩
        replace h := h.1 _ rfl
        refine h65.cw fun ρ => ?_
        clear h65
        refine cw_seq fun K66 k67 => ?_
        refine cw_region (sv (mvv v0 rfl) (sv (rv_nilcheck rfl h0.ptr) (sv (rv_fieldAddr (b := pb v0) (o := 0) st29 rfl h0.ptr) (sr (rw_ofield (i := 1) (c := .int .i64 a0.Given) h0 ag3 (h0.sc (i := 1) rfl) rfl) (sv (asv (.int .i64 a0.Given) rfl) (W.e (k67 _ _ ?_)))))))
        refine cw_seq fun K68 k69 => ?_
        refine cw_region (sv (mvv v0 rfl) ?_)
        refine sc (dc_lit (vs := []) (xs := ([] : List marigraphref08_Series)) (base := w.heap.size) el27 rfl rfl (.nil) (Nat.le_of_ble_eq_true rfl) C.up.size C.sb fun v70 w71 h72 h73 u74 => ?_)
        have p75 := ap_fresh h73 (fun b hb => (h0.lt b hb).1)
        replace h0 := h0.nw u74
        replace h11 := h11.nw u74
        replace C := C.new u74
        refine sv (mvv v0 rfl) (sv (rv_nilcheck rfl h0.ptr) (sv (rv_fieldAddr (b := pb v0) (o := 0) st29 rfl h0.ptr) ?_))
        obtain ⟨c76, h77, h78, h79⟩ := Ob.rowR (i := 0) h0 rfl
        refine sr (rw_ofield (i := 0) (c := c76) h0 ag27 h77 rfl) ?_
        obtain ⟨y80, h81, h⟩ := bnd_some h
        have h87 := h72
        refine sc (dc_append el27 (by decide) h87 h78.src rfl rfl h81 C.up.size C.sb fun v82 w83 h84 u85 h86 => ?_)
        have p88 := ap_grow p75 h86 (fun b hb => (h0.lt b hb).1)
        replace h0 := h0.wr u85 h87.not (ap_symm p75)
        replace h11 := h11.wr u85 h87.not
        replace C := C.ow h87 u85
        refine sv (mvv (.int .i64 a0.Given) rfl) (sv (mvv v10 rfl) (sv (rv_build (r := [.int .i64 a0.Given, v10]) st79 zr79 (by obtain ⟨_, _, rfl⟩ := h11.len; rfl)) ?_))
        refine sc (dc_lit (vs := [.agg (List.toArray [.int .i64 a0.Given, v10])]) (xs := ([(marigraphref08_Series.mk a0.Given y5.1)] : List marigraphref08_Series)) (base := w.heap.size) el27 rfl rfl (.cons (marigraphref08_Series.o.2 ⟨_, rfl, h11⟩) (.nil)) (Nat.le_of_ble_eq_true rfl) C.up.size C.sb fun v89 w90 h91 h92 u93 => ?_)
        have p94 := ap_fresh h92 (fun b hb => (h0.lt b hb).1)
        have p95 := ap_fresh h92 (fun b hb => (h84.lt b hb).2)
        replace h0 := h0.nw u93
        replace h84 := h84.nw u93
        replace C := C.new u93
        obtain ⟨y96, h97, h⟩ := bnd_some h
        have h103 := h84
        refine sc (dc_append el27 (by decide) h103 h91.src rfl rfl h97 C.up.size C.sb fun v98 w99 h100 u101 h102 => ?_)
        have p104 := ap_grow p88 h102 (fun b hb => (h0.lt b hb).1)
        replace h0 := h0.wr u101 h103.not (ap_symm p88)
        replace C := C.ow h103 u101
        refine sv (rv_nilcheck rfl h0.ptr) (sv (rv_fieldAddr (b := pb v0) (o := 0) st29 rfl h0.ptr) ?_)
        obtain ⟨y105, h106, h⟩ := pur_some h
        refine sc (dc_ofieldN (i := 0) (k := marigraphref08_Series.k) (er := 79) (xs := y96) h0 rfl (h100.base (Nat.zero_le _)) p104 ag27 rfl rfl fun w107 fp111 h108 h112 u109 => ?_)
        replace h108 : Ob 29 (marigraphref08_Index.fs ({ a0 with S := y96 } : marigraphref08_Index)) S63 w107 v0 (cs0.set 0 v98) fp111 := h108
        rw [h106] at h108
        obtain ⟨cs115, h116⟩ : ∃ cs, cs = cs0.set 0 v98 := ⟨_, rfl⟩
        rw [← h116] at h108
        have h113 : ∀ b, b ∈ fp0 → ¬ S63 b := fun b hb => (h0.lt b hb).2
        have c110 := Cx.ofUp C.sb u109
        have h114 : ∀ b, b ∈ fp111 → b ∈ fp0 ∨ Blk v98 b ∨ w99.heap.size ≤ b := fun b hb => (h112 b hb).imp id .inl
        have h117 : ∀ b, b ∈ fp111 → b ∈ fp0 ∨ w.heap.size ≤ b := fun b hb => (h114 b hb).elim (hs0 b) (fun hl => hl.elim (fun hl => .inr (h100.lt b hl).1) (fun hl => .inr (Nat.le_trans C.up.size hl)))
        replace C := C.ofc c110 hs0
        refine W.e (k69 _ _ ?_)
        refine cw_seq fun K118 k119 => ?_
        refine cw_region (sv (mvv v0 rfl) (sv (rv_nilcheck rfl h108.ptr) (sv (rv_fieldAddr (b := pb v0) (o := 0) st29 rfl h108.ptr) (sr (rw_ofield (i := 1) (c := .int .i64 y105.Given) h108 ag3 (h108.sc (i := 1) rfl) rfl) ?_))))
        obtain ⟨y120, h121, h⟩ := pur_some h
        refine sv (rv_add rfl rfl h121) (sv (rv_nilcheck rfl h108.ptr) (sv (rv_fieldAddr (b := pb v0) (o := 0) st29 rfl h108.ptr) ?_))
        obtain ⟨y122, h123, h⟩ := pur_some h
        have h128 : ∀ b, b ∈ fp111 → ¬ S63 b := fun b hb => (h108.lt b hb).2
        refine sc (dc_ofield (i := 1) (k := (kI .i64)) (h1 := rfl) (a' := y120) h108 rfl ag3 rfl rfl (rep_sc.2 rfl) fun w124 h125 u126 => ?_)
        replace h125 : Ob 29 (marigraphref08_Index.fs ({ y105 with Given := y120 } : marigraphref08_Index)) S63 w124 v0 (cs115.set 1 (.int .i64 y120)) fp111 := h125
        rw [h123] at h125
        obtain ⟨cs129, h130⟩ : ∃ cs, cs = cs115.set 1 (.int .i64 y120) := ⟨_, rfl⟩
        rw [← h130] at h125
        have c127 := Cx.ofUp C.sb u126
        replace C := C.ofc c127 h117
        refine W.e (k119 _ _ ?_)
        refine cw_seq fun K131 k132 => ?_
        refine cw_region (sv (mvv (.int .i64 a0.Given) rfl) (sv (asv (.int .i64 a0.Given) rfl) (sv (asv (.int .i64 0) rfl) (W.e (k132 _ _ (cw_ret ?_))))))
        obtain rfl := osi h
        exact ⟨_, rfl, _, _, _, rfl, C, h125, h117⟩

noncomputable def marigraphlaw08_does (a0 : Option index_Index) (a1 : marigraphref08_Index) (a2 : marigraphlaw08_Act) : Option (Bool × (Option index_Index) × marigraphref08_Index) :=
  (pur (Int.tmod a2.Kind (5 : Int)) fun y17 => (bif (y17 == (3 : Int)) then ((index_Index_Drop a0 a2.Id).bind fun y27 => ((marigraphref08_Index_Drop a1 a2.Id).bind fun y41 => some ((y27.1 == y41.1), y27.2, y41.2))) else (bif (y17 == (4 : Int)) then ((marigraphlaw08_some a2.A).bind fun y60 => ((index_Index_Find a0 y60).bind fun y67 => ((marigraphlaw08_some a2.A).bind fun y78 => ((marigraphref08_Index_Find a1 y78).bind fun y85 => (((marigraphref04_Ints y67.1 y85.1).bind fun y99 => (bif y99 then some (y67.2 == y85.2) else some false)).bind fun o95 => some (o95, a0, a1)))))) else ((marigraphlaw08_few a2.L).bind fun y111 => ((index_Index_Add a0 y111).bind fun y118 => ((marigraphlaw08_few a2.L).bind fun y132 => ((marigraphref08_Index_Add a1 y132).bind fun y139 => ((bif (y118.1 == y139.1) then some (y118.2.1 == y139.2.1) else some false).bind fun o151 => some (o151, y118.2.2, y139.2.2)))))))))
theorem marigraphlaw08_does_w {S : Nat → Prop} {w : World} {a0 : Option index_Index} {a1 : marigraphref08_Index} {a2 : marigraphlaw08_Act} {v0 v1 v2 : Value} {cs0 : List Value} {fp0 : List Nat} {cs1 : List Value} {fp1 : List Nat} {r : Bool × (Option index_Index) × marigraphref08_Index} (hS : Sb S w) (h0 : Obo 61 index_Index.fs S w v0 a0 cs0 fp0) (h1 : Ob 29 (marigraphref08_Index.fs a1) S w v1 cs1 fp1) (h2 : Sl marigraphlaw08_Act.k S w v2 a2) (hap0_1 : ∀ b, b ∈ fp0 → ¬ b ∈ fp1) (h : marigraphlaw08_does a0 a1 a2 = some r) :
    Calls Tryz.prog 8 (List.toArray [v0, v1, v2]) w fun e w1 => ∃ S1 us_0 up_0 us_1 up_1, e = .returned (.bool r.1) ∧ Cx (fun b => b ∈ fp0 ∨ b ∈ fp1) S w S1 w1 ∧ Obo 61 index_Index.fs S1 w1 v0 r.2.1 us_0 up_0 ∧ (∀ b, b ∈ up_0 → b ∈ fp0 ∨ w.heap.size ≤ b) ∧ Ob 29 (marigraphref08_Index.fs r.2.2) S1 w1 v1 us_1 up_1 ∧ (∀ b, b ∈ up_1 → b ∈ fp1 ∨ w.heap.size ≤ b) ∧ (∀ b, b ∈ up_0 → ¬ b ∈ up_1) := by
  refine enter Tryz.func8 rfl (by kernel_rfl) rfl ?_
  have C := Cx.refl (F := (fun b => b ∈ fp0 ∨ b ∈ fp1)) hS
  unfold marigraphlaw08_does at h
  have hs0 : ∀ b, b ∈ fp0 → b ∈ fp0 ∨ w.heap.size ≤ b := fun b hb => .inl hb
  have hl0 : ∀ b ∈ fp0, b < w.heap.size := fun b hb => (h0.lt b hb).1
  have hs1 : ∀ b, b ∈ fp1 → b ∈ fp1 ∨ w.heap.size ≤ b := fun b hb => .inl hb
  have hl1 : ∀ b ∈ fp1, b < w.heap.size := fun b hb => (h1.lt b hb).1
  obtain ⟨c1, c3, rfl, g2, g4⟩ := marigraphlaw08_Act.o.1 h2
  refine cw_seq fun K5 k6 => ?_
  refine cw_region ?_
  refine sc (dc_boxS C.sb rfl fun b7 S8 w9 c10 h11 => ?_)
  replace h0 := h0.cx c10
  replace h1 := h1.cx c10
  replace g2 := g2.cx c10
  replace g4 := g4.cx c10
  replace C := C.trans c10
  refine sv (asv (.bool false) rfl) (W.e (k6 _ _ ?_))
  refine cw_seq fun K13 k14 => ?_
  refine cw_seq fun K15 k16 => ?_
  refine cw_region (sv (rv_fieldAddr st34 rfl rfl) (sr (rw_bk ag5 h11.2 rfl rfl) ?_))
  obtain ⟨y17, h18, h⟩ := pur_some h
  refine sv (rv_rem rfl rfl (by decide) h18) (W.e (k16 _ _ (cw_block ?_)))
  refine cw_seq fun K19 k20 => ?_
  refine cw_region (sv (rv_eql rfl rfl) (sv (asv (.bool (y17 == (3 : Int))) rfl) (W.e (k20 _ _ ?_))))
  rcases bif_some h with ⟨b21, h⟩ | ⟨b21, h⟩
  · refine cw_t rfl b21 ?_
    refine cw_seq fun K22 k23 => ?_
    refine cw_drawU (.one 0 true (.one 1 true (.one 2 true (.one 4 true (.one 5 true (.one 6 true (.one 3 false (.one 7 false (.one 8 true (.one 9 true .done)))))))))) [(2, [0]), (6, [0])] [(3, [0]), (7, [0])] (fun c => bif Nat.beq c 0 then S8 else No) fol (by kernel_rfl) fun w24 u25 => ?_
    replace h0 := h0.nw u25
    replace h1 := h1.nw u25
    replace h11 := h11.nw u25
    replace g2 := g2.nw u25
    replace g4 := g4.nw u25
    replace C := C.new u25
    have h0d := h0
    have h1d := h1
    have h11d := h11
    have g2d := g2
    have g4d := g4
    have m26 := Sm.refl S8 w24
    refine mtv rfl rfl (mvv v0 rfl) (mtv rfl rfl (rv_fieldAddr st34 rfl rfl) (mtr rfl rfl ⟨m26, trivial⟩ (fun w' hq => rw_bk ag3 (h11.sm hq.1) rfl rfl) (mtv rfl rfl (mvv v1 rfl) (mtv rfl rfl (rv_fieldAddr st34 rfl rfl) (mtr rfl rfl ⟨m26, trivial⟩ (fun w' hq => rw_bk ag3 (h11.sm hq.1) rfl rfl) ?_)))))
    obtain ⟨y27, h28, h⟩ := bnd_some h
    refine mtc rfl rfl (dc_call (vs := [v0, .int .i64 a2.Id]) can16 rfl ?_)
    refine (index_Index_Drop_w C.sb h0 h28).mono ?_
    rintro _ w29 ⟨S30, cs32, fp33, rfl, c31, h34, h35⟩
    refine ⟨_, rfl, ?_⟩
    have h36 : ∀ b, b ∈ fp0 → ¬ S8 b := fun b hb => (h0.lt b hb).2
    have p37 := ap_grow hap0_1 h35 (fun b hb => (h1.lt b hb).1)
    have h38 : ∀ b, b ∈ fp33 → b ∈ fp0 ∨ w.heap.size ≤ b := fun b hb => (h35 b hb).elim (hs0 b) (fun hl => .inr (Nat.le_trans C.up.size hl))
    replace h1 := h1.cf c31 h36 (ap_symm hap0_1)
    replace C := C.ofc c31 (fun b hb => (hs0 b hb).imp (fun h => (.inl h)) id)
    have z39 := (c31.up).size
    have m40 := m26.wrC c31.up (by omega) h36
    refine ⟨⟨m40, trivial⟩, ?_⟩
    obtain ⟨y41, h42, h⟩ := bnd_some h
    refine mtc rfl rfl (dc_call (vs := [v1, .int .i64 a2.Id]) can18 rfl ?_)
    refine (marigraphref08_Index_Drop_w C.sb h1 h42).mono ?_
    rintro _ w43 ⟨S44, cs46, fp47, rfl, c45, h48, h49⟩
    refine ⟨_, rfl, ?_⟩
    have h50 : ∀ b, b ∈ fp1 → ¬ S30 b := fun b hb => (h1.lt b hb).2
    have p51 := ap_grow (ap_symm p37) h49 (fun b hb => (h34.lt b hb).1)
    have h52 : ∀ b, b ∈ fp47 → b ∈ fp1 ∨ w.heap.size ≤ b := fun b hb => (h49 b hb).elim (hs1 b) (fun hl => .inr (Nat.le_trans C.up.size hl))
    replace h34 := h34.cf c45 h50 p37
    replace C := C.ofc c45 (fun b hb => (hs1 b hb).imp (fun h => (.inr h)) id)
    have z53 := (c45.up).size
    have m54 := m40.wrC c45.up (by omega) (fun b hb hs => h50 b hb ((fun b h => c31.ge.le b h) b hs))
    refine ⟨⟨m54, trivial⟩, ?_⟩
    refine mtv rfl rfl (rv_eql rfl rfl) (mtv rfl rfl (asv (.bool (y27.1 == y41.1)) rfl) (MT.e (k23 _ _ (cw_ret ?_))))
    obtain rfl := osi h
    exact ⟨_, rfl, _, _, _, _, _, rfl, C, h34, h38, h48, h52, (ap_symm p51)⟩
  · refine cw_f rfl b21 ?_
    refine cw_seq fun K55 k56 => ?_
    refine cw_region (sv (rv_eql rfl rfl) (sv (asv (.bool (y17 == (4 : Int))) rfl) (W.e (k56 _ _ ?_))))
    rcases bif_some h with ⟨b57, h⟩ | ⟨b57, h⟩
    · refine cw_t rfl b57 ?_
      refine cw_seq fun K58 k59 => ?_
      refine cw_region (sv (mvv v0 rfl) (sv (rv_fieldAddr st34 rfl rfl) (sr (rw_bk ag32 h11.2 rfl rfl) ?_)))
      obtain ⟨y60, h61, h⟩ := bnd_some h
      refine sc (dc_call (vs := [c3]) can19 rfl ?_)
      refine (marigraphlaw08_some_w C.sb g4 h61).mono ?_
      rintro _ w62 ⟨S63, v65, rfl, c64, h66⟩
      refine ⟨_, rfl, ?_⟩
      replace h0 := h0.cx c64
      replace h1 := h1.cx c64
      replace h11 := h11.cx c64
      replace g2 := g2.cx c64
      replace g4 := g4.cx c64
      replace C := C.trans c64
      obtain ⟨y67, h68, h⟩ := bnd_some h
      refine sc (dc_call (vs := [v0, v65]) can15 rfl ?_)
      refine (index_Index_Find_w C.sb h0 h66 h68).mono ?_
      rintro _ w69 ⟨S70, v72, rfl, c71, h73⟩
      refine ⟨_, rfl, ?_⟩
      have p74 := ap_fresh (fun b hb => (h73.lt b hb).1) (fun b hb => (h1.lt b hb).1)
      have p75 := ap_fresh (fun b hb => (h73.lt b hb).1) (fun b hb => (h0.lt b hb).1)
      replace h73 := h73.base C.up.size
      replace h1 := h1.cx c71
      replace h11 := h11.cx c71
      replace g2 := g2.cx c71
      replace g4 := g4.cx c71
      replace h0 := h0.cx c71
      replace C := C.trans c71
      refine sv (mvv (.tuple (List.toArray [v72, .int .i64 y67.2])) rfl) (sv (rv_extract rfl rfl) (sv (rv_extract rfl rfl) (sv (asv v72 rfl) (sv (asv (.int .i64 y67.2) rfl) (W.e (k59 _ _ ?_))))))
      refine cw_seq fun K76 k77 => ?_
      refine cw_region (sv (mvv v1 rfl) (sv (rv_fieldAddr st34 rfl rfl) (sr (rw_bk ag32 h11.2 rfl rfl) ?_)))
      obtain ⟨y78, h79, h⟩ := bnd_some h
      refine sc (dc_call (vs := [c3]) can19 rfl ?_)
      refine (marigraphlaw08_some_w C.sb g4 h79).mono ?_
      rintro _ w80 ⟨S81, v83, rfl, c82, h84⟩
      refine ⟨_, rfl, ?_⟩
      replace h73 := h73.cx c82
      replace h1 := h1.cx c82
      replace h0 := h0.cx c82
      replace C := C.trans c82
      obtain ⟨y85, h86, h⟩ := bnd_some h
      refine sc (dc_call (vs := [v1, v83]) can20 rfl ?_)
      refine (marigraphref08_Index_Find_w C.sb h1 h84 h86).mono ?_
      rintro _ w87 ⟨S88, v90, rfl, c89, h91⟩
      refine ⟨_, rfl, ?_⟩
      have p92 := ap_fresh (fun b hb => (h91.lt b hb).1) (fun b hb => (h73.lt b hb).2)
      have p93 := ap_fresh (fun b hb => (h91.lt b hb).1) (fun b hb => (h0.lt b hb).1)
      have p94 := ap_fresh (fun b hb => (h91.lt b hb).1) (fun b hb => (h1.lt b hb).1)
      replace h91 := h91.base C.up.size
      replace h73 := h73.cx c89
      replace h0 := h0.cx c89
      replace h1 := h1.cx c89
      replace C := C.trans c89
      refine sv (mvv (.tuple (List.toArray [v90, .int .i64 y85.2])) rfl) (sv (rv_extract rfl rfl) (sv (rv_extract rfl rfl) (sv (asv v90 rfl) (sv (asv (.int .i64 y85.2) rfl) (W.e (k77 _ _ ?_))))))
      obtain ⟨o95, h98, h⟩ := bnd_some h
      refine cw_seq' (fun ρ w1 => ∃ S1, Cx (fun b => b ∈ fp0 ∨ b ∈ fp1) S w S1 w1 ∧ Has ρ [(6, .bool o95)] ∧ Obo 61 index_Index.fs S1 w1 v0 a0 cs0 fp0 ∧ Ob 29 (marigraphref08_Index.fs a1) S1 w1 v1 cs1 fp1 ∧ (∀ b, b ∈ fp0 → ¬ b ∈ fp1)) ?_ ?_
      · refine cw_region (sv (mvv v72 rfl) (sv (mvv v90 rfl) ?_))
        replace h91 := h91.or p92
        replace h0 := h0.or (ap_symm p75)
        replace h1 := h1.or (ap_symm p74)
        replace C := C.sealO h73
        replace h73 := h73.sealed
        replace h73 := h73.or (T := Blk v90)
        replace h0 := h0.or (ap_symm p93)
        replace h1 := h1.or (ap_symm p94)
        replace C := C.sealO h91
        replace h91 := h91.sealed
        obtain ⟨y99, h100, h98⟩ := bnd_some h98
        refine sc (dc_call (vs := [v72, v90]) can17 rfl ?_)
        refine (marigraphref04_Ints_w C.sb h73 h91 h100).mono ?_
        rintro _ w101 ⟨S102, rfl, c103⟩
        refine ⟨_, rfl, ?_⟩
        replace h0 := h0.cx c103
        replace h1 := h1.cx c103
        replace C := C.trans c103
        refine sv (mvv (.bool y99) rfl) ?_
        rcases bif_some h98 with ⟨b104, h98⟩ | ⟨b104, h98⟩
        · refine W.v (gy rfl rfl rfl b104) (mvv (.int .i64 y67.2) rfl) (W.v (gy rfl rfl rfl b104) (mvv (.int .i64 y85.2) rfl) (W.v (gy rfl rfl rfl b104) (rv_eql rfl rfl) (sv (ptk (.bool (y67.2 == y85.2)) rfl b104 rfl) (sv (asv (.bool (y67.2 == y85.2)) rfl) (W.e ?_)))))
          obtain rfl := osi h98
          exact ⟨_, C, ⟨rfl, trivial⟩, h0, h1, hap0_1⟩
        · refine W.n (gn rfl rfl rfl b104) (W.n (gn rfl rfl rfl b104) (W.n (gn rfl rfl rfl b104) (sv (pfk (.bool false) rfl b104 rfl) (sv (asv (.bool false) rfl) (W.e ?_)))))
          obtain rfl := osi h98
          exact ⟨_, C, ⟨rfl, trivial⟩, h0, h1, hap0_1⟩
      · rintro ρ w106 ⟨S105, C, h108, h0, h1, p107⟩
        refine h108.cw fun ρ => ?_
        clear h108
        refine cw_ret ?_
        obtain rfl := osi h
        exact ⟨_, rfl, _, _, _, _, _, rfl, C, h0, hs0, h1, hs1, p107⟩
    · refine cw_f rfl b57 (cw_skip (k14 _ _ ?_))
      refine cw_seq fun K109 k110 => ?_
      refine cw_region (sv (mvv v0 rfl) (sv (rv_fieldAddr st34 rfl rfl) (sr (rw_bk ag31 h11.2 rfl rfl) ?_)))
      obtain ⟨y111, h112, h⟩ := bnd_some h
      refine sc (dc_call (vs := [c1]) can21 rfl ?_)
      refine (marigraphlaw08_few_w C.sb g2 h112).mono ?_
      rintro _ w113 ⟨S114, v116, rfl, c115, h117⟩
      refine ⟨_, rfl, ?_⟩
      replace h1 := h1.cx c115
      replace h11 := h11.cx c115
      replace g2 := g2.cx c115
      replace g4 := g4.cx c115
      replace h0 := h0.cx c115
      replace C := C.trans c115
      obtain ⟨y118, h119, h⟩ := bnd_some h
      refine sc (dc_call (vs := [v0, v116]) can14 rfl ?_)
      refine (index_Index_Add_w C.sb h0 h117 h119).mono ?_
      rintro _ w120 ⟨S121, cs123, fp124, rfl, c122, h125, h126⟩
      refine ⟨_, rfl, ?_⟩
      have h127 : ∀ b, b ∈ fp0 → ¬ S114 b := fun b hb => (h0.lt b hb).2
      have p128 := ap_grow hap0_1 h126 (fun b hb => (h1.lt b hb).1)
      have h129 : ∀ b, b ∈ fp124 → b ∈ fp0 ∨ w.heap.size ≤ b := fun b hb => (h126 b hb).elim (hs0 b) (fun hl => .inr (Nat.le_trans C.up.size hl))
      replace h1 := h1.cf c122 h127 (ap_symm hap0_1)
      replace h11 := h11.cf c122 h127
      replace g2 := g2.cf c122 h127
      replace g4 := g4.cf c122 h127
      replace C := C.ofc c122 (fun b hb => (hs0 b hb).imp (fun h => (.inl h)) id)
      refine sv (mvv (.tuple (List.toArray [.int .i64 y118.1, .int .i64 y118.2.1])) rfl) (sv (rv_extract rfl rfl) (sv (rv_extract rfl rfl) (sv (asv (.int .i64 y118.1) rfl) (sv (asv (.int .i64 y118.2.1) rfl) (W.e (k110 _ _ ?_))))))
      refine cw_seq fun K130 k131 => ?_
      refine cw_region (sv (mvv v1 rfl) (sv (rv_fieldAddr st34 rfl rfl) (sr (rw_bk ag31 h11.2 rfl rfl) ?_)))
      obtain ⟨y132, h133, h⟩ := bnd_some h
      refine sc (dc_call (vs := [c1]) can21 rfl ?_)
      refine (marigraphlaw08_few_w C.sb g2 h133).mono ?_
      rintro _ w134 ⟨S135, v137, rfl, c136, h138⟩
      refine ⟨_, rfl, ?_⟩
      replace h1 := h1.cx c136
      replace h125 := h125.cx c136
      replace C := C.trans c136
      obtain ⟨y139, h140, h⟩ := bnd_some h
      refine sc (dc_call (vs := [v1, v137]) can22 rfl ?_)
      refine (marigraphref08_Index_Add_w C.sb h1 h138 h140).mono ?_
      rintro _ w141 ⟨S142, cs144, fp145, rfl, c143, h146, h147⟩
      refine ⟨_, rfl, ?_⟩
      have h148 : ∀ b, b ∈ fp1 → ¬ S135 b := fun b hb => (h1.lt b hb).2
      have p149 := ap_grow (ap_symm p128) h147 (fun b hb => (h125.lt b hb).1)
      have h150 : ∀ b, b ∈ fp145 → b ∈ fp1 ∨ w.heap.size ≤ b := fun b hb => (h147 b hb).elim (hs1 b) (fun hl => .inr (Nat.le_trans C.up.size hl))
      replace h125 := h125.cf c143 h148 p128
      replace C := C.ofc c143 (fun b hb => (hs1 b hb).imp (fun h => (.inr h)) id)
      refine sv (mvv (.tuple (List.toArray [.int .i64 y139.1, .int .i64 y139.2.1])) rfl) (sv (rv_extract rfl rfl) (sv (rv_extract rfl rfl) (sv (asv (.int .i64 y139.1) rfl) (sv (asv (.int .i64 y139.2.1) rfl) (W.e (k131 _ _ ?_))))))
      obtain ⟨o151, h154, h⟩ := bnd_some h
      refine cw_seq' (fun ρ w1 => ∃ S1, Cx (fun b => b ∈ fp0 ∨ b ∈ fp1) S w S1 w1 ∧ Has ρ [(6, .bool o151)] ∧ Obo 61 index_Index.fs S1 w1 v0 y118.2.2 cs123 fp124 ∧ Ob 29 (marigraphref08_Index.fs y139.2.2) S1 w1 v1 cs144 fp145 ∧ (∀ b, b ∈ fp124 → ¬ b ∈ fp145)) ?_ ?_
      · refine cw_region (sv (mvv (.int .i64 y118.1) rfl) (sv (mvv (.int .i64 y139.1) rfl) (sv (rv_eql rfl rfl) (sv (mvv (.bool (y118.1 == y139.1)) rfl) ?_))))
        rcases bif_some h154 with ⟨b155, h154⟩ | ⟨b155, h154⟩
        · refine W.v (gy rfl rfl rfl b155) (mvv (.int .i64 y118.2.1) rfl) (W.v (gy rfl rfl rfl b155) (mvv (.int .i64 y139.2.1) rfl) (W.v (gy rfl rfl rfl b155) (rv_eql rfl rfl) (sv (ptk (.bool (y118.2.1 == y139.2.1)) rfl b155 rfl) (sv (asv (.bool (y118.2.1 == y139.2.1)) rfl) (W.e ?_)))))
          obtain rfl := osi h154
          exact ⟨_, C, ⟨rfl, trivial⟩, h125, h146, (ap_symm p149)⟩
        · refine W.n (gn rfl rfl rfl b155) (W.n (gn rfl rfl rfl b155) (W.n (gn rfl rfl rfl b155) (sv (pfk (.bool false) rfl b155 rfl) (sv (asv (.bool false) rfl) (W.e ?_)))))
          obtain rfl := osi h154
          exact ⟨_, C, ⟨rfl, trivial⟩, h125, h146, (ap_symm p149)⟩
      · rintro ρ w157 ⟨S156, C, h159, h125, h146, p158⟩
        refine h159.cw fun ρ => ?_
        clear h159
        refine cw_ret ?_
        obtain rfl := osi h
        exact ⟨_, rfl, _, _, _, _, _, rfl, C, h125, h129, h146, h150, p158⟩

end Go.Proofs.YtikdgllagijidaaGreat
