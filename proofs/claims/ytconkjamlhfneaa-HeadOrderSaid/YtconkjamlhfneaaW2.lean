/- What each function computes, and that the program computes it (part 2). Printed by gen.py, a program of this session. -/
import Derived.Test.YtconkjamlhfneaaW1
set_option linter.unusedVariables false
namespace Go.Proofs.Ytconkjamlhfneaa
open Go Go.Mg
noncomputable def marigraphref10_Of.b5 (a0 : List api_Point) (x17 : List api_Point) (x18 : Int) (x40 : Int) : Option ((Int) ⊕ (Int)) :=
  (((bif (decide ((0 : Int) < x40)) then (pur (IntKind.i64.wrap (x40 - (1 : Int))) fun y55 => ((at_ x17 y55).bind fun y57 => ((at_ a0 x18).bind fun y62 => some (decide (y62.T < y57.T))))) else some false).bind fun o47 => (bif o47 then some (.inl ()) else some (.inr (.inr x40)))).bind (Sum.elim (fun o43n => (pur (IntKind.i64.wrap (x40 - (1 : Int))) fun y75 => some (.inl y75))) (fun q => some q)))
noncomputable def marigraphref10_Of.b2 (a0 : List api_Point) (x17 : List api_Point) (x18 : Int) : Option (((List api_Point) × Int) ⊕ ((List api_Point))) :=
  (bif (decide (x18 < (a0.length : Int))) then (((iter (fun s : Int => marigraphref10_Of.b5 a0 x17 x18 s) (x17.length : Int)).bind fun o32 => (((bif (decide ((0 : Int) < o32)) then (pur (IntKind.i64.wrap (o32 - (1 : Int))) fun y92 => ((at_ x17 y92).bind fun y94 => ((at_ a0 x18).bind fun y99 => some (y94.T == y99.T)))) else some false).bind fun o84 => (bif o84 then (pur (IntKind.i64.wrap (o32 - (1 : Int))) fun y110 => ((at_ a0 x18).bind fun y112 => ((at_ x17 y110).bind fun y117 => (pur (x17.set (y110).toNat y112) fun y119 => some (.inr y119))))) else some (.inl ()))).bind (Sum.elim (fun o80n => ((from_ x17 o32).bind fun y136 => ((app_ 16 ([] : List api_Point) y136).bind fun y142 => ((upto_ x17 o32).bind fun y156 => ((at_ a0 x18).bind fun y163 => ((app_ 16 y156 ([y163] : List api_Point)).bind fun y177 => ((app_ 16 y177 y142).bind fun y188 => some y188))))))) (fun q => some q)))).bind fun o26 => (pur (IntKind.i64.wrap (x18 + (1 : Int))) fun y201 => some (.inl (o26, y201)))) else some (.inr x17))
noncomputable def marigraphref10_Of (a0 : List api_Point) : Option (List api_Point) :=
  ((iter (fun s : (List api_Point) × Int => marigraphref10_Of.b2 a0 s.1 s.2) (([] : List api_Point), (0 : Int))).bind fun o5 => some o5)
set_option maxRecDepth 100000 in
set_option maxHeartbeats 4000000 in
theorem marigraphref10_Of_w {S : Nat → Prop} {w : World} {a0 : List api_Point} {v0 : Value} {r : (List api_Point)} (hS : Sb S w) (h0 : Sl (kSl api_Point.k) S w v0 a0) (h : marigraphref10_Of a0 = some r) :
    Calls Try.prog 41 (List.toArray [v0]) w fun e w1 => ∃ S1 u0, e = .returned (u0) ∧ Cx No S w S1 w1 ∧ Ow api_Point.k 29 S1 w.heap.size w1 u0 r := by
  refine enter Try.func41 rfl (by kernel_rfl) rfl ?_
  have C := Cx.refl (F := No) hS
  unfold marigraphref10_Of at h
  refine cw_seq fun K1 k2 => ?_
  refine cw_region (sv (asv (.slice none 0 0) rfl) (W.e (k2 _ _ ?_)))
  refine cw_seq fun K3 k4 => ?_
  refine cw_region (sv (asv (.slice none 0 0) rfl) (W.e (k4 _ _ ?_)))
  obtain ⟨o5, h8, h⟩ := bnd_some h
  refine cw_seq' (fun ρ w1 => ∃ S1 v206, Cx No S w S1 w1 ∧ Has ρ [(3, v206)] ∧ Ow api_Point.k 29 S1 w.heap.size w1 v206 o5) ?_ ?_
  · refine cw_seq fun K9 k10 => ?_
    refine cw_region (sv (asv (.int .i64 0) rfl) (W.e (k10 _ _ (cw_block ?_))))
    refine cw_iter h8 (fun s ρ w1 => ∃ S1 v14, Cx No S w S1 w1 ∧ Has ρ [(0, v0), (3, v14), (4, .int .i64 s.2)] ∧ Sl (kSl api_Point.k) S1 w1 v0 a0 ∧ Ow api_Point.k 29 S1 w.heap.size w1 v14 s.1) ⟨_, _, C, ⟨rfl, rfl, rfl, trivial⟩, h0, Ow.nil _ _ _ _ _⟩ ?_
    rintro ⟨x17, x18⟩ q11 ρ w13 ⟨S12, v14, C, h16, h0, h15⟩ h20 h19
    refine h16.cw fun ρ => ?_
    clear h16
    replace h20 : marigraphref10_Of.b2 a0 x17 x18 = some q11 := h20
    unfold marigraphref10_Of.b2 at h20
    refine cw_seq fun K21 k22 => ?_
    refine cw_seq fun K23 k24 => ?_
    refine cw_region (sv (mvv (.int .i64 x18) rfl) (sv (mvv v0 rfl) (sv (rv_lenS el33 h0 rfl) (sv (rv_lss rfl rfl) (W.e (k24 _ _ ?_))))))
    rcases bif_some h20 with ⟨b25, h20⟩ | ⟨b25, h20⟩
    · refine cw_t rfl b25 (cw_skip (k22 _ _ ?_))
      obtain ⟨o26, h29, h20⟩ := bnd_some h20
      refine cw_seq' (fun ρ w1 => ∃ S1 v198, Cx No S w S1 w1 ∧ Has ρ [(0, v0), (3, v198), (4, .int .i64 x18)] ∧ Sl (kSl api_Point.k) S1 w1 v0 a0 ∧ Ow api_Point.k 29 S1 w.heap.size w1 v198 o26) ?_ ?_
      · refine cw_block ?_
        refine cw_seq fun K30 k31 => ?_
        refine cw_region (sv (mvv v14 rfl) (sv (rv_lenS el33 h15.sealed rfl) (sv (asv (.int .i64 (x17.length : Int)) rfl) (W.e (k31 _ _ ?_)))))
        obtain ⟨o32, h35, h29⟩ := bnd_some h29
        refine cw_seq' (fun ρ w1 => ∃ S1, Cx No S w S1 w1 ∧ Has ρ [(0, v0), (3, v14), (4, .int .i64 x18), (5, .int .i64 o32)] ∧ Sl (kSl api_Point.k) S1 w1 v0 a0 ∧ Ow api_Point.k 29 S1 w.heap.size w1 v14 x17) ?_ ?_
        · refine cw_block ?_
          refine cw_iter h35 (fun s ρ w1 => ∃ S1, Cx No S w S1 w1 ∧ Has ρ [(0, v0), (3, v14), (4, .int .i64 x18), (5, .int .i64 s)] ∧ Sl (kSl api_Point.k) S1 w1 v0 a0 ∧ Ow api_Point.k 29 S1 w.heap.size w1 v14 x17) ⟨_, C, ⟨rfl, rfl, rfl, rfl, trivial⟩, h0, h15⟩ ?_
          rintro x40 q36 ρ w38 ⟨S37, C, h39, h0, h15⟩ h42 h41
          refine h39.cw fun ρ => ?_
          clear h39
          replace h42 : marigraphref10_Of.b5 a0 x17 x18 x40 = some q36 := h42
          unfold marigraphref10_Of.b5 at h42
          obtain ⟨o43, h46, h42⟩ := bnds_some h42
          refine cw_seq' (fun ρ w1 => ∃ o43n, o43 = (.inl o43n) ∧ ∃ S1, Cx No S w S1 w1 ∧ Has ρ [(0, v0), (3, v14), (4, .int .i64 x18), (5, .int .i64 x40)] ∧ Sl (kSl api_Point.k) S1 w1 v0 a0 ∧ Ow api_Point.k 29 S1 w.heap.size w1 v14 x17) ?_ ?_
          · obtain ⟨o47, h50, h46⟩ := bnd_some h46
            refine cw_seq' (fun ρ w1 => ∃ S1, Cx No S w S1 w1 ∧ Has ρ [(0, v0), (3, v14), (4, .int .i64 x18), (5, .int .i64 x40), (30, .bool o47)] ∧ Sl (kSl api_Point.k) S1 w1 v0 a0 ∧ Ow api_Point.k 29 S1 w.heap.size w1 v14 x17) ?_ ?_
            · refine cw_drawU (.one 0 true (.one 1 true (.one 2 true (.one 3 true (.one 4 true (.one 5 true (.one 6 true (.one 7 true (.one 8 true (.one 9 true (.one 10 true (.one 11 true (.one 12 true (.one 13 true (.one 14 true (.one 15 true .done)))))))))))))))) [(8, [9]), (13, [9])] [] (fun c => bif Nat.beq c 9 then (fun _ => True) else No) fol (by kernel_rfl) fun w51 u52 => ?_
              replace h0 := h0.nw u52
              replace h15 := h15.nw u52
              replace C := C.new u52
              have m53 := Sm.refl (fun _ => True) w51
              refine mtv rfl rfl (mvv (.int .i64 x40) rfl) (mtv rfl rfl (rv_gtr rfl rfl) (mtv rfl rfl (mvv (.bool (decide ((0 : Int) < x40))) rfl) ?_))
              rcases bif_some h50 with ⟨b54, h50⟩ | ⟨b54, h50⟩
              · refine MT.vv rfl rfl (gy rfl rfl rfl b54) (mvv v14 rfl) (MT.vv rfl rfl (gy rfl rfl rfl b54) (mvv (.int .i64 x40) rfl) ?_)
                obtain ⟨y55, h56, h50⟩ := pur_some h50
                refine MT.vv rfl rfl (gy rfl rfl rfl b54) (rv_sub rfl rfl h56) ?_
                obtain ⟨y57, h58, h50⟩ := bnd_some h50
                refine MT.vv rfl rfl (gy rfl rfl rfl b54) (rv_index el33 h15.sealed rfl rfl h58) (MT.vv rfl rfl (gy rfl rfl rfl b54) (rv_fieldAddr st29 rfl rfl) ?_)
                obtain ⟨cs59, h60, h61⟩ := Ow.cellsO h15 h58
                obtain rfl := api_Point.r.1 h60
                refine MT.r rfl rfl (gy rfl rfl rfl b54) ⟨m53, trivial⟩ (fun w' hq => rw_el1 (off := 0) ag3 (h61 w' (hq.1.mono fun _ _ => trivial)) rfl rfl) (MT.vv rfl rfl (gy rfl rfl rfl b54) (mvv v0 rfl) (MT.vv rfl rfl (gy rfl rfl rfl b54) (mvv (.int .i64 x18) rfl) ?_))
                obtain ⟨y62, h63, h50⟩ := bnd_some h50
                refine MT.vv rfl rfl (gy rfl rfl rfl b54) (rv_index el33 h0 rfl rfl h63) (MT.vv rfl rfl (gy rfl rfl rfl b54) (rv_fieldAddr st29 rfl rfl) ?_)
                obtain ⟨cs64, h65, h66⟩ := Sl.cells h0 h63
                obtain rfl := api_Point.r.1 h65
                refine MT.r rfl rfl (gy rfl rfl rfl b54) ⟨m53, trivial⟩ (fun w' hq => rw_el1 (off := 0) ag3 (h66 w' (hq.1.mono fun _ _ => trivial)) rfl rfl) (MT.vv rfl rfl (gy rfl rfl rfl b54) (rv_gtr rfl rfl) (mtv rfl rfl (ptk (.bool (decide (y62.T < y57.T))) rfl b54 rfl) (MT.e ?_)))
                obtain rfl := Option.some.inj h50
                exact ⟨_, C, ⟨rfl, rfl, rfl, rfl, rfl, trivial⟩, h0, h15⟩
              · refine MT.n rfl rfl (gn rfl rfl rfl b54) trivial (MT.n rfl rfl (gn rfl rfl rfl b54) trivial (MT.n rfl rfl (gn rfl rfl rfl b54) trivial (MT.n rfl rfl (gn rfl rfl rfl b54) trivial (MT.n rfl rfl (gn rfl rfl rfl b54) trivial (MT.n rfl rfl (gn rfl rfl rfl b54) ⟨m53, trivial⟩ (MT.n rfl rfl (gn rfl rfl rfl b54) trivial (MT.n rfl rfl (gn rfl rfl rfl b54) trivial (MT.n rfl rfl (gn rfl rfl rfl b54) trivial (MT.n rfl rfl (gn rfl rfl rfl b54) trivial (MT.n rfl rfl (gn rfl rfl rfl b54) ⟨m53, trivial⟩ (MT.n rfl rfl (gn rfl rfl rfl b54) trivial ?_)))))))))))
                refine mtv rfl rfl (pfk (.bool false) rfl b54 rfl) (MT.e ?_)
                obtain rfl := Option.some.inj h50
                exact ⟨_, C, ⟨rfl, rfl, rfl, rfl, rfl, trivial⟩, h0, h15⟩
            · rintro ρ w68 ⟨S67, C, h69, h0, h15⟩
              refine h69.cw fun ρ => ?_
              clear h69
              rcases bif_some h46 with ⟨b70, h46⟩ | ⟨b70, h46⟩
              · refine cw_t rfl b70 (cw_skip ?_)
                obtain rfl := Option.some.inj h46
                exact ⟨_, rfl, ⟨_, C, ⟨rfl, rfl, rfl, rfl, trivial⟩, h0, h15⟩⟩
              · refine cw_f rfl b70 (cw_exit ?_)
                obtain rfl := Option.some.inj h46
                replace h42 := h42.2 _ rfl
                obtain rfl := Option.some.inj h42
                have h71 := congrArg some h41
                obtain rfl := Option.some.inj h71
                exact ⟨_, C, ⟨rfl, rfl, rfl, rfl, trivial⟩, h0, h15⟩
          · rintro ρ w73 ⟨o43n, rfl, ⟨S72, C, h74, h0, h15⟩⟩
            replace h42 := h42.1 _ rfl
            refine h74.cw fun ρ => ?_
            clear h74
            refine cw_block (cw_region (sv (mvv (.int .i64 x40) rfl) ?_))
            obtain ⟨y75, h76, h42⟩ := pur_some h42
            refine sv (rv_sub rfl rfl h76) (sv (asv (.int .i64 y75) rfl) (W.e ?_))
            obtain rfl := Option.some.inj h42
            exact ⟨_, rfl, ⟨_, C, ⟨rfl, rfl, rfl, rfl, trivial⟩, h0, h15⟩⟩
        · rintro ρ w78 ⟨S77, C, h79, h0, h15⟩
          refine h79.cw fun ρ => ?_
          clear h79
          obtain ⟨o80, h83, h29⟩ := bnds_some h29
          refine cw_seq' (fun ρ w1 => ∃ o80n, o80 = (.inl o80n) ∧ ∃ S1, Cx No S w S1 w1 ∧ Has ρ [(0, v0), (3, v14), (4, .int .i64 x18), (5, .int .i64 o32)] ∧ Sl (kSl api_Point.k) S1 w1 v0 a0 ∧ Ow api_Point.k 29 S1 w.heap.size w1 v14 x17) ?_ ?_
          · obtain ⟨o84, h87, h83⟩ := bnd_some h83
            refine cw_seq' (fun ρ w1 => ∃ S1, Cx No S w S1 w1 ∧ Has ρ [(0, v0), (3, v14), (4, .int .i64 x18), (5, .int .i64 o32), (48, .bool o84)] ∧ Sl (kSl api_Point.k) S1 w1 v0 a0 ∧ Ow api_Point.k 29 S1 w.heap.size w1 v14 x17) ?_ ?_
            · refine cw_drawU (.one 0 true (.one 1 true (.one 2 true (.one 3 true (.one 4 true (.one 5 true (.one 6 true (.one 7 true (.one 8 true (.one 9 true (.one 10 true (.one 11 true (.one 12 true (.one 13 true (.one 14 true (.one 15 true .done)))))))))))))))) [(8, [9]), (13, [9])] [] (fun c => bif Nat.beq c 9 then (fun _ => True) else No) fol (by kernel_rfl) fun w88 u89 => ?_
              replace h0 := h0.nw u89
              replace h15 := h15.nw u89
              replace C := C.new u89
              have m90 := Sm.refl (fun _ => True) w88
              refine mtv rfl rfl (mvv (.int .i64 o32) rfl) (mtv rfl rfl (rv_gtr rfl rfl) (mtv rfl rfl (mvv (.bool (decide ((0 : Int) < o32))) rfl) ?_))
              rcases bif_some h87 with ⟨b91, h87⟩ | ⟨b91, h87⟩
              · refine MT.vv rfl rfl (gy rfl rfl rfl b91) (mvv v14 rfl) (MT.vv rfl rfl (gy rfl rfl rfl b91) (mvv (.int .i64 o32) rfl) ?_)
                obtain ⟨y92, h93, h87⟩ := pur_some h87
                refine MT.vv rfl rfl (gy rfl rfl rfl b91) (rv_sub rfl rfl h93) ?_
                obtain ⟨y94, h95, h87⟩ := bnd_some h87
                refine MT.vv rfl rfl (gy rfl rfl rfl b91) (rv_index el33 h15.sealed rfl rfl h95) (MT.vv rfl rfl (gy rfl rfl rfl b91) (rv_fieldAddr st29 rfl rfl) ?_)
                obtain ⟨cs96, h97, h98⟩ := Ow.cellsO h15 h95
                obtain rfl := api_Point.r.1 h97
                refine MT.r rfl rfl (gy rfl rfl rfl b91) ⟨m90, trivial⟩ (fun w' hq => rw_el1 (off := 0) ag3 (h98 w' (hq.1.mono fun _ _ => trivial)) rfl rfl) (MT.vv rfl rfl (gy rfl rfl rfl b91) (mvv v0 rfl) (MT.vv rfl rfl (gy rfl rfl rfl b91) (mvv (.int .i64 x18) rfl) ?_))
                obtain ⟨y99, h100, h87⟩ := bnd_some h87
                refine MT.vv rfl rfl (gy rfl rfl rfl b91) (rv_index el33 h0 rfl rfl h100) (MT.vv rfl rfl (gy rfl rfl rfl b91) (rv_fieldAddr st29 rfl rfl) ?_)
                obtain ⟨cs101, h102, h103⟩ := Sl.cells h0 h100
                obtain rfl := api_Point.r.1 h102
                refine MT.r rfl rfl (gy rfl rfl rfl b91) ⟨m90, trivial⟩ (fun w' hq => rw_el1 (off := 0) ag3 (h103 w' (hq.1.mono fun _ _ => trivial)) rfl rfl) (MT.vv rfl rfl (gy rfl rfl rfl b91) (rv_eql rfl rfl) (mtv rfl rfl (ptk (.bool (y94.T == y99.T)) rfl b91 rfl) (MT.e ?_)))
                obtain rfl := Option.some.inj h87
                exact ⟨_, C, ⟨rfl, rfl, rfl, rfl, rfl, trivial⟩, h0, h15⟩
              · refine MT.n rfl rfl (gn rfl rfl rfl b91) trivial (MT.n rfl rfl (gn rfl rfl rfl b91) trivial (MT.n rfl rfl (gn rfl rfl rfl b91) trivial (MT.n rfl rfl (gn rfl rfl rfl b91) trivial (MT.n rfl rfl (gn rfl rfl rfl b91) trivial (MT.n rfl rfl (gn rfl rfl rfl b91) ⟨m90, trivial⟩ (MT.n rfl rfl (gn rfl rfl rfl b91) trivial (MT.n rfl rfl (gn rfl rfl rfl b91) trivial (MT.n rfl rfl (gn rfl rfl rfl b91) trivial (MT.n rfl rfl (gn rfl rfl rfl b91) trivial (MT.n rfl rfl (gn rfl rfl rfl b91) ⟨m90, trivial⟩ (MT.n rfl rfl (gn rfl rfl rfl b91) trivial ?_)))))))))))
                refine mtv rfl rfl (pfk (.bool false) rfl b91 rfl) (MT.e ?_)
                obtain rfl := Option.some.inj h87
                exact ⟨_, C, ⟨rfl, rfl, rfl, rfl, rfl, trivial⟩, h0, h15⟩
            · rintro ρ w105 ⟨S104, C, h106, h0, h15⟩
              refine h106.cw fun ρ => ?_
              clear h106
              rcases bif_some h83 with ⟨b107, h83⟩ | ⟨b107, h83⟩
              · refine cw_t rfl b107 ?_
                refine cw_seq fun K108 k109 => ?_
                refine cw_region (sv (mvv v14 rfl) (sv (mvv (.int .i64 o32) rfl) ?_))
                obtain ⟨y110, h111, h83⟩ := pur_some h83
                refine sv (rv_sub rfl rfl h111) (sv (mvv v0 rfl) (sv (mvv (.int .i64 x18) rfl) ?_))
                obtain ⟨y112, h113, h83⟩ := bnd_some h83
                refine sv (rv_index el33 h0 rfl rfl h113) ?_
                obtain ⟨v114, h115, h116⟩ := rw_loadA (P := Try.prog) el33 h0 h113
                obtain rfl := api_Point.o.1 h115
                refine sr (h116 _ (Sm.refl _ _) rfl) ?_
                obtain ⟨y117, h118, h83⟩ := bnd_some h83
                refine sv (rv_index el33 h15.sealed rfl rfl h118) ?_
                obtain ⟨y119, h120, h83⟩ := pur_some h83
                have h124 := h15
                refine sc (dc_storeO el33 h124 h118 rfl rfl ((api_Point.o.2 rfl)) fun w121 h122 u123 => ?_)
                rw [h120] at h122
                replace h0 := h0.wr u123 h124.not
                replace C := C.ow h124 u123
                refine W.e (k109 _ _ (cw_exit ?_))
                obtain rfl := Option.some.inj h83
                replace h29 := h29.2 _ rfl
                obtain rfl := Option.some.inj h29
                exact ⟨_, _, C, ⟨rfl, rfl, rfl, trivial⟩, h0, h122⟩
              · refine cw_f rfl b107 (cw_skip ?_)
                obtain rfl := Option.some.inj h83
                exact ⟨_, rfl, ⟨_, C, ⟨rfl, rfl, rfl, rfl, trivial⟩, h0, h15⟩⟩
          · rintro ρ w126 ⟨o80n, rfl, ⟨S125, C, h127, h0, h15⟩⟩
            replace h29 := h29.1 _ rfl
            refine h127.cw fun ρ => ?_
            clear h127
            refine cw_seq fun K128 k129 => ?_
            refine cw_region ?_
            refine sc (dc_lit (vs := []) (xs := ([] : List api_Point)) (base := w.heap.size) el33 rfl rfl (.nil) (Nat.le_of_ble_eq_true rfl) C.up.size C.sb fun v130 w131 h132 h133 u134 => ?_)
            have p135 := ap_fresh h133 (fun b hb => (h15.lt b hb).2)
            replace h0 := h0.nw u134
            replace h15 := h15.nw u134
            replace C := C.new u134
            refine sv (mvv v14 rfl) (sv (mvv (.int .i64 o32) rfl) ?_)
            obtain ⟨y136, h137, h29⟩ := bnd_some h29
            obtain ⟨v138, h139, h140, h141⟩ := Ow.fromO (P := Try.prog) h15 h137 el33
            refine sv (h141 rfl rfl) ?_
            obtain ⟨y142, h143, h29⟩ := bnd_some h29
            have h149 := h132
            refine sc (dc_append el33 (by decide) h149 h140 rfl rfl h143 C.up.size C.sb fun v144 w145 h146 u147 h148 => ?_)
            have p150 := ap_grow p135 h148 (fun b hb => (h15.lt b hb).2)
            replace h0 := h0.wr u147 h149.not
            replace h15 := h15.wr u147 h149.not (ap_symm p135)
            replace C := C.ow h149 u147
            refine sv (asv v144 rfl) (W.e (k129 _ _ ?_))
            refine cw_seq fun K151 k152 => ?_
            refine cw_drawU (.one 0 true (.one 1 true (.one 2 true (.one 3 true (.one 4 true (.one 5 true (.one 6 true (.one 7 false (.one 8 false (.one 9 true .done)))))))))) [(6, [0])] [(7, []), (8, [0])] (fun c => bif Nat.beq c 0 then S125 else No) fol (by kernel_rfl) fun w153 u154 => ?_
            replace h0 := h0.nw u154
            replace h15 := h15.nw u154
            replace h146 := h146.nw u154
            replace C := C.new u154
            have h0d := h0
            have h15d := h15
            have h146d := h146
            have m155 := Sm.refl S125 w153
            refine mtv rfl rfl (mvv v14 rfl) (mtv rfl rfl (mvv (.int .i64 o32) rfl) ?_)
            obtain ⟨y156, h157, h29⟩ := bnd_some h29
            obtain ⟨v158, h159, h160, h161⟩ := Ow.upto (P := Try.prog) h15 h157 el33
            have p162 : Ap v158 v144 := fun b hq => (ap_symm p150) b (h160 b hq)
            refine mtv rfl rfl (h161 rfl rfl) (mtv rfl rfl (mvv v0 rfl) (mtv rfl rfl (mvv (.int .i64 x18) rfl) ?_))
            obtain ⟨y163, h164, h29⟩ := bnd_some h29
            refine mtv rfl rfl (rv_index el33 h0 rfl rfl h164) ?_
            obtain ⟨v165, h166, h167⟩ := rw_loadA (P := Try.prog) el33 h0 h164
            obtain rfl := api_Point.o.1 h166
            refine mtr rfl rfl ⟨m155, trivial⟩ (fun w' hq => h167 w' hq.1 rfl) ?_
            refine mtc rfl rfl (dc_lit (vs := [.agg (List.toArray [.int .i64 y163.T, .int .i64 y163.V])]) (xs := ([y163] : List api_Point)) (base := w.heap.size) el33 rfl rfl (.cons (api_Point.o.2 rfl) (.nil)) (Nat.le_of_ble_eq_true rfl) C.up.size C.sb fun v168 w169 h170 h171 u172 => ?_)
            have p173 := ap_fresh h171 (fun b hb => (h159.lt b hb).2)
            have p174 := ap_fresh h171 (fun b hb => (h146.lt b hb).2)
            replace h0 := h0.nw u172
            replace h159 := h159.nw u172
            replace h146 := h146.nw u172
            replace C := C.new u172
            have z175 := (u172).size
            have m176 := m155.nx u172 (by omega)
            refine ⟨trivial, ?_⟩
            obtain ⟨y177, h178, h29⟩ := bnd_some h29
            have h184 := h159
            refine mtc rfl rfl (dc_append el33 (by decide) h184 h170.src rfl rfl h178 C.up.size C.sb fun v179 w180 h181 u182 h183 => ?_)
            have p185 := ap_grow p162 h183 (fun b hb => (h146.lt b hb).2)
            replace h0 := h0.wr u182 h184.not
            replace h146 := h146.wr u182 h184.not (ap_symm p162)
            replace C := C.ow h184 u182
            have z186 := (u182).size
            have m187 := m176.wrC u182 (by omega) h184.not
            refine ⟨⟨m187, trivial⟩, ?_⟩
            refine mtv rfl rfl (asv v179 rfl) (MT.e (k152 _ _ (cw_region (sv (mvv v179 rfl) (sv (mvv v144 rfl) ?_)))))
            obtain ⟨y188, h189, h29⟩ := bnd_some h29
            have h195 := h181
            refine sc (dc_append el33 (by decide) h195 h146.src rfl rfl h189 C.up.size C.sb fun v190 w191 h192 u193 h194 => ?_)
            replace h0 := h0.wr u193 h195.not
            replace C := C.ow h195 u193
            refine sv (asv v190 rfl) (W.e ?_)
            obtain rfl := Option.some.inj h29
            exact ⟨_, _, C, ⟨rfl, rfl, rfl, trivial⟩, h0, h192⟩
      · rintro ρ w197 ⟨S196, v198, C, h200, h0, h199⟩
        refine h200.cw fun ρ => ?_
        clear h200
        refine cw_region (sv (mvv (.int .i64 x18) rfl) ?_)
        obtain ⟨y201, h202, h20⟩ := pur_some h20
        refine sv (rv_add rfl rfl h202) (sv (asv (.int .i64 y201) rfl) (W.e ?_))
        obtain rfl := Option.some.inj h20
        exact ⟨_, rfl, ⟨_, _, C, ⟨rfl, rfl, rfl, trivial⟩, h0, h199⟩⟩
    · refine cw_f rfl b25 (cw_exit ?_)
      obtain rfl := Option.some.inj h20
      have h203 := congrArg some h19
      obtain rfl := Option.some.inj h203
      exact ⟨_, _, C, ⟨rfl, trivial⟩, h15⟩
  · rintro ρ w205 ⟨S204, v206, C, h208, h207⟩
    refine h208.cw fun ρ => ?_
    clear h208
    refine cw_seq fun K209 k210 => ?_
    refine cw_region (sv (mvv v206 rfl) (sv (asv v206 rfl) (W.e (k210 _ _ (cw_ret ?_)))))
    obtain rfl := Option.some.inj h
    exact ⟨_, rfl, _, _, rfl, C, h207⟩

noncomputable def marigraphref11_Head_Points.b2 (a0 : marigraphref11_Head) (a1 : Int) (x17 : List api_Point) (x18 : Int) : Option (((List api_Point) × Int) ⊕ ((List api_Point))) :=
  (bif (decide (x18 < (a0.L.length : Int))) then (((at_ a0.L x18).bind fun y38 => (bif (y38.Id == a1) then ((at_ a0.L x18).bind fun y47 => ((app_ 16 x17 ([y47.P] : List api_Point)).bind fun y59 => some y59)) else some x17)).bind fun o29 => (pur (IntKind.i64.wrap (x18 + (1 : Int))) fun y73 => some (.inl (o29, y73)))) else some (.inr x17))
noncomputable def marigraphref11_Head_Points (a0 : marigraphref11_Head) (a1 : Int) : Option (List api_Point) :=
  ((iter (fun s : (List api_Point) × Int => marigraphref11_Head_Points.b2 a0 a1 s.1 s.2) (([] : List api_Point), (0 : Int))).bind fun o5 => ((marigraphref10_Of o5).bind fun y83 => some y83))
set_option maxRecDepth 100000 in
set_option maxHeartbeats 4000000 in
theorem marigraphref11_Head_Points_w {S : Nat → Prop} {w : World} {a0 : marigraphref11_Head} {a1 : Int} {v0 : Value} {cs0 : List Value} {fp0 : List Nat} {r : (List api_Point)} (hS : Sb S w) (h0 : Ob 62 (marigraphref11_Head.fs a0) S w v0 cs0 fp0) (h : marigraphref11_Head_Points a0 a1 = some r) :
    Calls Try.prog 29 (List.toArray [v0, .int .i64 a1]) w fun e w1 => ∃ S1 u0, e = .returned (u0) ∧ Cx No S w S1 w1 ∧ Ow api_Point.k 29 S1 w.heap.size w1 u0 r := by
  refine enter Try.func29 rfl (by kernel_rfl) rfl ?_
  have C := Cx.refl (F := No) hS
  unfold marigraphref11_Head_Points at h
  have hl0 : ∀ b ∈ fp0, b < w.heap.size := fun b hb => (h0.lt b hb).1
  refine cw_seq fun K1 k2 => ?_
  refine cw_region (sv (asv (.slice none 0 0) rfl) (W.e (k2 _ _ ?_)))
  refine cw_seq fun K3 k4 => ?_
  refine cw_region (sv (asv (.slice none 0 0) rfl) (W.e (k4 _ _ ?_)))
  obtain ⟨o5, h8, h⟩ := bnd_some h
  refine cw_seq' (fun ρ w1 => ∃ S1 v78, Cx No S w S1 w1 ∧ Has ρ [(5, v78)] ∧ Ow api_Point.k 29 S1 w.heap.size w1 v78 o5) ?_ ?_
  · refine cw_seq fun K9 k10 => ?_
    refine cw_region (sv (asv (.int .i64 0) rfl) (W.e (k10 _ _ (cw_block ?_))))
    refine cw_iter h8 (fun s ρ w1 => ∃ S1 v14, Cx No S w S1 w1 ∧ Has ρ [(0, v0), (1, .int .i64 a1), (5, v14), (6, .int .i64 s.2)] ∧ Ow api_Point.k 29 S1 w.heap.size w1 v14 s.1 ∧ Ob 62 (marigraphref11_Head.fs a0) S1 w1 v0 cs0 fp0) ⟨_, _, C, ⟨rfl, rfl, rfl, rfl, trivial⟩, Ow.nil _ _ _ _ _, h0⟩ ?_
    rintro ⟨x17, x18⟩ q11 ρ w13 ⟨S12, v14, C, h16, h15, h0⟩ h20 h19
    refine h16.cw fun ρ => ?_
    clear h16
    replace h20 : marigraphref11_Head_Points.b2 a0 a1 x17 x18 = some q11 := h20
    unfold marigraphref11_Head_Points.b2 at h20
    refine cw_seq fun K21 k22 => ?_
    refine cw_seq fun K23 k24 => ?_
    refine cw_region (sv (mvv (.int .i64 x18) rfl) (sv (mvv v0 rfl) (sv (rv_nilcheck rfl h0.ptr) (sv (rv_fieldAddr (b := pb v0) (o := 0) st62 rfl h0.ptr) ?_))))
    obtain ⟨c25, h26, h27⟩ := h0.sl (i := 1) rfl
    refine sr (rw_ofield (i := 1) (c := c25) h0 ag38 h26 rfl) (sv (rv_lenS el38 h27 rfl) (sv (rv_lss rfl rfl) (W.e (k24 _ _ ?_))))
    rcases bif_some h20 with ⟨b28, h20⟩ | ⟨b28, h20⟩
    · refine cw_t rfl b28 (cw_skip (k22 _ _ ?_))
      obtain ⟨o29, h32, h20⟩ := bnd_some h20
      refine cw_seq' (fun ρ w1 => ∃ S1 v70, Cx No S w S1 w1 ∧ Has ρ [(0, v0), (1, .int .i64 a1), (5, v70), (6, .int .i64 x18)] ∧ Ow api_Point.k 29 S1 w.heap.size w1 v70 o29 ∧ Ob 62 (marigraphref11_Head.fs a0) S1 w1 v0 cs0 fp0) ?_ ?_
      · refine cw_block ?_
        refine cw_seq fun K33 k34 => ?_
        refine cw_region (sv (mvv v0 rfl) (sv (rv_nilcheck rfl h0.ptr) (sv (rv_fieldAddr (b := pb v0) (o := 0) st62 rfl h0.ptr) ?_)))
        obtain ⟨c35, h36, h37⟩ := h0.sl (i := 1) rfl
        refine sr (rw_ofield (i := 1) (c := c35) h0 ag38 h36 rfl) (sv (mvv (.int .i64 x18) rfl) ?_)
        obtain ⟨y38, h39, h32⟩ := bnd_some h32
        refine sv (rv_index el38 h37 rfl rfl h39) (sv (rv_fieldAddr st44 rfl rfl) ?_)
        obtain ⟨cs40, h41, h42⟩ := Sl.cells h37 h39
        obtain rfl := marigraphref11_Item.r.1 h41
        refine sr (rw_el1 (off := 0) ag3 (h42 _ (Sm.refl _ _)) rfl rfl) (sv (mvv (.int .i64 a1) rfl) (sv (rv_eql rfl rfl) (W.e (k34 _ _ ?_))))
        rcases bif_some h32 with ⟨b43, h32⟩ | ⟨b43, h32⟩
        · refine cw_t rfl b43 (cw_region (sv (mvv v14 rfl) (sv (mvv v0 rfl) (sv (rv_nilcheck rfl h0.ptr) (sv (rv_fieldAddr (b := pb v0) (o := 0) st62 rfl h0.ptr) ?_)))))
          obtain ⟨c44, h45, h46⟩ := h0.sl (i := 1) rfl
          refine sr (rw_ofield (i := 1) (c := c44) h0 ag38 h45 rfl) (sv (mvv (.int .i64 x18) rfl) ?_)
          obtain ⟨y47, h48, h32⟩ := bnd_some h32
          refine sv (rv_index el38 h46 rfl rfl h48) (sv (rv_fieldAddr st44 rfl rfl) ?_)
          obtain ⟨cs49, h50, h51⟩ := Sl.cells h46 h48
          obtain rfl := marigraphref11_Item.r.1 h50
          refine sr (rw_elA (off := 1) ag29 (h51 _ (Sm.refl _ _)) rfl rfl rfl) ?_
          refine sc (dc_lit (vs := [.agg (List.toArray [.int .i64 y47.P.T, .int .i64 y47.P.V])]) (xs := ([y47.P] : List api_Point)) (base := w.heap.size) el33 rfl rfl (.cons (api_Point.o.2 rfl) (.nil)) (Nat.le_of_ble_eq_true rfl) C.up.size C.sb fun v52 w53 h54 h55 u56 => ?_)
          have p57 := ap_fresh h55 (fun b hb => (h0.lt b hb).1)
          have p58 := ap_fresh h55 (fun b hb => (h15.lt b hb).2)
          replace h0 := h0.nw u56
          replace h15 := h15.nw u56
          replace C := C.new u56
          obtain ⟨y59, h60, h32⟩ := bnd_some h32
          have h66 := h15
          refine sc (dc_append el33 (by decide) h66 h54.src rfl rfl h60 C.up.size C.sb fun v61 w62 h63 u64 h65 => ?_)
          have p67 := ap_grow (ap_symm (fun b hq hb => absurd (h15.lt b hb).1 (Nat.not_le_of_lt (hl0 b hq)))) h65 (fun b hb => (h0.lt b hb).1)
          replace h0 := h0.wr u64 h66.not (fun b hq hb => absurd (h66.lt b hb).1 (Nat.not_le_of_lt (hl0 b hq)))
          replace C := C.ow h66 u64
          refine sv (asv v61 rfl) (W.e ?_)
          obtain rfl := Option.some.inj h32
          exact ⟨_, _, C, ⟨rfl, rfl, rfl, rfl, trivial⟩, h63, h0⟩
        · refine cw_f rfl b43 (cw_skip ?_)
          obtain rfl := Option.some.inj h32
          exact ⟨_, _, C, ⟨rfl, rfl, rfl, rfl, trivial⟩, h15, h0⟩
      · rintro ρ w69 ⟨S68, v70, C, h72, h71, h0⟩
        refine h72.cw fun ρ => ?_
        clear h72
        refine cw_region (sv (mvv (.int .i64 x18) rfl) ?_)
        obtain ⟨y73, h74, h20⟩ := pur_some h20
        refine sv (rv_add rfl rfl h74) (sv (asv (.int .i64 y73) rfl) (W.e ?_))
        obtain rfl := Option.some.inj h20
        exact ⟨_, rfl, ⟨_, _, C, ⟨rfl, rfl, rfl, rfl, trivial⟩, h71, h0⟩⟩
    · refine cw_f rfl b28 (cw_exit ?_)
      obtain rfl := Option.some.inj h20
      have h75 := congrArg some h19
      obtain rfl := Option.some.inj h75
      exact ⟨_, _, C, ⟨rfl, trivial⟩, h15⟩
  · rintro ρ w77 ⟨S76, v78, C, h80, h79⟩
    refine h80.cw fun ρ => ?_
    clear h80
    refine cw_seq fun K81 k82 => ?_
    refine cw_region (sv (mvv v78 rfl) ?_)
    replace C := C.sealO h79
    replace h79 := h79.sealed
    obtain ⟨y83, h84, h⟩ := bnd_some h
    refine sc (dc_call (vs := [v78]) can41 rfl ?_)
    refine (marigraphref10_Of_w C.sb h79 h84).mono ?_
    rintro _ w85 ⟨S86, v88, rfl, c87, h89⟩
    refine ⟨_, rfl, ?_⟩
    replace h89 := h89.base C.up.size
    replace C := C.trans c87
    refine sv (asv v88 rfl) (W.e (k82 _ _ (cw_ret ?_)))
    obtain rfl := Option.some.inj h
    exact ⟨_, rfl, _, _, rfl, C, h89⟩

noncomputable def marigraphref11_Head_Far (a0 : marigraphref11_Head) (a1 : Int) : Option Bool :=
  ((bif a0.Any then (bif (decide (a1 < a0.Last)) then (pur (IntKind.u64.wrap a0.Last) fun y12 => (pur (IntKind.u64.wrap a1) fun y14 => (pur (IntKind.u64.wrap (y12 - y14)) fun y16 => (pur (IntKind.u64.wrap a0.Window) fun y18 => some (decide (y18 < y16)))))) else some false) else some false).bind fun o3 => some o3)
set_option maxRecDepth 100000 in
set_option maxHeartbeats 4000000 in
theorem marigraphref11_Head_Far_w {S : Nat → Prop} {w : World} {a0 : marigraphref11_Head} {a1 : Int} {v0 : Value} {cs0 : List Value} {fp0 : List Nat} {r : Bool} (hS : Sb S w) (h0 : Ob 62 (marigraphref11_Head.fs a0) S w v0 cs0 fp0) (h : marigraphref11_Head_Far a0 a1 = some r) :
    Calls Try.prog 40 (List.toArray [v0, .int .i64 a1]) w fun e w1 => ∃ S1, e = .returned (.bool r) ∧ Cx No S w S1 w1 := by
  refine enter Try.func40 rfl (by kernel_rfl) rfl ?_
  have C := Cx.refl (F := No) hS
  unfold marigraphref11_Head_Far at h
  have hl0 : ∀ b ∈ fp0, b < w.heap.size := fun b hb => (h0.lt b hb).1
  refine cw_seq fun K1 k2 => ?_
  refine cw_region (sv (asv (.bool false) rfl) (W.e (k2 _ _ ?_)))
  obtain ⟨o3, h6, h⟩ := bnd_some h
  refine cw_seq' (fun ρ w1 => ∃ S1, Cx No S w S1 w1 ∧ Has ρ [(4, .bool o3)]) ?_ ?_
  · refine cw_drawU (.one 0 true (.one 1 true (.one 2 true (.one 3 true (.one 4 true (.one 5 true (.one 6 true (.one 7 true (.one 8 true (.one 9 true (.one 10 true (.one 11 true (.one 12 true (.one 13 true (.one 14 true (.one 15 true (.one 16 true (.one 17 true (.one 18 true (.one 19 true (.one 20 true (.one 21 true (.one 22 true (.one 23 true (.one 24 true (.one 25 true (.one 26 true (.one 27 true (.one 28 true .done))))))))))))))))))))))))))))) [(3, [9]), (9, [9]), (16, [9]), (24, [9])] [] (fun c => bif Nat.beq c 9 then (fun _ => True) else No) fol (by kernel_rfl) fun w7 u8 => ?_
    replace h0 := h0.nw u8
    replace C := C.new u8
    have m9 := Sm.refl (fun _ => True) w7
    refine mtv rfl rfl (mvv v0 rfl) (mtv rfl rfl (rv_nilcheck rfl h0.ptr) (mtv rfl rfl (rv_fieldAddr (b := pb v0) (o := 0) st62 rfl h0.ptr) (mtr rfl rfl ⟨m9, trivial⟩ (fun w' hq => rw_ofieldU (i := 3) (c := .bool a0.Any) h0 (hq.1.mono fun _ _ => trivial) ag4 (h0.sc (i := 3) rfl) rfl) (mtv rfl rfl (mvv (.bool a0.Any) rfl) ?_))))
    rcases bif_some h6 with ⟨b10, h6⟩ | ⟨b10, h6⟩
    · refine MT.vv rfl rfl (gy rfl rfl rfl b10) (mvv (.int .i64 a1) rfl) (MT.vv rfl rfl (gy rfl rfl rfl b10) (mvv v0 rfl) (MT.vv rfl rfl (gy rfl rfl rfl b10) (rv_nilcheck rfl h0.ptr) (MT.vv rfl rfl (gy rfl rfl rfl b10) (rv_fieldAddr (b := pb v0) (o := 0) st62 rfl h0.ptr) (MT.r rfl rfl (gy rfl rfl rfl b10) ⟨m9, trivial⟩ (fun w' hq => rw_ofieldU (i := 2) (c := .int .i64 a0.Last) h0 (hq.1.mono fun _ _ => trivial) ag3 (h0.sc (i := 2) rfl) rfl) (MT.vv rfl rfl (gy rfl rfl rfl b10) (rv_lss rfl rfl) (mtv rfl rfl (ptk (.bool (decide (a1 < a0.Last))) rfl b10 rfl) (mtv rfl rfl (mvv (.bool (decide (a1 < a0.Last))) rfl) ?_)))))))
      rcases bif_some h6 with ⟨b11, h6⟩ | ⟨b11, h6⟩
      · refine MT.vv rfl rfl (gy rfl rfl rfl b11) (mvv v0 rfl) (MT.vv rfl rfl (gy rfl rfl rfl b11) (rv_nilcheck rfl h0.ptr) (MT.vv rfl rfl (gy rfl rfl rfl b11) (rv_fieldAddr (b := pb v0) (o := 0) st62 rfl h0.ptr) (MT.r rfl rfl (gy rfl rfl rfl b11) ⟨m9, trivial⟩ (fun w' hq => rw_ofieldU (i := 2) (c := .int .i64 a0.Last) h0 (hq.1.mono fun _ _ => trivial) ag3 (h0.sc (i := 2) rfl) rfl) ?_)))
        obtain ⟨y12, h13, h6⟩ := pur_some h6
        refine MT.vv rfl rfl (gy rfl rfl rfl b11) (rv_conv Try.underlying3 Try.underlying77 rfl h13) (MT.vv rfl rfl (gy rfl rfl rfl b11) (mvv (.int .i64 a1) rfl) ?_)
        obtain ⟨y14, h15, h6⟩ := pur_some h6
        refine MT.vv rfl rfl (gy rfl rfl rfl b11) (rv_conv Try.underlying3 Try.underlying77 rfl h15) ?_
        obtain ⟨y16, h17, h6⟩ := pur_some h6
        refine MT.vv rfl rfl (gy rfl rfl rfl b11) (rv_sub rfl rfl h17) (MT.vv rfl rfl (gy rfl rfl rfl b11) (mvv v0 rfl) (MT.vv rfl rfl (gy rfl rfl rfl b11) (rv_nilcheck rfl h0.ptr) (MT.vv rfl rfl (gy rfl rfl rfl b11) (rv_fieldAddr (b := pb v0) (o := 0) st62 rfl h0.ptr) (MT.r rfl rfl (gy rfl rfl rfl b11) ⟨m9, trivial⟩ (fun w' hq => rw_ofieldU (i := 0) (c := .int .i64 a0.Window) h0 (hq.1.mono fun _ _ => trivial) ag3 (h0.sc (i := 0) rfl) rfl) ?_))))
        obtain ⟨y18, h19, h6⟩ := pur_some h6
        refine MT.vv rfl rfl (gy rfl rfl rfl b11) (rv_conv Try.underlying3 Try.underlying77 rfl h19) (MT.vv rfl rfl (gy rfl rfl rfl b11) (rv_gtr rfl rfl) (mtv rfl rfl (ptk (.bool (decide (y18 < y16))) rfl b11 rfl) (mtv rfl rfl (asv (.bool (decide (y18 < y16))) rfl) (MT.e ?_))))
        obtain rfl := Option.some.inj h6
        exact ⟨_, C, ⟨rfl, trivial⟩⟩
      · refine MT.n rfl rfl (gn rfl rfl rfl b11) trivial (MT.n rfl rfl (gn rfl rfl rfl b11) trivial (MT.n rfl rfl (gn rfl rfl rfl b11) trivial (MT.n rfl rfl (gn rfl rfl rfl b11) ⟨m9, trivial⟩ (MT.n rfl rfl (gn rfl rfl rfl b11) trivial (MT.n rfl rfl (gn rfl rfl rfl b11) trivial (MT.n rfl rfl (gn rfl rfl rfl b11) trivial (MT.n rfl rfl (gn rfl rfl rfl b11) trivial (MT.n rfl rfl (gn rfl rfl rfl b11) trivial (MT.n rfl rfl (gn rfl rfl rfl b11) trivial (MT.n rfl rfl (gn rfl rfl rfl b11) trivial (MT.n rfl rfl (gn rfl rfl rfl b11) ⟨m9, trivial⟩ ?_)))))))))))
        refine MT.n rfl rfl (gn rfl rfl rfl b11) trivial (MT.n rfl rfl (gn rfl rfl rfl b11) trivial (mtv rfl rfl (pfk (.bool false) rfl b11 rfl) (mtv rfl rfl (asv (.bool false) rfl) (MT.e ?_))))
        obtain rfl := Option.some.inj h6
        exact ⟨_, C, ⟨rfl, trivial⟩⟩
    · refine MT.n rfl rfl (gn rfl rfl rfl b10) trivial (MT.n rfl rfl (gn rfl rfl rfl b10) trivial (MT.n rfl rfl (gn rfl rfl rfl b10) trivial (MT.n rfl rfl (gn rfl rfl rfl b10) trivial (MT.n rfl rfl (gn rfl rfl rfl b10) ⟨m9, trivial⟩ (MT.n rfl rfl (gn rfl rfl rfl b10) trivial (mtv rfl rfl (pfk (.bool false) rfl b10 rfl) (mtv rfl rfl (mvv (.bool false) rfl) (MT.n rfl rfl (gn rfl rfl rfl rfl) trivial (MT.n rfl rfl (gn rfl rfl rfl rfl) trivial (MT.n rfl rfl (gn rfl rfl rfl rfl) trivial (MT.n rfl rfl (gn rfl rfl rfl rfl) ⟨m9, trivial⟩ ?_)))))))))))
      refine MT.n rfl rfl (gn rfl rfl rfl rfl) trivial (MT.n rfl rfl (gn rfl rfl rfl rfl) trivial (MT.n rfl rfl (gn rfl rfl rfl rfl) trivial (MT.n rfl rfl (gn rfl rfl rfl rfl) trivial (MT.n rfl rfl (gn rfl rfl rfl rfl) trivial (MT.n rfl rfl (gn rfl rfl rfl rfl) trivial (MT.n rfl rfl (gn rfl rfl rfl rfl) trivial (MT.n rfl rfl (gn rfl rfl rfl rfl) ⟨m9, trivial⟩ (MT.n rfl rfl (gn rfl rfl rfl rfl) trivial (MT.n rfl rfl (gn rfl rfl rfl rfl) trivial (mtv rfl rfl (pfk (.bool false) rfl rfl rfl) (mtv rfl rfl (asv (.bool false) rfl) ?_)))))))))))
      refine MT.e ?_
      obtain rfl := Option.some.inj h6
      exact ⟨_, C, ⟨rfl, trivial⟩⟩
  · rintro ρ w21 ⟨S20, C, h22⟩
    refine h22.cw fun ρ => ?_
    clear h22
    refine cw_ret ?_
    obtain rfl := Option.some.inj h
    exact ⟨_, rfl, _, rfl, C⟩

noncomputable def marigraphref11_Head_Seal.b5 (a0 : marigraphref11_Head) (y47 : (List api_Point)) (x81 : List api_Point) (x82 : Int) : Option (((List api_Point) × Int) ⊕ ((List api_Point))) :=
  (bif (decide (x82 < (y47.length : Int))) then (((at_ y47 x82).bind fun y96 => ((marigraphref11_Head_Far a0 y96.T).bind fun y101 => (bif y101 then ((at_ y47 x82).bind fun y107 => ((app_ 16 x81 ([y107] : List api_Point)).bind fun y122 => some y122)) else some x81))).bind fun o90 => (pur (IntKind.i64.wrap (x82 + (1 : Int))) fun y149 => some (.inl (o90, y149)))) else some (.inr x81))
noncomputable def marigraphref11_Head_Seal.b2 (a0 : marigraphref11_Head) (y7 : (List Int)) (x30 : List api_Chunk) (x31 : Int) : Option (((List api_Chunk) × Int) ⊕ ((List api_Chunk))) :=
  (bif (decide (x31 < (y7.length : Int))) then (((at_ y7 x31).bind fun y45 => ((marigraphref11_Head_Points a0 y45).bind fun y47 => ((iter (fun s : (List api_Point) × Int => marigraphref11_Head_Seal.b5 a0 y47 s.1 s.2) (([] : List api_Point), (0 : Int))).bind fun o59 => (bif (decide ((0 : Int) < (o59.length : Int))) then ((at_ y7 x31).bind fun y166 => ((app_ 32 x30 ([(api_Chunk.mk y166 o59)] : List api_Chunk)).bind fun y176 => some y176)) else some x30)))).bind fun o39 => (pur (IntKind.i64.wrap (x31 + (1 : Int))) fun y194 => some (.inl (o39, y194)))) else some (.inr x30))
noncomputable def marigraphref11_Head_Seal.b8 (a0 : marigraphref11_Head) (x220 : List marigraphref11_Item) (x221 : Int) : Option (((List marigraphref11_Item) × Int) ⊕ ((List marigraphref11_Item))) :=
  (bif (decide (x221 < (a0.L.length : Int))) then (((at_ a0.L x221).bind fun y241 => ((marigraphref11_Head_Far a0 y241.P.T).bind fun y246 => (bif (!y246) then ((at_ a0.L x221).bind fun y255 => ((app_ 24 x220 ([y255] : List marigraphref11_Item)).bind fun y268 => some y268)) else some x220))).bind fun o232 => (pur (IntKind.i64.wrap (x221 + (1 : Int))) fun y286 => some (.inl (o232, y286)))) else some (.inr x220))
noncomputable def marigraphref11_Head_Seal (a0 : marigraphref11_Head) : Option ((List api_Chunk) × marigraphref11_Head) :=
  ((marigraphref11_Head_Ids a0).bind fun y7 => ((iter (fun s : (List api_Chunk) × Int => marigraphref11_Head_Seal.b2 a0 y7 s.1 s.2) (([] : List api_Chunk), (0 : Int))).bind fun o15 => ((iter (fun s : (List marigraphref11_Item) × Int => marigraphref11_Head_Seal.b8 a0 s.1 s.2) (([] : List marigraphref11_Item), (0 : Int))).bind fun o205 => (pur ({ a0 with L := o205 } : marigraphref11_Head) fun y299 => some (o15, y299)))))
set_option maxRecDepth 100000 in
set_option maxHeartbeats 4000000 in
theorem marigraphref11_Head_Seal_w {S : Nat → Prop} {w : World} {a0 : marigraphref11_Head} {v0 : Value} {cs0 : List Value} {fp0 : List Nat} {r : (List api_Chunk) × marigraphref11_Head} (hS : Sb S w) (h0 : Ob 62 (marigraphref11_Head.fs a0) S w v0 cs0 fp0) (h : marigraphref11_Head_Seal a0 = some r) :
    Calls Try.prog 24 (List.toArray [v0]) w fun e w1 => ∃ S1 u0 us_0 up_0, e = .returned (u0) ∧ Cx (fun b => b ∈ fp0) S w S1 w1 ∧ Sl (kSl api_Chunk.k) S1 w1 u0 r.1 ∧ Ob 62 (marigraphref11_Head.fs r.2) S1 w1 v0 us_0 up_0 ∧ (∀ b, b ∈ up_0 → b ∈ fp0 ∨ w.heap.size ≤ b) := by
  refine enter Try.func24 rfl (by kernel_rfl) rfl ?_
  have C := Cx.refl (F := (fun b => b ∈ fp0)) hS
  unfold marigraphref11_Head_Seal at h
  have hs0 : ∀ b, b ∈ fp0 → b ∈ fp0 ∨ w.heap.size ≤ b := fun b hb => .inl hb
  have hl0 : ∀ b ∈ fp0, b < w.heap.size := fun b hb => (h0.lt b hb).1
  refine cw_seq fun K1 k2 => ?_
  refine cw_region (sv (asv (.slice none 0 0) rfl) (W.e (k2 _ _ ?_)))
  refine cw_seq fun K3 k4 => ?_
  refine cw_region (sv (asv (.slice none 0 0) rfl) (W.e (k4 _ _ ?_)))
  refine cw_seq fun K5 k6 => ?_
  refine cw_region (sv (mvv v0 rfl) ?_)
  obtain ⟨y7, h8, h⟩ := bnd_some h
  refine sc (dc_call (vs := [v0]) can28 rfl ?_)
  refine (marigraphref11_Head_Ids_w C.sb h0 h8).mono ?_
  rintro _ w9 ⟨S10, v12, rfl, c11, h13⟩
  refine ⟨_, rfl, ?_⟩
  have p14 := ap_fresh (fun b hb => (h13.lt b hb).1) (fun b hb => (h0.lt b hb).1)
  replace h13 := h13.base C.up.size
  replace h0 := h0.cx c11
  replace C := C.trans c11
  refine sv (asv v12 rfl) (W.e (k6 _ _ ?_))
  obtain ⟨o15, h18, h⟩ := bnd_some h
  refine cw_seq' (fun ρ w1 => ∃ S1 v199, Cx (fun b => b ∈ fp0) S w S1 w1 ∧ Has ρ [(0, v0), (3, v199)] ∧ Ow api_Chunk.k 35 S1 w.heap.size w1 v199 o15 ∧ Ob 62 (marigraphref11_Head.fs a0) S1 w1 v0 cs0 fp0 ∧ (∀ b, Blk v199 b → ¬ b ∈ fp0)) ?_ ?_
  · refine cw_seq fun K19 k20 => ?_
    refine cw_region (sv (asv (.int .i64 0) rfl) (W.e (k20 _ _ (cw_block ?_))))
    refine cw_iter h18 (fun s ρ w1 => ∃ S1 v24, Cx (fun b => b ∈ fp0) S w S1 w1 ∧ Has ρ [(0, v0), (3, v24), (4, v12), (5, .int .i64 s.2)] ∧ Ow api_Chunk.k 35 S1 w.heap.size w1 v24 s.1 ∧ Ow (kI .i64) 3 S1 w.heap.size w1 v12 y7 ∧ Ob 62 (marigraphref11_Head.fs a0) S1 w1 v0 cs0 fp0 ∧ Ap v24 v12 ∧ (∀ b, Blk v24 b → ¬ b ∈ fp0) ∧ (∀ b, Blk v12 b → ¬ b ∈ fp0)) ⟨_, _, C, ⟨rfl, rfl, rfl, rfl, trivial⟩, Ow.nil _ _ _ _ _, h13, h0, ap_nil, ap_nil, p14⟩ ?_
    rintro ⟨x30, x31⟩ q21 ρ w23 ⟨S22, v24, C, h29, h25, h13, h0, p26, p27, p28⟩ h33 h32
    refine h29.cw fun ρ => ?_
    clear h29
    replace h33 : marigraphref11_Head_Seal.b2 a0 y7 x30 x31 = some q21 := h33
    unfold marigraphref11_Head_Seal.b2 at h33
    refine cw_seq fun K34 k35 => ?_
    refine cw_seq fun K36 k37 => ?_
    refine cw_region (sv (mvv (.int .i64 x31) rfl) (sv (mvv v12 rfl) (sv (rv_lenS el51 h13.sealed rfl) (sv (rv_lss rfl rfl) (W.e (k37 _ _ ?_))))))
    rcases bif_some h33 with ⟨b38, h33⟩ | ⟨b38, h33⟩
    · refine cw_t rfl b38 (cw_skip (k35 _ _ ?_))
      obtain ⟨o39, h42, h33⟩ := bnd_some h33
      refine cw_seq' (fun ρ w1 => ∃ S1 v188, Cx (fun b => b ∈ fp0) S w S1 w1 ∧ Has ρ [(0, v0), (3, v188), (4, v12), (5, .int .i64 x31)] ∧ Ow api_Chunk.k 35 S1 w.heap.size w1 v188 o39 ∧ Ow (kI .i64) 3 S1 w.heap.size w1 v12 y7 ∧ Ob 62 (marigraphref11_Head.fs a0) S1 w1 v0 cs0 fp0 ∧ Ap v188 v12 ∧ (∀ b, Blk v188 b → ¬ b ∈ fp0) ∧ (∀ b, Blk v12 b → ¬ b ∈ fp0)) ?_ ?_
      · refine cw_block ?_
        refine cw_seq fun K43 k44 => ?_
        refine cw_region (sv (mvv v0 rfl) (sv (mvv v12 rfl) (sv (mvv (.int .i64 x31) rfl) ?_)))
        obtain ⟨y45, h46, h42⟩ := bnd_some h42
        refine sv (rv_index el51 h13.sealed rfl rfl h46) (sr (rw_loadC el51 h13.sealed h46 rfl _ (Sm.refl _ _)) ?_)
        obtain ⟨y47, h48, h42⟩ := bnd_some h42
        refine sc (dc_call (vs := [v0, .int .i64 y45]) can29 rfl ?_)
        refine (marigraphref11_Head_Points_w C.sb h0 h48).mono ?_
        rintro _ w49 ⟨S50, v52, rfl, c51, h53⟩
        refine ⟨_, rfl, ?_⟩
        have p54 := ap_fresh (fun b hb => (h53.lt b hb).1) (fun b hb => (h0.lt b hb).1)
        have p55 := ap_fresh (fun b hb => (h53.lt b hb).1) (fun b hb => (h25.lt b hb).2)
        have p56 := ap_fresh (fun b hb => (h53.lt b hb).1) (fun b hb => (h13.lt b hb).2)
        replace h53 := h53.base C.up.size
        replace h0 := h0.cx c51
        replace h25 := h25.cx c51
        replace h13 := h13.cx c51
        replace C := C.trans c51
        refine sv (asv v52 rfl) (W.e (k44 _ _ ?_))
        refine cw_seq fun K57 k58 => ?_
        refine cw_region (sv (asv (.slice none 0 0) rfl) (W.e (k58 _ _ ?_)))
        obtain ⟨o59, h62, h42⟩ := bnd_some h42
        refine cw_seq' (fun ρ w1 => ∃ S1 v154, Cx (fun b => b ∈ fp0) S w S1 w1 ∧ Has ρ [(0, v0), (3, v24), (4, v12), (5, .int .i64 x31), (7, v154)] ∧ Ow api_Chunk.k 35 S1 w.heap.size w1 v24 x30 ∧ Ow (kI .i64) 3 S1 w.heap.size w1 v12 y7 ∧ Ow api_Point.k 29 S1 w.heap.size w1 v154 o59 ∧ Ob 62 (marigraphref11_Head.fs a0) S1 w1 v0 cs0 fp0 ∧ Ap v24 v12 ∧ Ap v24 v154 ∧ Ap v12 v154 ∧ (∀ b, Blk v24 b → ¬ b ∈ fp0) ∧ (∀ b, Blk v12 b → ¬ b ∈ fp0) ∧ (∀ b, Blk v154 b → ¬ b ∈ fp0)) ?_ ?_
        · refine cw_seq fun K63 k64 => ?_
          refine cw_region (sv (asv (.int .i64 0) rfl) (W.e (k64 _ _ (cw_block ?_))))
          refine cw_iter h62 (fun s ρ w1 => ∃ S1 v68, Cx (fun b => b ∈ fp0) S w S1 w1 ∧ Has ρ [(0, v0), (3, v24), (4, v12), (5, .int .i64 x31), (6, v52), (7, v68), (8, .int .i64 s.2)] ∧ Ow api_Chunk.k 35 S1 w.heap.size w1 v24 x30 ∧ Ow (kI .i64) 3 S1 w.heap.size w1 v12 y7 ∧ Ow api_Point.k 29 S1 w.heap.size w1 v52 y47 ∧ Ow api_Point.k 29 S1 w.heap.size w1 v68 s.1 ∧ Ob 62 (marigraphref11_Head.fs a0) S1 w1 v0 cs0 fp0 ∧ Ap v24 v12 ∧ Ap v24 v52 ∧ Ap v24 v68 ∧ Ap v12 v52 ∧ Ap v12 v68 ∧ Ap v52 v68 ∧ (∀ b, Blk v24 b → ¬ b ∈ fp0) ∧ (∀ b, Blk v12 b → ¬ b ∈ fp0) ∧ (∀ b, Blk v52 b → ¬ b ∈ fp0) ∧ (∀ b, Blk v68 b → ¬ b ∈ fp0)) ⟨_, _, C, ⟨rfl, rfl, rfl, rfl, rfl, rfl, rfl, trivial⟩, h25, h13, h53, Ow.nil _ _ _ _ _, h0, p26, (ap_symm p55), (ap_symm ap_nil), (ap_symm p56), (ap_symm ap_nil), (ap_symm ap_nil), p27, p28, p54, ap_nil⟩ ?_
          rintro ⟨x81, x82⟩ q65 ρ w67 ⟨S66, v68, C, h80, h25, h13, h53, h69, h0, p70, p71, p72, p73, p74, p75, p76, p77, p78, p79⟩ h84 h83
          refine h80.cw fun ρ => ?_
          clear h80
          replace h84 : marigraphref11_Head_Seal.b5 a0 y47 x81 x82 = some q65 := h84
          unfold marigraphref11_Head_Seal.b5 at h84
          refine cw_seq fun K85 k86 => ?_
          refine cw_seq fun K87 k88 => ?_
          refine cw_region (sv (mvv (.int .i64 x82) rfl) (sv (mvv v52 rfl) (sv (rv_lenS el33 h53.sealed rfl) (sv (rv_lss rfl rfl) (W.e (k88 _ _ ?_))))))
          rcases bif_some h84 with ⟨b89, h84⟩ | ⟨b89, h84⟩
          · refine cw_t rfl b89 (cw_skip (k86 _ _ ?_))
            obtain ⟨o90, h93, h84⟩ := bnd_some h84
            refine cw_seq' (fun ρ w1 => ∃ S1 v136, Cx (fun b => b ∈ fp0) S w S1 w1 ∧ Has ρ [(0, v0), (3, v24), (4, v12), (5, .int .i64 x31), (6, v52), (7, v136), (8, .int .i64 x82)] ∧ Ow api_Chunk.k 35 S1 w.heap.size w1 v24 x30 ∧ Ow (kI .i64) 3 S1 w.heap.size w1 v12 y7 ∧ Ow api_Point.k 29 S1 w.heap.size w1 v52 y47 ∧ Ow api_Point.k 29 S1 w.heap.size w1 v136 o90 ∧ Ob 62 (marigraphref11_Head.fs a0) S1 w1 v0 cs0 fp0 ∧ Ap v24 v12 ∧ Ap v24 v52 ∧ Ap v24 v136 ∧ Ap v12 v52 ∧ Ap v12 v136 ∧ Ap v52 v136 ∧ (∀ b, Blk v24 b → ¬ b ∈ fp0) ∧ (∀ b, Blk v12 b → ¬ b ∈ fp0) ∧ (∀ b, Blk v52 b → ¬ b ∈ fp0) ∧ (∀ b, Blk v136 b → ¬ b ∈ fp0)) ?_ ?_
            · refine cw_block ?_
              refine cw_seq fun K94 k95 => ?_
              refine cw_region (sv (mvv v0 rfl) (sv (mvv v52 rfl) (sv (mvv (.int .i64 x82) rfl) ?_)))
              obtain ⟨y96, h97, h93⟩ := bnd_some h93
              refine sv (rv_index el33 h53.sealed rfl rfl h97) (sv (rv_fieldAddr st29 rfl rfl) ?_)
              obtain ⟨cs98, h99, h100⟩ := Ow.cellsO h53 h97
              obtain rfl := api_Point.r.1 h99
              refine sr (rw_el1 (off := 0) ag3 (h100 _ (Sm.refl _ _)) rfl rfl) ?_
              obtain ⟨y101, h102, h93⟩ := bnd_some h93
              refine sc (dc_call (vs := [v0, .int .i64 y96.T]) can40 rfl ?_)
              refine (marigraphref11_Head_Far_w C.sb h0 h102).mono ?_
              rintro _ w103 ⟨S104, rfl, c105⟩
              refine ⟨_, rfl, ?_⟩
              replace h0 := h0.cx c105
              replace h25 := h25.cx c105
              replace h13 := h13.cx c105
              replace h53 := h53.cx c105
              replace h69 := h69.cx c105
              replace C := C.trans c105
              refine W.e (k95 _ _ ?_)
              rcases bif_some h93 with ⟨b106, h93⟩ | ⟨b106, h93⟩
              · refine cw_t rfl b106 (cw_region (sv (mvv v68 rfl) (sv (mvv v52 rfl) (sv (mvv (.int .i64 x82) rfl) ?_))))
                obtain ⟨y107, h108, h93⟩ := bnd_some h93
                refine sv (rv_index el33 h53.sealed rfl rfl h108) ?_
                obtain ⟨v109, h110, h111⟩ := rw_loadO (P := Try.prog) el33 h53 h108
                obtain rfl := api_Point.o.1 h110
                refine sr (h111 _ (Sm.refl _ _) rfl) ?_
                refine sc (dc_lit (vs := [.agg (List.toArray [.int .i64 y107.T, .int .i64 y107.V])]) (xs := ([y107] : List api_Point)) (base := w.heap.size) el33 rfl rfl (.cons (api_Point.o.2 rfl) (.nil)) (Nat.le_of_ble_eq_true rfl) C.up.size C.sb fun v112 w113 h114 h115 u116 => ?_)
                have p117 := ap_fresh h115 (fun b hb => (h0.lt b hb).1)
                have p118 := ap_fresh h115 (fun b hb => (h25.lt b hb).2)
                have p119 := ap_fresh h115 (fun b hb => (h13.lt b hb).2)
                have p120 := ap_fresh h115 (fun b hb => (h53.lt b hb).2)
                have p121 := ap_fresh h115 (fun b hb => (h69.lt b hb).2)
                replace h0 := h0.nw u116
                replace h25 := h25.nw u116
                replace h13 := h13.nw u116
                replace h53 := h53.nw u116
                replace h69 := h69.nw u116
                replace C := C.new u116
                obtain ⟨y122, h123, h93⟩ := bnd_some h93
                have h129 := h69
                refine sc (dc_append el33 (by decide) h129 h114.src rfl rfl h123 C.up.size C.sb fun v124 w125 h126 u127 h128 => ?_)
                have p130 := ap_grow p79 h128 (fun b hb => (h0.lt b hb).1)
                have p131 := ap_grow (ap_symm p72) h128 (fun b hb => (h25.lt b hb).2)
                have p132 := ap_grow (ap_symm p74) h128 (fun b hb => (h13.lt b hb).2)
                have p133 := ap_grow (ap_symm p75) h128 (fun b hb => (h53.lt b hb).2)
                replace h0 := h0.wr u127 h129.not (ap_symm p79)
                replace h25 := h25.wr u127 h129.not p72
                replace h13 := h13.wr u127 h129.not p74
                replace h53 := h53.wr u127 h129.not p75
                replace C := C.ow h129 u127
                refine sv (asv v124 rfl) (W.e ?_)
                obtain rfl := Option.some.inj h93
                exact ⟨_, _, C, ⟨rfl, rfl, rfl, rfl, rfl, rfl, rfl, trivial⟩, h25, h13, h53, h126, h0, p70, p71, (ap_symm p131), p73, (ap_symm p132), (ap_symm p133), p76, p77, p78, p130⟩
              · refine cw_f rfl b106 (cw_skip ?_)
                obtain rfl := Option.some.inj h93
                exact ⟨_, _, C, ⟨rfl, rfl, rfl, rfl, rfl, rfl, rfl, trivial⟩, h25, h13, h53, h69, h0, p70, p71, p72, p73, p74, p75, p76, p77, p78, p79⟩
            · rintro ρ w135 ⟨S134, v136, C, h148, h25, h13, h53, h137, h0, p138, p139, p140, p141, p142, p143, p144, p145, p146, p147⟩
              refine h148.cw fun ρ => ?_
              clear h148
              refine cw_region (sv (mvv (.int .i64 x82) rfl) ?_)
              obtain ⟨y149, h150, h84⟩ := pur_some h84
              refine sv (rv_add rfl rfl h150) (sv (asv (.int .i64 y149) rfl) (W.e ?_))
              obtain rfl := Option.some.inj h84
              exact ⟨_, rfl, ⟨_, _, C, ⟨rfl, rfl, rfl, rfl, rfl, rfl, rfl, trivial⟩, h25, h13, h53, h137, h0, p138, p139, p140, p141, p142, p143, p144, p145, p146, p147⟩⟩
          · refine cw_f rfl b89 (cw_exit ?_)
            obtain rfl := Option.some.inj h84
            have h151 := congrArg some h83
            obtain rfl := Option.some.inj h151
            exact ⟨_, _, C, ⟨rfl, rfl, rfl, rfl, rfl, trivial⟩, h25, h13, h69, h0, p70, p72, p74, p76, p77, p79⟩
        · rintro ρ w153 ⟨S152, v154, C, h162, h25, h13, h155, h0, p156, p157, p158, p159, p160, p161⟩
          refine h162.cw fun ρ => ?_
          clear h162
          refine cw_seq fun K163 k164 => ?_
          refine cw_region (sv (mvv v154 rfl) (sv (rv_lenS el33 h155.sealed rfl) (sv (rv_gtr rfl rfl) (W.e (k164 _ _ ?_)))))
          rcases bif_some h42 with ⟨b165, h42⟩ | ⟨b165, h42⟩
          · refine cw_t rfl b165 (cw_region (sv (mvv v24 rfl) (sv (mvv v12 rfl) (sv (mvv (.int .i64 x31) rfl) ?_))))
            obtain ⟨y166, h167, h42⟩ := bnd_some h42
            refine sv (rv_index el51 h13.sealed rfl rfl h167) (sr (rw_loadC el51 h13.sealed h167 rfl _ (Sm.refl _ _)) (sv (mvv v154 rfl) ?_))
            replace h0 := h0.or (ap_symm p161)
            replace h25 := h25.or p157
            replace h13 := h13.or p158
            replace C := C.sealO h155
            replace h155 := h155.sealed
            refine sv (rv_build (r := [.int .i64 y166, v154]) st35 zr35 (by obtain ⟨_, _, rfl⟩ := h155.len; rfl)) ?_
            refine sc (dc_lit (vs := [.agg (List.toArray [.int .i64 y166, v154])]) (xs := ([(api_Chunk.mk y166 o59)] : List api_Chunk)) (base := w.heap.size) el31 rfl rfl (.cons (api_Chunk.o.2 ⟨_, rfl, h155⟩) (.nil)) (Nat.le_of_ble_eq_true rfl) C.up.size C.sb fun v168 w169 h170 h171 u172 => ?_)
            have p173 := ap_fresh h171 (fun b hb => (h0.lt b hb).1)
            have p174 := ap_fresh h171 (fun b hb => (h25.lt b hb).2)
            have p175 := ap_fresh h171 (fun b hb => (h13.lt b hb).2)
            replace h0 := h0.nw u172
            replace h25 := h25.nw u172
            replace h13 := h13.nw u172
            replace C := C.new u172
            obtain ⟨y176, h177, h42⟩ := bnd_some h42
            have h183 := h25
            refine sc (dc_append el31 (by decide) h183 h170.src rfl rfl h177 C.up.size C.sb fun v178 w179 h180 u181 h182 => ?_)
            have p184 := ap_grow p159 h182 (fun b hb => (h0.lt b hb).1)
            have p185 := ap_grow p156 h182 (fun b hb => (h13.lt b hb).2)
            replace h0 := h0.wr u181 h183.not (ap_symm p159)
            replace h13 := h13.wr u181 h183.not (ap_symm p156)
            replace C := C.ow h183 u181
            refine sv (asv v178 rfl) (W.e ?_)
            obtain rfl := Option.some.inj h42
            exact ⟨_, _, C, ⟨rfl, rfl, rfl, rfl, trivial⟩, h180, h13, h0, p185, p184, p160⟩
          · refine cw_f rfl b165 (cw_skip ?_)
            obtain rfl := Option.some.inj h42
            exact ⟨_, _, C, ⟨rfl, rfl, rfl, rfl, trivial⟩, h25, h13, h0, p156, p159, p160⟩
      · rintro ρ w187 ⟨S186, v188, C, h193, h189, h13, h0, p190, p191, p192⟩
        refine h193.cw fun ρ => ?_
        clear h193
        refine cw_region (sv (mvv (.int .i64 x31) rfl) ?_)
        obtain ⟨y194, h195, h33⟩ := pur_some h33
        refine sv (rv_add rfl rfl h195) (sv (asv (.int .i64 y194) rfl) (W.e ?_))
        obtain rfl := Option.some.inj h33
        exact ⟨_, rfl, ⟨_, _, C, ⟨rfl, rfl, rfl, rfl, trivial⟩, h189, h13, h0, p190, p191, p192⟩⟩
    · refine cw_f rfl b38 (cw_exit ?_)
      obtain rfl := Option.some.inj h33
      have h196 := congrArg some h32
      obtain rfl := Option.some.inj h196
      exact ⟨_, _, C, ⟨rfl, rfl, trivial⟩, h25, h0, p27⟩
  · rintro ρ w198 ⟨S197, v199, C, h202, h200, h0, p201⟩
    refine h202.cw fun ρ => ?_
    clear h202
    refine cw_seq fun K203 k204 => ?_
    refine cw_region (sv (asv (.slice none 0 0) rfl) (W.e (k204 _ _ ?_)))
    obtain ⟨o205, h208, h⟩ := bnd_some h
    refine cw_seq' (fun ρ w1 => ∃ S1 v291, Cx (fun b => b ∈ fp0) S w S1 w1 ∧ Has ρ [(0, v0), (3, v199), (9, v291)] ∧ Ow api_Chunk.k 35 S1 w.heap.size w1 v199 o15 ∧ Ow marigraphref11_Item.k 44 S1 w.heap.size w1 v291 o205 ∧ Ob 62 (marigraphref11_Head.fs a0) S1 w1 v0 cs0 fp0 ∧ Ap v199 v291 ∧ (∀ b, Blk v199 b → ¬ b ∈ fp0) ∧ (∀ b, Blk v291 b → ¬ b ∈ fp0)) ?_ ?_
    · refine cw_seq fun K209 k210 => ?_
      refine cw_region (sv (asv (.int .i64 0) rfl) (W.e (k210 _ _ (cw_block ?_))))
      refine cw_iter h208 (fun s ρ w1 => ∃ S1 v214, Cx (fun b => b ∈ fp0) S w S1 w1 ∧ Has ρ [(0, v0), (3, v199), (9, v214), (10, .int .i64 s.2)] ∧ Ow api_Chunk.k 35 S1 w.heap.size w1 v199 o15 ∧ Ow marigraphref11_Item.k 44 S1 w.heap.size w1 v214 s.1 ∧ Ob 62 (marigraphref11_Head.fs a0) S1 w1 v0 cs0 fp0 ∧ Ap v199 v214 ∧ (∀ b, Blk v199 b → ¬ b ∈ fp0) ∧ (∀ b, Blk v214 b → ¬ b ∈ fp0)) ⟨_, _, C, ⟨rfl, rfl, rfl, rfl, trivial⟩, h200, Ow.nil _ _ _ _ _, h0, (ap_symm ap_nil), p201, ap_nil⟩ ?_
      rintro ⟨x220, x221⟩ q211 ρ w213 ⟨S212, v214, C, h219, h200, h215, h0, p216, p217, p218⟩ h223 h222
      refine h219.cw fun ρ => ?_
      clear h219
      replace h223 : marigraphref11_Head_Seal.b8 a0 x220 x221 = some q211 := h223
      unfold marigraphref11_Head_Seal.b8 at h223
      refine cw_seq fun K224 k225 => ?_
      refine cw_seq fun K226 k227 => ?_
      refine cw_region (sv (mvv (.int .i64 x221) rfl) (sv (mvv v0 rfl) (sv (rv_nilcheck rfl h0.ptr) (sv (rv_fieldAddr (b := pb v0) (o := 0) st62 rfl h0.ptr) ?_))))
      obtain ⟨c228, h229, h230⟩ := h0.sl (i := 1) rfl
      refine sr (rw_ofield (i := 1) (c := c228) h0 ag38 h229 rfl) (sv (rv_lenS el38 h230 rfl) (sv (rv_lss rfl rfl) (W.e (k227 _ _ ?_))))
      rcases bif_some h223 with ⟨b231, h223⟩ | ⟨b231, h223⟩
      · refine cw_t rfl b231 (cw_skip (k225 _ _ ?_))
        obtain ⟨o232, h235, h223⟩ := bnd_some h223
        refine cw_seq' (fun ρ w1 => ∃ S1 v280, Cx (fun b => b ∈ fp0) S w S1 w1 ∧ Has ρ [(0, v0), (3, v199), (9, v280), (10, .int .i64 x221)] ∧ Ow api_Chunk.k 35 S1 w.heap.size w1 v199 o15 ∧ Ow marigraphref11_Item.k 44 S1 w.heap.size w1 v280 o232 ∧ Ob 62 (marigraphref11_Head.fs a0) S1 w1 v0 cs0 fp0 ∧ Ap v199 v280 ∧ (∀ b, Blk v199 b → ¬ b ∈ fp0) ∧ (∀ b, Blk v280 b → ¬ b ∈ fp0)) ?_ ?_
        · refine cw_block ?_
          refine cw_seq fun K236 k237 => ?_
          refine cw_region (sv (mvv v0 rfl) (sv (mvv v0 rfl) (sv (rv_nilcheck rfl h0.ptr) (sv (rv_fieldAddr (b := pb v0) (o := 0) st62 rfl h0.ptr) ?_))))
          obtain ⟨c238, h239, h240⟩ := h0.sl (i := 1) rfl
          refine sr (rw_ofield (i := 1) (c := c238) h0 ag38 h239 rfl) (sv (mvv (.int .i64 x221) rfl) ?_)
          obtain ⟨y241, h242, h235⟩ := bnd_some h235
          refine sv (rv_index el38 h240 rfl rfl h242) (sv (rv_fieldAddr st44 rfl rfl) (sv (rv_fieldAddr st29 rfl rfl) ?_))
          obtain ⟨cs243, h244, h245⟩ := Sl.cells h240 h242
          obtain rfl := marigraphref11_Item.r.1 h244
          refine sr (rw_el1 (off := 1) ag3 (h245 _ (Sm.refl _ _)) rfl rfl) ?_
          obtain ⟨y246, h247, h235⟩ := bnd_some h235
          refine sc (dc_call (vs := [v0, .int .i64 y241.P.T]) can40 rfl ?_)
          refine (marigraphref11_Head_Far_w C.sb h0 h247).mono ?_
          rintro _ w248 ⟨S249, rfl, c250⟩
          refine ⟨_, rfl, ?_⟩
          replace h0 := h0.cx c250
          replace h200 := h200.cx c250
          replace h215 := h215.cx c250
          replace C := C.trans c250
          refine sv (rv_not rfl) (W.e (k237 _ _ ?_))
          rcases bif_some h235 with ⟨b251, h235⟩ | ⟨b251, h235⟩
          · refine cw_t rfl b251 (cw_region (sv (mvv v214 rfl) (sv (mvv v0 rfl) (sv (rv_nilcheck rfl h0.ptr) (sv (rv_fieldAddr (b := pb v0) (o := 0) st62 rfl h0.ptr) ?_)))))
            obtain ⟨c252, h253, h254⟩ := h0.sl (i := 1) rfl
            refine sr (rw_ofield (i := 1) (c := c252) h0 ag38 h253 rfl) (sv (mvv (.int .i64 x221) rfl) ?_)
            obtain ⟨y255, h256, h235⟩ := bnd_some h235
            refine sv (rv_index el38 h254 rfl rfl h256) ?_
            obtain ⟨v257, h258, h259⟩ := rw_loadA (P := Try.prog) el38 h254 h256
            obtain rfl := marigraphref11_Item.o.1 h258
            refine sr (h259 _ (Sm.refl _ _) rfl) ?_
            refine sc (dc_lit (vs := [.agg (List.toArray [.int .i64 y255.Id, .int .i64 y255.P.T, .int .i64 y255.P.V])]) (xs := ([y255] : List marigraphref11_Item)) (base := w.heap.size) el38 rfl rfl (.cons (marigraphref11_Item.o.2 rfl) (.nil)) (Nat.le_of_ble_eq_true rfl) C.up.size C.sb fun v260 w261 h262 h263 u264 => ?_)
            have p265 := ap_fresh h263 (fun b hb => (h0.lt b hb).1)
            have p266 := ap_fresh h263 (fun b hb => (h200.lt b hb).2)
            have p267 := ap_fresh h263 (fun b hb => (h215.lt b hb).2)
            replace h0 := h0.nw u264
            replace h200 := h200.nw u264
            replace h215 := h215.nw u264
            replace C := C.new u264
            obtain ⟨y268, h269, h235⟩ := bnd_some h235
            have h275 := h215
            refine sc (dc_append el38 (by decide) h275 h262.src rfl rfl h269 C.up.size C.sb fun v270 w271 h272 u273 h274 => ?_)
            have p276 := ap_grow p218 h274 (fun b hb => (h0.lt b hb).1)
            have p277 := ap_grow (ap_symm p216) h274 (fun b hb => (h200.lt b hb).2)
            replace h0 := h0.wr u273 h275.not (ap_symm p218)
            replace h200 := h200.wr u273 h275.not p216
            replace C := C.ow h275 u273
            refine sv (asv v270 rfl) (W.e ?_)
            obtain rfl := Option.some.inj h235
            exact ⟨_, _, C, ⟨rfl, rfl, rfl, rfl, trivial⟩, h200, h272, h0, (ap_symm p277), p217, p276⟩
          · refine cw_f rfl b251 (cw_skip ?_)
            obtain rfl := Option.some.inj h235
            exact ⟨_, _, C, ⟨rfl, rfl, rfl, rfl, trivial⟩, h200, h215, h0, p216, p217, p218⟩
        · rintro ρ w279 ⟨S278, v280, C, h285, h200, h281, h0, p282, p283, p284⟩
          refine h285.cw fun ρ => ?_
          clear h285
          refine cw_region (sv (mvv (.int .i64 x221) rfl) ?_)
          obtain ⟨y286, h287, h223⟩ := pur_some h223
          refine sv (rv_add rfl rfl h287) (sv (asv (.int .i64 y286) rfl) (W.e ?_))
          obtain rfl := Option.some.inj h223
          exact ⟨_, rfl, ⟨_, _, C, ⟨rfl, rfl, rfl, rfl, trivial⟩, h200, h281, h0, p282, p283, p284⟩⟩
      · refine cw_f rfl b231 (cw_exit ?_)
        obtain rfl := Option.some.inj h223
        have h288 := congrArg some h222
        obtain rfl := Option.some.inj h288
        exact ⟨_, _, C, ⟨rfl, rfl, rfl, trivial⟩, h200, h215, h0, p216, p217, p218⟩
    · rintro ρ w290 ⟨S289, v291, C, h296, h200, h292, h0, p293, p294, p295⟩
      refine h296.cw fun ρ => ?_
      clear h296
      refine cw_seq fun K297 k298 => ?_
      refine cw_region (sv (mvv v0 rfl) (sv (mvv v291 rfl) (sv (rv_nilcheck rfl h0.ptr) (sv (rv_fieldAddr (b := pb v0) (o := 0) st62 rfl h0.ptr) ?_))))
      replace h200 := h200.or p293
      replace h0 := h0.or (ap_symm p295)
      replace C := C.sealO h292
      replace h292 := h292.sealed
      obtain ⟨y299, h300, h⟩ := pur_some h
      have h305 : ∀ b, b ∈ fp0 → ¬ (Or S289 (Blk v291)) b := fun b hb => (h0.lt b hb).2
      refine sc (dc_ofield (i := 1) (k := (kSl marigraphref11_Item.k)) (h1 := rfl) (a' := o205) h0 rfl ag38 rfl rfl (rep_sl.2 ⟨_, rfl, h292⟩) fun w301 h302 u303 => ?_)
      replace h302 : Ob 62 (marigraphref11_Head.fs ({ a0 with L := o205 } : marigraphref11_Head)) (Or S289 (Blk v291)) w301 v0 (cs0.set 1 v291) fp0 := h302
      rw [h300] at h302
      obtain ⟨cs306, h307⟩ : ∃ cs, cs = cs0.set 1 v291 := ⟨_, rfl⟩
      rw [← h307] at h302
      have c304 := Cx.ofUp C.sb u303
      replace h200 := h200.cf c304 h305 p294
      replace C := C.ofc c304 hs0
      refine W.e (k298 _ _ ?_)
      refine cw_seq fun K308 k309 => ?_
      refine cw_region (sv (mvv v199 rfl) (sv (asv v199 rfl) (W.e (k309 _ _ (cw_ret ?_)))))
      obtain rfl := Option.some.inj h
      replace h302 := h302.or (ap_symm p294)
      replace C := C.sealO h200
      replace h200 := h200.sealed
      exact ⟨_, rfl, _, _, _, _, rfl, C, h200, h302, hs0⟩

noncomputable def marigraphref11_Head_Drop.b2 (a0 : marigraphref11_Head) (a1 : Int) (x18 : List marigraphref11_Item) (x19 : Int) : Option (((List marigraphref11_Item) × Int) ⊕ ((List marigraphref11_Item))) :=
  (bif (decide (x19 < (a0.L.length : Int))) then (((at_ a0.L x19).bind fun y39 => (bif (y39.Id != a1) then ((at_ a0.L x19).bind fun y48 => ((app_ 24 x18 ([y48] : List marigraphref11_Item)).bind fun y60 => some y60)) else some x18)).bind fun o30 => (pur (IntKind.i64.wrap (x19 + (1 : Int))) fun y75 => some (.inl (o30, y75)))) else some (.inr x18))
noncomputable def marigraphref11_Head_Drop (a0 : marigraphref11_Head) (a1 : Int) : Option (Int × marigraphref11_Head) :=
  ((iter (fun s : (List marigraphref11_Item) × Int => marigraphref11_Head_Drop.b2 a0 a1 s.1 s.2) (([] : List marigraphref11_Item), (0 : Int))).bind fun o5 => (pur (IntKind.i64.wrap ((a0.L.length : Int) - (o5.length : Int))) fun y89 => (pur ({ a0 with L := o5 } : marigraphref11_Head) fun y93 => some (y89, y93))))
set_option maxRecDepth 100000 in
set_option maxHeartbeats 4000000 in
theorem marigraphref11_Head_Drop_w {S : Nat → Prop} {w : World} {a0 : marigraphref11_Head} {a1 : Int} {v0 : Value} {cs0 : List Value} {fp0 : List Nat} {r : Int × marigraphref11_Head} (hS : Sb S w) (h0 : Ob 62 (marigraphref11_Head.fs a0) S w v0 cs0 fp0) (h : marigraphref11_Head_Drop a0 a1 = some r) :
    Calls Try.prog 25 (List.toArray [v0, .int .i64 a1]) w fun e w1 => ∃ S1 us_0 up_0, e = .returned (.int .i64 r.1) ∧ Cx (fun b => b ∈ fp0) S w S1 w1 ∧ Ob 62 (marigraphref11_Head.fs r.2) S1 w1 v0 us_0 up_0 ∧ (∀ b, b ∈ up_0 → b ∈ fp0 ∨ w.heap.size ≤ b) := by
  refine enter Try.func25 rfl (by kernel_rfl) rfl ?_
  have C := Cx.refl (F := (fun b => b ∈ fp0)) hS
  unfold marigraphref11_Head_Drop at h
  have hs0 : ∀ b, b ∈ fp0 → b ∈ fp0 ∨ w.heap.size ≤ b := fun b hb => .inl hb
  have hl0 : ∀ b ∈ fp0, b < w.heap.size := fun b hb => (h0.lt b hb).1
  refine cw_seq fun K1 k2 => ?_
  refine cw_region (sv (asv (.int .i64 0) rfl) (W.e (k2 _ _ ?_)))
  refine cw_seq fun K3 k4 => ?_
  refine cw_region (sv (asv (.slice none 0 0) rfl) (W.e (k4 _ _ ?_)))
  obtain ⟨o5, h8, h⟩ := bnd_some h
  refine cw_seq' (fun ρ w1 => ∃ S1 v80, Cx (fun b => b ∈ fp0) S w S1 w1 ∧ Has ρ [(0, v0), (5, v80)] ∧ Ow marigraphref11_Item.k 44 S1 w.heap.size w1 v80 o5 ∧ Ob 62 (marigraphref11_Head.fs a0) S1 w1 v0 cs0 fp0 ∧ (∀ b, Blk v80 b → ¬ b ∈ fp0)) ?_ ?_
  · refine cw_seq fun K9 k10 => ?_
    refine cw_region (sv (asv (.int .i64 0) rfl) (W.e (k10 _ _ (cw_block ?_))))
    refine cw_iter h8 (fun s ρ w1 => ∃ S1 v14, Cx (fun b => b ∈ fp0) S w S1 w1 ∧ Has ρ [(0, v0), (1, .int .i64 a1), (5, v14), (6, .int .i64 s.2)] ∧ Ow marigraphref11_Item.k 44 S1 w.heap.size w1 v14 s.1 ∧ Ob 62 (marigraphref11_Head.fs a0) S1 w1 v0 cs0 fp0 ∧ (∀ b, Blk v14 b → ¬ b ∈ fp0)) ⟨_, _, C, ⟨rfl, rfl, rfl, rfl, trivial⟩, Ow.nil _ _ _ _ _, h0, ap_nil⟩ ?_
    rintro ⟨x18, x19⟩ q11 ρ w13 ⟨S12, v14, C, h17, h15, h0, p16⟩ h21 h20
    refine h17.cw fun ρ => ?_
    clear h17
    replace h21 : marigraphref11_Head_Drop.b2 a0 a1 x18 x19 = some q11 := h21
    unfold marigraphref11_Head_Drop.b2 at h21
    refine cw_seq fun K22 k23 => ?_
    refine cw_seq fun K24 k25 => ?_
    refine cw_region (sv (mvv (.int .i64 x19) rfl) (sv (mvv v0 rfl) (sv (rv_nilcheck rfl h0.ptr) (sv (rv_fieldAddr (b := pb v0) (o := 0) st62 rfl h0.ptr) ?_))))
    obtain ⟨c26, h27, h28⟩ := h0.sl (i := 1) rfl
    refine sr (rw_ofield (i := 1) (c := c26) h0 ag38 h27 rfl) (sv (rv_lenS el38 h28 rfl) (sv (rv_lss rfl rfl) (W.e (k25 _ _ ?_))))
    rcases bif_some h21 with ⟨b29, h21⟩ | ⟨b29, h21⟩
    · refine cw_t rfl b29 (cw_skip (k23 _ _ ?_))
      obtain ⟨o30, h33, h21⟩ := bnd_some h21
      refine cw_seq' (fun ρ w1 => ∃ S1 v71, Cx (fun b => b ∈ fp0) S w S1 w1 ∧ Has ρ [(0, v0), (1, .int .i64 a1), (5, v71), (6, .int .i64 x19)] ∧ Ow marigraphref11_Item.k 44 S1 w.heap.size w1 v71 o30 ∧ Ob 62 (marigraphref11_Head.fs a0) S1 w1 v0 cs0 fp0 ∧ (∀ b, Blk v71 b → ¬ b ∈ fp0)) ?_ ?_
      · refine cw_block ?_
        refine cw_seq fun K34 k35 => ?_
        refine cw_region (sv (mvv v0 rfl) (sv (rv_nilcheck rfl h0.ptr) (sv (rv_fieldAddr (b := pb v0) (o := 0) st62 rfl h0.ptr) ?_)))
        obtain ⟨c36, h37, h38⟩ := h0.sl (i := 1) rfl
        refine sr (rw_ofield (i := 1) (c := c36) h0 ag38 h37 rfl) (sv (mvv (.int .i64 x19) rfl) ?_)
        obtain ⟨y39, h40, h33⟩ := bnd_some h33
        refine sv (rv_index el38 h38 rfl rfl h40) (sv (rv_fieldAddr st44 rfl rfl) ?_)
        obtain ⟨cs41, h42, h43⟩ := Sl.cells h38 h40
        obtain rfl := marigraphref11_Item.r.1 h42
        refine sr (rw_el1 (off := 0) ag3 (h43 _ (Sm.refl _ _)) rfl rfl) (sv (mvv (.int .i64 a1) rfl) (sv (rv_neq rfl rfl) (W.e (k35 _ _ ?_))))
        rcases bif_some h33 with ⟨b44, h33⟩ | ⟨b44, h33⟩
        · refine cw_t rfl b44 (cw_region (sv (mvv v14 rfl) (sv (mvv v0 rfl) (sv (rv_nilcheck rfl h0.ptr) (sv (rv_fieldAddr (b := pb v0) (o := 0) st62 rfl h0.ptr) ?_)))))
          obtain ⟨c45, h46, h47⟩ := h0.sl (i := 1) rfl
          refine sr (rw_ofield (i := 1) (c := c45) h0 ag38 h46 rfl) (sv (mvv (.int .i64 x19) rfl) ?_)
          obtain ⟨y48, h49, h33⟩ := bnd_some h33
          refine sv (rv_index el38 h47 rfl rfl h49) ?_
          obtain ⟨v50, h51, h52⟩ := rw_loadA (P := Try.prog) el38 h47 h49
          obtain rfl := marigraphref11_Item.o.1 h51
          refine sr (h52 _ (Sm.refl _ _) rfl) ?_
          refine sc (dc_lit (vs := [.agg (List.toArray [.int .i64 y48.Id, .int .i64 y48.P.T, .int .i64 y48.P.V])]) (xs := ([y48] : List marigraphref11_Item)) (base := w.heap.size) el38 rfl rfl (.cons (marigraphref11_Item.o.2 rfl) (.nil)) (Nat.le_of_ble_eq_true rfl) C.up.size C.sb fun v53 w54 h55 h56 u57 => ?_)
          have p58 := ap_fresh h56 (fun b hb => (h0.lt b hb).1)
          have p59 := ap_fresh h56 (fun b hb => (h15.lt b hb).2)
          replace h0 := h0.nw u57
          replace h15 := h15.nw u57
          replace C := C.new u57
          obtain ⟨y60, h61, h33⟩ := bnd_some h33
          have h67 := h15
          refine sc (dc_append el38 (by decide) h67 h55.src rfl rfl h61 C.up.size C.sb fun v62 w63 h64 u65 h66 => ?_)
          have p68 := ap_grow p16 h66 (fun b hb => (h0.lt b hb).1)
          replace h0 := h0.wr u65 h67.not (ap_symm p16)
          replace C := C.ow h67 u65
          refine sv (asv v62 rfl) (W.e ?_)
          obtain rfl := Option.some.inj h33
          exact ⟨_, _, C, ⟨rfl, rfl, rfl, rfl, trivial⟩, h64, h0, p68⟩
        · refine cw_f rfl b44 (cw_skip ?_)
          obtain rfl := Option.some.inj h33
          exact ⟨_, _, C, ⟨rfl, rfl, rfl, rfl, trivial⟩, h15, h0, p16⟩
      · rintro ρ w70 ⟨S69, v71, C, h74, h72, h0, p73⟩
        refine h74.cw fun ρ => ?_
        clear h74
        refine cw_region (sv (mvv (.int .i64 x19) rfl) ?_)
        obtain ⟨y75, h76, h21⟩ := pur_some h21
        refine sv (rv_add rfl rfl h76) (sv (asv (.int .i64 y75) rfl) (W.e ?_))
        obtain rfl := Option.some.inj h21
        exact ⟨_, rfl, ⟨_, _, C, ⟨rfl, rfl, rfl, rfl, trivial⟩, h72, h0, p73⟩⟩
    · refine cw_f rfl b29 (cw_exit ?_)
      obtain rfl := Option.some.inj h21
      have h77 := congrArg some h20
      obtain rfl := Option.some.inj h77
      exact ⟨_, _, C, ⟨rfl, rfl, trivial⟩, h15, h0, p16⟩
  · rintro ρ w79 ⟨S78, v80, C, h83, h81, h0, p82⟩
    refine h83.cw fun ρ => ?_
    clear h83
    refine cw_seq fun K84 k85 => ?_
    refine cw_region (sv (mvv v0 rfl) (sv (rv_nilcheck rfl h0.ptr) (sv (rv_fieldAddr (b := pb v0) (o := 0) st62 rfl h0.ptr) ?_)))
    obtain ⟨c86, h87, h88⟩ := h0.sl (i := 1) rfl
    refine sr (rw_ofield (i := 1) (c := c86) h0 ag38 h87 rfl) (sv (rv_lenS el38 h88 rfl) (sv (mvv v80 rfl) (sv (rv_lenS el38 h81.sealed rfl) ?_)))
    obtain ⟨y89, h90, h⟩ := pur_some h
    refine sv (rv_sub rfl rfl h90) (sv (asv (.int .i64 y89) rfl) (W.e (k85 _ _ ?_)))
    refine cw_seq fun K91 k92 => ?_
    refine cw_region (sv (mvv v0 rfl) (sv (mvv v80 rfl) (sv (rv_nilcheck rfl h0.ptr) (sv (rv_fieldAddr (b := pb v0) (o := 0) st62 rfl h0.ptr) ?_))))
    replace h0 := h0.or (ap_symm p82)
    replace C := C.sealO h81
    replace h81 := h81.sealed
    obtain ⟨y93, h94, h⟩ := pur_some h
    have h99 : ∀ b, b ∈ fp0 → ¬ (Or S78 (Blk v80)) b := fun b hb => (h0.lt b hb).2
    refine sc (dc_ofield (i := 1) (k := (kSl marigraphref11_Item.k)) (h1 := rfl) (a' := o5) h0 rfl ag38 rfl rfl (rep_sl.2 ⟨_, rfl, h81⟩) fun w95 h96 u97 => ?_)
    replace h96 : Ob 62 (marigraphref11_Head.fs ({ a0 with L := o5 } : marigraphref11_Head)) (Or S78 (Blk v80)) w95 v0 (cs0.set 1 v80) fp0 := h96
    rw [h94] at h96
    obtain ⟨cs100, h101⟩ : ∃ cs, cs = cs0.set 1 v80 := ⟨_, rfl⟩
    rw [← h101] at h96
    have c98 := Cx.ofUp C.sb u97
    replace C := C.ofc c98 hs0
    refine W.e (k92 _ _ ?_)
    refine cw_seq fun K102 k103 => ?_
    refine cw_region (sv (mvv (.int .i64 y89) rfl) (sv (asv (.int .i64 y89) rfl) (W.e (k103 _ _ (cw_ret ?_)))))
    obtain rfl := Option.some.inj h
    exact ⟨_, rfl, _, _, _, rfl, C, h96, hs0⟩

noncomputable def marigraphref11_Head_Add.b4 (a0 : marigraphref11_Head) (a1 : Int) (a2 : api_Point) (x49 : Int) : Option ((Int) ⊕ ((Unit) ⊕ (Int × marigraphref11_Head))) :=
  (bif (decide (x49 < (a0.L.length : Int))) then ((((at_ a0.L x49).bind fun y74 => (bif (y74.Id == a1) then ((at_ a0.L x49).bind fun y83 => some (y83.P.T == a2.T)) else some false)).bind fun o64 => (bif o64 then some (.inr (.inr (.inr ((111 : Int), a0)))) else some (.inl ()))).bind (Sum.elim (fun o60n => (pur (IntKind.i64.wrap (x49 + (1 : Int))) fun y98 => some (.inl y98))) (fun q => some q))) else some (.inr (.inl ())))
noncomputable def marigraphref11_Head_Add (a0 : marigraphref11_Head) (a1 : Int) (a2 : api_Point) : Option (Int × marigraphref11_Head) :=
  (((bif (decide (a1 < (0 : Int))) then some true else some (decide ((4096 : Int) ≤ a1))).bind fun o13 => (bif o13 then some (.inr ((1 : Int), a0)) else some (.inl ()))).bind (Sum.elim (fun o9n => ((marigraphref11_Head_Far a0 a2.T).bind fun y31 => (bif y31 then some ((110 : Int), a0) else ((iter (fun s : Int => marigraphref11_Head_Add.b4 a0 a1 a2 s) (0 : Int)).bind (Sum.elim (fun o39n => (bif (decide ((2048 : Int) ≤ (a0.L.length : Int))) then some ((4 : Int), a0) else (((app_ 24 ([] : List marigraphref11_Item) a0.L).bind fun y12_6_1 => ((app_ 24 y12_6_1 ([(marigraphref11_Item.mk a1 (api_Point.mk a2.T a2.V))] : List marigraphref11_Item)).bind fun y12_11_1 => (pur ({ a0 with L := y12_11_1 } : marigraphref11_Head) fun y12_14_1 => some y12_14_1))).bind fun o114 => (((bif (!o114.Any) then some true else some (decide (o114.Last < a2.T))).bind fun o282 => (bif o282 then (pur ({ o114 with Last := a2.T } : marigraphref11_Head) fun y294 => some y294) else some o114)).bind fun o278 => (pur ({ o278 with Any := true } : marigraphref11_Head) fun y312 => some ((0 : Int), y312)))))) (fun q => some q)))))) (fun q => some q)))
set_option maxRecDepth 100000 in
set_option maxHeartbeats 4000000 in
theorem marigraphref11_Head_Add_w {S : Nat → Prop} {w : World} {a0 : marigraphref11_Head} {a1 : Int} {a2 : api_Point} {v0 v2 : Value} {cs0 : List Value} {fp0 : List Nat} {r : Int × marigraphref11_Head} (hS : Sb S w) (h0 : Ob 62 (marigraphref11_Head.fs a0) S w v0 cs0 fp0) (h2 : Sl api_Point.k S w v2 a2) (h : marigraphref11_Head_Add a0 a1 a2 = some r) :
    Calls Try.prog 26 (List.toArray [v0, .int .i64 a1, v2]) w fun e w1 => ∃ S1 us_0 up_0, e = .returned (.int .i64 r.1) ∧ Cx (fun b => b ∈ fp0) S w S1 w1 ∧ Ob 62 (marigraphref11_Head.fs r.2) S1 w1 v0 us_0 up_0 ∧ (∀ b, b ∈ up_0 → b ∈ fp0 ∨ w.heap.size ≤ b) := by
  refine enter Try.func26 rfl (by kernel_rfl) rfl ?_
  have C := Cx.refl (F := (fun b => b ∈ fp0)) hS
  unfold marigraphref11_Head_Add at h
  have hs0 : ∀ b, b ∈ fp0 → b ∈ fp0 ∨ w.heap.size ≤ b := fun b hb => .inl hb
  have hl0 : ∀ b ∈ fp0, b < w.heap.size := fun b hb => (h0.lt b hb).1
  obtain rfl := api_Point.o.1 h2
  refine cw_seq fun K1 k2 => ?_
  refine cw_region ?_
  refine sc (dc_boxS C.sb rfl fun b3 S4 w5 c6 h7 => ?_)
  replace h0 := h0.cx c6
  replace C := C.trans c6
  refine sv (asv (.int .i64 0) rfl) (W.e (k2 _ _ ?_))
  obtain ⟨o9, h12, h⟩ := bnds_some h
  refine cw_seq' (fun ρ w1 => ∃ o9n, o9 = (.inl o9n) ∧ ∃ S1, Cx (fun b => b ∈ fp0) S w S1 w1 ∧ Has ρ [(0, v0), (1, .int .i64 a1), (5, .pointer (some ⟨b3, 0, none⟩))] ∧ Bs S1 w1 b3 [.int .i64 a2.T, .int .i64 a2.V] 29 ∧ Ob 62 (marigraphref11_Head.fs a0) S1 w1 v0 cs0 fp0) ?_ ?_
  · obtain ⟨o13, h16, h12⟩ := bnd_some h12
    refine cw_seq' (fun ρ w1 => ∃ S1, Cx (fun b => b ∈ fp0) S w S1 w1 ∧ Has ρ [(0, v0), (1, .int .i64 a1), (5, .pointer (some ⟨b3, 0, none⟩)), (13, .bool o13)] ∧ Bs S1 w1 b3 [.int .i64 a2.T, .int .i64 a2.V] 29 ∧ Ob 62 (marigraphref11_Head.fs a0) S1 w1 v0 cs0 fp0) ?_ ?_
    · refine cw_region (sv (mvv (.int .i64 a1) rfl) (sv (rv_lss rfl rfl) (sv (mvv (.bool (decide (a1 < (0 : Int)))) rfl) ?_)))
      rcases bif_some h16 with ⟨b17, h16⟩ | ⟨b17, h16⟩
      · refine W.n (gn rfl rfl rfl b17) (W.n (gn rfl rfl rfl b17) (sv (ptk (.bool true) rfl b17 rfl) (W.e ?_)))
        obtain rfl := Option.some.inj h16
        exact ⟨_, C, ⟨rfl, rfl, rfl, rfl, trivial⟩, h7, h0⟩
      · refine W.v (gy rfl rfl rfl b17) (mvv (.int .i64 a1) rfl) (W.v (gy rfl rfl rfl b17) (rv_geq rfl rfl) (sv (pfk (.bool (decide ((4096 : Int) ≤ a1))) rfl b17 rfl) (W.e ?_)))
        obtain rfl := Option.some.inj h16
        exact ⟨_, C, ⟨rfl, rfl, rfl, rfl, trivial⟩, h7, h0⟩
    · rintro ρ w19 ⟨S18, C, h20, h7, h0⟩
      refine h20.cw fun ρ => ?_
      clear h20
      rcases bif_some h12 with ⟨b21, h12⟩ | ⟨b21, h12⟩
      · refine cw_t rfl b21 ?_
        refine cw_seq fun K22 k23 => ?_
        refine cw_region (sv (asv (.int .i64 1) rfl) (W.e (k23 _ _ (cw_ret ?_))))
        obtain rfl := Option.some.inj h12
        replace h := h.2 _ rfl
        obtain rfl := Option.some.inj h
        exact ⟨_, rfl, _, _, _, rfl, C, h0, hs0⟩
      · refine cw_f rfl b21 (cw_skip ?_)
        obtain rfl := Option.some.inj h12
        exact ⟨_, rfl, ⟨_, C, ⟨rfl, rfl, rfl, trivial⟩, h7, h0⟩⟩
  · rintro ρ w25 ⟨o9n, rfl, ⟨S24, C, h26, h7, h0⟩⟩
    replace h := h.1 _ rfl
    refine h26.cw fun ρ => ?_
    clear h26
    refine cw_seq fun K27 k28 => ?_
    refine cw_seq fun K29 k30 => ?_
    refine cw_region (sv (mvv v0 rfl) (sv (rv_fieldAddr st29 rfl rfl) (sr (rw_bk ag3 h7.2 rfl rfl) ?_)))
    obtain ⟨y31, h32, h⟩ := bnd_some h
    refine sc (dc_call (vs := [v0, .int .i64 a2.T]) can40 rfl ?_)
    refine (marigraphref11_Head_Far_w C.sb h0 h32).mono ?_
    rintro _ w33 ⟨S34, rfl, c35⟩
    refine ⟨_, rfl, ?_⟩
    replace h0 := h0.cx c35
    replace h7 := h7.cx c35
    replace C := C.trans c35
    refine W.e (k30 _ _ ?_)
    rcases bif_some h with ⟨b36, h⟩ | ⟨b36, h⟩
    · refine cw_t rfl b36 ?_
      refine cw_seq fun K37 k38 => ?_
      refine cw_region (sv (asv (.int .i64 110) rfl) (W.e (k38 _ _ (cw_ret ?_))))
      obtain rfl := Option.some.inj h
      exact ⟨_, rfl, _, _, _, rfl, C, h0, hs0⟩
    · refine cw_f rfl b36 (cw_skip (k28 _ _ ?_))
      obtain ⟨o39, h42, h⟩ := bnds_some h
      refine cw_seq' (fun ρ w1 => ∃ o39n, o39 = (.inl o39n) ∧ ∃ S1, Cx (fun b => b ∈ fp0) S w S1 w1 ∧ Has ρ [(0, v0), (1, .int .i64 a1), (5, .pointer (some ⟨b3, 0, none⟩))] ∧ Bs S1 w1 b3 [.int .i64 a2.T, .int .i64 a2.V] 29 ∧ Ob 62 (marigraphref11_Head.fs a0) S1 w1 v0 cs0 fp0) ?_ ?_
      · refine cw_seq fun K43 k44 => ?_
        refine cw_region (sv (asv (.int .i64 0) rfl) (W.e (k44 _ _ (cw_block ?_))))
        refine cw_iter h42 (fun s ρ w1 => ∃ S1, Cx (fun b => b ∈ fp0) S w S1 w1 ∧ Has ρ [(0, v0), (1, .int .i64 a1), (5, .pointer (some ⟨b3, 0, none⟩)), (7, .int .i64 s)] ∧ Bs S1 w1 b3 [.int .i64 a2.T, .int .i64 a2.V] 29 ∧ Ob 62 (marigraphref11_Head.fs a0) S1 w1 v0 cs0 fp0) ⟨_, C, ⟨rfl, rfl, rfl, rfl, trivial⟩, h7, h0⟩ ?_
        rintro x49 q45 ρ w47 ⟨S46, C, h48, h7, h0⟩ h51 h50
        refine h48.cw fun ρ => ?_
        clear h48
        replace h51 : marigraphref11_Head_Add.b4 a0 a1 a2 x49 = some q45 := h51
        unfold marigraphref11_Head_Add.b4 at h51
        refine cw_seq fun K52 k53 => ?_
        refine cw_seq fun K54 k55 => ?_
        refine cw_region (sv (mvv (.int .i64 x49) rfl) (sv (mvv v0 rfl) (sv (rv_nilcheck rfl h0.ptr) (sv (rv_fieldAddr (b := pb v0) (o := 0) st62 rfl h0.ptr) ?_))))
        obtain ⟨c56, h57, h58⟩ := h0.sl (i := 1) rfl
        refine sr (rw_ofield (i := 1) (c := c56) h0 ag38 h57 rfl) (sv (rv_lenS el38 h58 rfl) (sv (rv_lss rfl rfl) (W.e (k55 _ _ ?_))))
        rcases bif_some h51 with ⟨b59, h51⟩ | ⟨b59, h51⟩
        · refine cw_t rfl b59 (cw_skip (k53 _ _ ?_))
          obtain ⟨o60, h63, h51⟩ := bnds_some h51
          refine cw_seq' (fun ρ w1 => ∃ o60n, o60 = (.inl o60n) ∧ ∃ S1, Cx (fun b => b ∈ fp0) S w S1 w1 ∧ Has ρ [(0, v0), (1, .int .i64 a1), (5, .pointer (some ⟨b3, 0, none⟩)), (7, .int .i64 x49)] ∧ Bs S1 w1 b3 [.int .i64 a2.T, .int .i64 a2.V] 29 ∧ Ob 62 (marigraphref11_Head.fs a0) S1 w1 v0 cs0 fp0) ?_ ?_
          · refine cw_block ?_
            obtain ⟨o64, h67, h63⟩ := bnd_some h63
            refine cw_seq' (fun ρ w1 => ∃ S1, Cx (fun b => b ∈ fp0) S w S1 w1 ∧ Has ρ [(0, v0), (1, .int .i64 a1), (5, .pointer (some ⟨b3, 0, none⟩)), (7, .int .i64 x49), (50, .bool o64)] ∧ Bs S1 w1 b3 [.int .i64 a2.T, .int .i64 a2.V] 29 ∧ Ob 62 (marigraphref11_Head.fs a0) S1 w1 v0 cs0 fp0) ?_ ?_
            · refine cw_drawU (.one 0 true (.one 1 true (.one 2 true (.one 3 true (.one 4 true (.one 5 true (.one 6 true (.one 7 true (.one 8 true (.one 9 true (.one 10 true (.one 11 true (.one 12 true (.one 13 true (.one 14 true (.one 15 true (.one 16 true (.one 17 true (.one 18 true (.one 19 true (.one 20 true (.one 21 true (.one 22 true (.one 23 true .done)))))))))))))))))))))))) [(3, [9]), (7, [9]), (14, [9]), (19, [9]), (21, [9])] [] (fun c => bif Nat.beq c 9 then (fun _ => True) else No) fol (by kernel_rfl) fun w68 u69 => ?_
              replace h0 := h0.nw u69
              replace h7 := h7.nw u69
              replace C := C.new u69
              have m70 := Sm.refl (fun _ => True) w68
              refine mtv rfl rfl (mvv v0 rfl) (mtv rfl rfl (rv_nilcheck rfl h0.ptr) (mtv rfl rfl (rv_fieldAddr (b := pb v0) (o := 0) st62 rfl h0.ptr) ?_))
              obtain ⟨c71, h72, h73⟩ := h0.sl (i := 1) rfl
              refine mtr rfl rfl ⟨m70, trivial⟩ (fun w' hq => rw_ofieldU (i := 1) (c := c71) h0 (hq.1.mono fun _ _ => trivial) ag38 h72 rfl) (mtv rfl rfl (mvv (.int .i64 x49) rfl) ?_)
              obtain ⟨y74, h75, h67⟩ := bnd_some h67
              refine mtv rfl rfl (rv_index el38 h73 rfl rfl h75) (mtv rfl rfl (rv_fieldAddr st44 rfl rfl) ?_)
              obtain ⟨cs76, h77, h78⟩ := Sl.cells h73 h75
              obtain rfl := marigraphref11_Item.r.1 h77
              refine mtr rfl rfl ⟨m70, trivial⟩ (fun w' hq => rw_el1 (off := 0) ag3 (h78 w' (hq.1.mono fun _ _ => trivial)) rfl rfl) (mtv rfl rfl (mvv (.int .i64 a1) rfl) (mtv rfl rfl (rv_eql rfl rfl) (mtv rfl rfl (mvv (.bool (y74.Id == a1)) rfl) ?_)))
              rcases bif_some h67 with ⟨b79, h67⟩ | ⟨b79, h67⟩
              · refine MT.vv rfl rfl (gy rfl rfl rfl b79) (mvv v0 rfl) (MT.vv rfl rfl (gy rfl rfl rfl b79) (rv_nilcheck rfl h0.ptr) (MT.vv rfl rfl (gy rfl rfl rfl b79) (rv_fieldAddr (b := pb v0) (o := 0) st62 rfl h0.ptr) ?_))
                obtain ⟨c80, h81, h82⟩ := h0.sl (i := 1) rfl
                refine MT.r rfl rfl (gy rfl rfl rfl b79) ⟨m70, trivial⟩ (fun w' hq => rw_ofieldU (i := 1) (c := c80) h0 (hq.1.mono fun _ _ => trivial) ag38 h81 rfl) (MT.vv rfl rfl (gy rfl rfl rfl b79) (mvv (.int .i64 x49) rfl) ?_)
                obtain ⟨y83, h84, h67⟩ := bnd_some h67
                refine MT.vv rfl rfl (gy rfl rfl rfl b79) (rv_index el38 h82 rfl rfl h84) (MT.vv rfl rfl (gy rfl rfl rfl b79) (rv_fieldAddr st44 rfl rfl) (MT.vv rfl rfl (gy rfl rfl rfl b79) (rv_fieldAddr st29 rfl rfl) ?_))
                obtain ⟨cs85, h86, h87⟩ := Sl.cells h82 h84
                obtain rfl := marigraphref11_Item.r.1 h86
                refine MT.r rfl rfl (gy rfl rfl rfl b79) ⟨m70, trivial⟩ (fun w' hq => rw_el1 (off := 1) ag3 (h87 w' (hq.1.mono fun _ _ => trivial)) rfl rfl) (MT.vv rfl rfl (gy rfl rfl rfl b79) (rv_fieldAddr st29 rfl rfl) (MT.r rfl rfl (gy rfl rfl rfl b79) ⟨m70, trivial⟩ (fun w' hq => rw_bk ag3 (h7.sm (hq.1.mono fun _ _ => trivial)) rfl rfl) (MT.vv rfl rfl (gy rfl rfl rfl b79) (rv_eql rfl rfl) (mtv rfl rfl (ptk (.bool (y83.P.T == a2.T)) rfl b79 rfl) (MT.e ?_)))))
                obtain rfl := Option.some.inj h67
                exact ⟨_, C, ⟨rfl, rfl, rfl, rfl, rfl, trivial⟩, h7, h0⟩
              · refine MT.n rfl rfl (gn rfl rfl rfl b79) trivial (MT.n rfl rfl (gn rfl rfl rfl b79) trivial (MT.n rfl rfl (gn rfl rfl rfl b79) trivial (MT.n rfl rfl (gn rfl rfl rfl b79) ⟨m70, trivial⟩ (MT.n rfl rfl (gn rfl rfl rfl b79) trivial (MT.n rfl rfl (gn rfl rfl rfl b79) trivial (MT.n rfl rfl (gn rfl rfl rfl b79) trivial (MT.n rfl rfl (gn rfl rfl rfl b79) trivial (MT.n rfl rfl (gn rfl rfl rfl b79) ⟨m70, trivial⟩ (MT.n rfl rfl (gn rfl rfl rfl b79) trivial (MT.n rfl rfl (gn rfl rfl rfl b79) ⟨m70, trivial⟩ (MT.n rfl rfl (gn rfl rfl rfl b79) trivial ?_)))))))))))
                refine mtv rfl rfl (pfk (.bool false) rfl b79 rfl) (MT.e ?_)
                obtain rfl := Option.some.inj h67
                exact ⟨_, C, ⟨rfl, rfl, rfl, rfl, rfl, trivial⟩, h7, h0⟩
            · rintro ρ w89 ⟨S88, C, h90, h7, h0⟩
              refine h90.cw fun ρ => ?_
              clear h90
              rcases bif_some h63 with ⟨b91, h63⟩ | ⟨b91, h63⟩
              · refine cw_t rfl b91 ?_
                refine cw_seq fun K92 k93 => ?_
                refine cw_region (sv (asv (.int .i64 111) rfl) (W.e (k93 _ _ (cw_ret ?_))))
                obtain rfl := Option.some.inj h63
                replace h51 := h51.2 _ rfl
                obtain rfl := Option.some.inj h51
                have h94 := congrArg some h50
                obtain rfl := Option.some.inj h94
                replace h := h.2 _ rfl
                obtain rfl := Option.some.inj h
                exact ⟨_, rfl, _, _, _, rfl, C, h0, hs0⟩
              · refine cw_f rfl b91 (cw_skip ?_)
                obtain rfl := Option.some.inj h63
                exact ⟨_, rfl, ⟨_, C, ⟨rfl, rfl, rfl, rfl, trivial⟩, h7, h0⟩⟩
          · rintro ρ w96 ⟨o60n, rfl, ⟨S95, C, h97, h7, h0⟩⟩
            replace h51 := h51.1 _ rfl
            refine h97.cw fun ρ => ?_
            clear h97
            refine cw_region (sv (mvv (.int .i64 x49) rfl) ?_)
            obtain ⟨y98, h99, h51⟩ := pur_some h51
            refine sv (rv_add rfl rfl h99) (sv (asv (.int .i64 y98) rfl) (W.e ?_))
            obtain rfl := Option.some.inj h51
            exact ⟨_, rfl, ⟨_, C, ⟨rfl, rfl, rfl, rfl, trivial⟩, h7, h0⟩⟩
        · refine cw_f rfl b59 (cw_exit ?_)
          obtain rfl := Option.some.inj h51
          have h100 := congrArg some h50
          obtain rfl := Option.some.inj h100
          exact ⟨_, rfl, ⟨_, C, ⟨rfl, rfl, rfl, trivial⟩, h7, h0⟩⟩
      · rintro ρ w102 ⟨o39n, rfl, ⟨S101, C, h103, h7, h0⟩⟩
        replace h := h.1 _ rfl
        refine h103.cw fun ρ => ?_
        clear h103
        refine cw_seq fun K104 k105 => ?_
        refine cw_seq fun K106 k107 => ?_
        refine cw_region (sv (mvv v0 rfl) (sv (rv_nilcheck rfl h0.ptr) (sv (rv_fieldAddr (b := pb v0) (o := 0) st62 rfl h0.ptr) ?_)))
        obtain ⟨c108, h109, h110⟩ := h0.sl (i := 1) rfl
        refine sr (rw_ofield (i := 1) (c := c108) h0 ag38 h109 rfl) (sv (rv_lenS el38 h110 rfl) (sv (rv_geq rfl rfl) (W.e (k107 _ _ ?_))))
        rcases bif_some h with ⟨b111, h⟩ | ⟨b111, h⟩
        · refine cw_t rfl b111 ?_
          refine cw_seq fun K112 k113 => ?_
          refine cw_region (sv (asv (.int .i64 4) rfl) (W.e (k113 _ _ (cw_ret ?_))))
          obtain rfl := Option.some.inj h
          exact ⟨_, rfl, _, _, _, rfl, C, h0, hs0⟩
        · refine cw_f rfl b111 (cw_skip (k105 _ _ ?_))
          obtain ⟨o114, h117, h⟩ := bnd_some h
          refine cw_seq' (fun ρ w1 => ∃ S1 fp274 cs276, Cx (fun b => b ∈ fp0) S w S1 w1 ∧ Has ρ [(0, v0), (5, .pointer (some ⟨b3, 0, none⟩))] ∧ Bs S1 w1 b3 [.int .i64 a2.T, .int .i64 a2.V] 29 ∧ Ob 62 (marigraphref11_Head.fs o114) S1 w1 v0 cs276 fp274 ∧ (∀ b, b ∈ fp274 → b ∈ fp0 ∨ w.heap.size ≤ b)) ?_ ?_
          · refine cw_drawU (.one 0 true (.one 2 true (.one 3 true (.one 4 true (.one 5 true (.one 7 true (.one 8 true (.one 9 true (.two 1 10 (.two 6 10 (.one 10 false (.one 11 false (.one 12 true (.one 13 true (.one 14 false .done))))) (.one 6 false (.one 11 false (.one 12 true (.one 13 true (.one 14 false .done)))))) (.one 1 false (.one 6 false (.one 11 false (.one 12 true (.one 13 true (.one 14 false .done))))))))))))))) [(5, [10]), (8, [0])] [(1, [0, 10]), (6, [0]), (10, [0, 10]), (11, [0, 10]), (14, [])] (fun c => bif Nat.beq c 0 then S101 else bif Nat.beq c 10 then (One (pb v0)) else No) fol (by kernel_rfl) fun w118 u119 => ?_
            replace h0 := h0.nw u119
            replace h7 := h7.nw u119
            replace C := C.new u119
            have h0d := h0
            have h7d := h7
            have m120 := Sm.refl S101 w118
            have m121 := Sm.refl (One (pb v0)) w118
            refine mtv rfl rfl (mvv v0 rfl) (mtv rfl rfl (mvv v0 rfl) (mtv rfl rfl (rv_nilcheck rfl h0.ptr) (mtv rfl rfl (rv_fieldAddr (b := pb v0) (o := 0) st62 rfl h0.ptr) ?_)))
            obtain ⟨c122, h123, h124⟩ := h0.sl (i := 1) rfl
            refine mtr rfl rfl ⟨m121, trivial⟩ (fun w' hq => rw_ofieldU (i := 1) (c := c122) h0 hq.1 ag38 h123 rfl) (mtv rfl rfl (mvv (.int .i64 a1) rfl) (mtr rfl rfl ⟨m120, trivial⟩ (fun w' hq => rw_bkA ag29 (h7.sm hq.1) rfl rfl rfl) (mtv rfl rfl (rv_build (r := [.int .i64 a1, .int .i64 a2.T, .int .i64 a2.V]) st44 zr44 rfl) ?_)))
            refine MT.two ?_ ?_
            · refine mtc rfl rfl (dc_lit (vs := []) (xs := ([] : List marigraphref11_Item)) (base := w.heap.size) el38 rfl rfl (.nil) (Nat.le_of_ble_eq_true rfl) C.up.size C.sb fun v125 w126 h127 h128 u129 => ?_)
              have p130 := ap_fresh h128 (fun b hb => (h0.lt b hb).1)
              replace h0 := h0.nw u129
              replace h7 := h7.nw u129
              replace h124 := h124.nw u129
              replace C := C.new u129
              have z131 := (u129).size
              have m132 := m120.nx u129 (by omega)
              have m133 := m121.nx u129 (by omega)
              refine ⟨⟨m132, m133, trivial⟩, ?_⟩
              refine MT.two ?_ ?_
              · obtain ⟨y12_6_1, h134, h117⟩ := bnd_some h117
                have h140 := h127
                refine mtc rfl rfl (dc_append el38 (by decide) h140 (h124.src fun _ h => h) rfl rfl h134 C.up.size C.sb fun v135 w136 h137 u138 h139 => ?_)
                have p141 := ap_grow p130 h139 (fun b hb => (h0.lt b hb).1)
                replace h0 := h0.wr u138 h140.not (ap_symm p130)
                replace h7 := h7.wr u138 h140.not
                replace C := C.ow h140 u138
                have z142 := (u138).size
                have m143 := m132.wrC u138 (by omega) h140.not
                have m144 := m133.wrC u138 (by omega) (ap_one p130 h0.hd)
                refine ⟨⟨m143, trivial⟩, ?_⟩
                refine mtc rfl rfl (dc_lit (vs := [.agg (List.toArray [.int .i64 a1, .int .i64 a2.T, .int .i64 a2.V])]) (xs := ([(marigraphref11_Item.mk a1 (api_Point.mk a2.T a2.V))] : List marigraphref11_Item)) (base := w.heap.size) el38 rfl rfl (.cons (marigraphref11_Item.o.2 rfl) (.nil)) (Nat.le_of_ble_eq_true rfl) C.up.size C.sb fun v145 w146 h147 h148 u149 => ?_)
                have p150 := ap_fresh h148 (fun b hb => (h0.lt b hb).1)
                have p151 := ap_fresh h148 (fun b hb => (h137.lt b hb).2)
                replace h0 := h0.nw u149
                replace h7 := h7.nw u149
                replace h137 := h137.nw u149
                replace C := C.new u149
                have z152 := (u149).size
                have m153 := m143.nx u149 (by omega)
                have m154 := m144.nx u149 (by omega)
                refine ⟨⟨m153, m154, trivial⟩, ?_⟩
                obtain ⟨y12_11_1, h155, h117⟩ := bnd_some h117
                have h161 := h137
                refine mtc rfl rfl (dc_append el38 (by decide) h161 h147.src rfl rfl h155 C.up.size C.sb fun v156 w157 h158 u159 h160 => ?_)
                have p162 := ap_grow p141 h160 (fun b hb => (h0.lt b hb).1)
                replace h0 := h0.wr u159 h161.not (ap_symm p141)
                replace h7 := h7.wr u159 h161.not
                replace C := C.ow h161 u159
                have z163 := (u159).size
                have m164 := m153.wrC u159 (by omega) h161.not
                have m165 := m154.wrC u159 (by omega) (ap_one p141 h0.hd)
                refine ⟨⟨m164, m165, trivial⟩, ?_⟩
                refine mtv rfl rfl (rv_nilcheck rfl h0.ptr) (mtv rfl rfl (rv_fieldAddr (b := pb v0) (o := 0) st62 rfl h0.ptr) ?_)
                replace h0 := h0.or (ap_symm p162)
                replace h7 := h7.or (T := Blk v156)
                replace C := C.sealO h158
                replace h158 := h158.sealed
                obtain ⟨y12_14_1, h166, h117⟩ := pur_some h117
                have h171 : ∀ b, b ∈ fp0 → ¬ (Or S101 (Blk v156)) b := fun b hb => (h0.lt b hb).2
                refine mtc rfl rfl (dc_ofield (i := 1) (k := (kSl marigraphref11_Item.k)) (h1 := rfl) (a' := y12_11_1) h0 rfl ag38 rfl rfl (rep_sl.2 ⟨_, rfl, h158⟩) fun w167 h168 u169 => ?_)
                replace h168 : Ob 62 (marigraphref11_Head.fs ({ a0 with L := y12_11_1 } : marigraphref11_Head)) (Or S101 (Blk v156)) w167 v0 (cs0.set 1 v156) fp0 := h168
                rw [h166] at h168
                obtain ⟨cs172, h173⟩ : ∃ cs, cs = cs0.set 1 v156 := ⟨_, rfl⟩
                rw [← h173] at h168
                have c170 := Cx.ofUp C.sb u169
                replace h7 := h7.cf c170 h171
                replace C := C.ofc c170 hs0
                have z174 := (u169).size
                have m175 := m164.wrC u169 (by omega) (fun b hb hs => h171 b hb ((fun _ h => Or.inl h) b hs))
                refine ⟨trivial, ?_⟩
                refine MT.e ?_
                obtain rfl := Option.some.inj h117
                exact ⟨_, _, _, C, ⟨rfl, rfl, trivial⟩, h7, h168, hs0⟩
              · refine mtc rfl rfl (dc_lit (vs := [.agg (List.toArray [.int .i64 a1, .int .i64 a2.T, .int .i64 a2.V])]) (xs := ([(marigraphref11_Item.mk a1 (api_Point.mk a2.T a2.V))] : List marigraphref11_Item)) (base := w.heap.size) el38 rfl rfl (.cons (marigraphref11_Item.o.2 rfl) (.nil)) (Nat.le_of_ble_eq_true rfl) C.up.size C.sb fun v176 w177 h178 h179 u180 => ?_)
                have p181 := ap_fresh h179 (fun b hb => (h0.lt b hb).1)
                have p182 := ap_fresh h179 (fun b hb => (h127.lt b hb).2)
                replace h0 := h0.nw u180
                replace h7 := h7.nw u180
                replace h127 := h127.nw u180
                replace h124 := h124.nw u180
                replace C := C.new u180
                have z183 := (u180).size
                have m184 := m132.nx u180 (by omega)
                have m185 := m133.nx u180 (by omega)
                refine ⟨⟨m184, m185, trivial⟩, ?_⟩
                obtain ⟨y12_6_1, h186, h117⟩ := bnd_some h117
                have h192 := h127
                refine mtc rfl rfl (dc_append el38 (by decide) h192 (h124.src fun _ h => h) rfl rfl h186 C.up.size C.sb fun v187 w188 h189 u190 h191 => ?_)
                have p193 := ap_grow p130 h191 (fun b hb => (h0.lt b hb).1)
                have p194 := ap_grow (ap_symm p182) h191 (fun b hb => (h178.lt b hb).2)
                replace h0 := h0.wr u190 h192.not (ap_symm p130)
                replace h178 := h178.wr u190 h192.not p182
                replace h7 := h7.wr u190 h192.not
                replace C := C.ow h192 u190
                have z195 := (u190).size
                have m196 := m184.wrC u190 (by omega) h192.not
                have m197 := m185.wrC u190 (by omega) (ap_one p130 h0.hd)
                refine ⟨⟨m196, trivial⟩, ?_⟩
                obtain ⟨y12_11_1, h198, h117⟩ := bnd_some h117
                have h204 := h189
                refine mtc rfl rfl (dc_append el38 (by decide) h204 h178.src rfl rfl h198 C.up.size C.sb fun v199 w200 h201 u202 h203 => ?_)
                have p205 := ap_grow p193 h203 (fun b hb => (h0.lt b hb).1)
                replace h0 := h0.wr u202 h204.not (ap_symm p193)
                replace h7 := h7.wr u202 h204.not
                replace C := C.ow h204 u202
                have z206 := (u202).size
                have m207 := m196.wrC u202 (by omega) h204.not
                have m208 := m197.wrC u202 (by omega) (ap_one p193 h0.hd)
                refine ⟨⟨m207, m208, trivial⟩, ?_⟩
                refine mtv rfl rfl (rv_nilcheck rfl h0.ptr) (mtv rfl rfl (rv_fieldAddr (b := pb v0) (o := 0) st62 rfl h0.ptr) ?_)
                replace h0 := h0.or (ap_symm p205)
                replace h7 := h7.or (T := Blk v199)
                replace C := C.sealO h201
                replace h201 := h201.sealed
                obtain ⟨y12_14_1, h209, h117⟩ := pur_some h117
                have h214 : ∀ b, b ∈ fp0 → ¬ (Or S101 (Blk v199)) b := fun b hb => (h0.lt b hb).2
                refine mtc rfl rfl (dc_ofield (i := 1) (k := (kSl marigraphref11_Item.k)) (h1 := rfl) (a' := y12_11_1) h0 rfl ag38 rfl rfl (rep_sl.2 ⟨_, rfl, h201⟩) fun w210 h211 u212 => ?_)
                replace h211 : Ob 62 (marigraphref11_Head.fs ({ a0 with L := y12_11_1 } : marigraphref11_Head)) (Or S101 (Blk v199)) w210 v0 (cs0.set 1 v199) fp0 := h211
                rw [h209] at h211
                obtain ⟨cs215, h216⟩ : ∃ cs, cs = cs0.set 1 v199 := ⟨_, rfl⟩
                rw [← h216] at h211
                have c213 := Cx.ofUp C.sb u212
                replace h7 := h7.cf c213 h214
                replace C := C.ofc c213 hs0
                have z217 := (u212).size
                have m218 := m207.wrC u212 (by omega) (fun b hb hs => h214 b hb ((fun _ h => Or.inl h) b hs))
                refine ⟨trivial, ?_⟩
                refine MT.e ?_
                obtain rfl := Option.some.inj h117
                exact ⟨_, _, _, C, ⟨rfl, rfl, trivial⟩, h7, h211, hs0⟩
            · refine mtc rfl rfl (dc_lit (vs := [.agg (List.toArray [.int .i64 a1, .int .i64 a2.T, .int .i64 a2.V])]) (xs := ([(marigraphref11_Item.mk a1 (api_Point.mk a2.T a2.V))] : List marigraphref11_Item)) (base := w.heap.size) el38 rfl rfl (.cons (marigraphref11_Item.o.2 rfl) (.nil)) (Nat.le_of_ble_eq_true rfl) C.up.size C.sb fun v219 w220 h221 h222 u223 => ?_)
              have p224 := ap_fresh h222 (fun b hb => (h0.lt b hb).1)
              replace h0 := h0.nw u223
              replace h7 := h7.nw u223
              replace h124 := h124.nw u223
              replace C := C.new u223
              have z225 := (u223).size
              have m226 := m120.nx u223 (by omega)
              have m227 := m121.nx u223 (by omega)
              refine ⟨⟨m226, m227, trivial⟩, ?_⟩
              refine mtc rfl rfl (dc_lit (vs := []) (xs := ([] : List marigraphref11_Item)) (base := w.heap.size) el38 rfl rfl (.nil) (Nat.le_of_ble_eq_true rfl) C.up.size C.sb fun v228 w229 h230 h231 u232 => ?_)
              have p233 := ap_fresh h231 (fun b hb => (h0.lt b hb).1)
              have p234 := ap_fresh h231 (fun b hb => (h221.lt b hb).2)
              replace h0 := h0.nw u232
              replace h221 := h221.nw u232
              replace h7 := h7.nw u232
              replace h124 := h124.nw u232
              replace C := C.new u232
              have z235 := (u232).size
              have m236 := m226.nx u232 (by omega)
              have m237 := m227.nx u232 (by omega)
              refine ⟨⟨m236, m237, trivial⟩, ?_⟩
              obtain ⟨y12_6_1, h238, h117⟩ := bnd_some h117
              have h244 := h230
              refine mtc rfl rfl (dc_append el38 (by decide) h244 (h124.src fun _ h => h) rfl rfl h238 C.up.size C.sb fun v239 w240 h241 u242 h243 => ?_)
              have p245 := ap_grow p233 h243 (fun b hb => (h0.lt b hb).1)
              have p246 := ap_grow p234 h243 (fun b hb => (h221.lt b hb).2)
              replace h0 := h0.wr u242 h244.not (ap_symm p233)
              replace h221 := h221.wr u242 h244.not (ap_symm p234)
              replace h7 := h7.wr u242 h244.not
              replace C := C.ow h244 u242
              have z247 := (u242).size
              have m248 := m236.wrC u242 (by omega) h244.not
              have m249 := m237.wrC u242 (by omega) (ap_one p233 h0.hd)
              refine ⟨⟨m248, trivial⟩, ?_⟩
              obtain ⟨y12_11_1, h250, h117⟩ := bnd_some h117
              have h256 := h241
              refine mtc rfl rfl (dc_append el38 (by decide) h256 h221.src rfl rfl h250 C.up.size C.sb fun v251 w252 h253 u254 h255 => ?_)
              have p257 := ap_grow p245 h255 (fun b hb => (h0.lt b hb).1)
              replace h0 := h0.wr u254 h256.not (ap_symm p245)
              replace h7 := h7.wr u254 h256.not
              replace C := C.ow h256 u254
              have z258 := (u254).size
              have m259 := m248.wrC u254 (by omega) h256.not
              have m260 := m249.wrC u254 (by omega) (ap_one p245 h0.hd)
              refine ⟨⟨m259, m260, trivial⟩, ?_⟩
              refine mtv rfl rfl (rv_nilcheck rfl h0.ptr) (mtv rfl rfl (rv_fieldAddr (b := pb v0) (o := 0) st62 rfl h0.ptr) ?_)
              replace h0 := h0.or (ap_symm p257)
              replace h7 := h7.or (T := Blk v251)
              replace C := C.sealO h253
              replace h253 := h253.sealed
              obtain ⟨y12_14_1, h261, h117⟩ := pur_some h117
              have h266 : ∀ b, b ∈ fp0 → ¬ (Or S101 (Blk v251)) b := fun b hb => (h0.lt b hb).2
              refine mtc rfl rfl (dc_ofield (i := 1) (k := (kSl marigraphref11_Item.k)) (h1 := rfl) (a' := y12_11_1) h0 rfl ag38 rfl rfl (rep_sl.2 ⟨_, rfl, h253⟩) fun w262 h263 u264 => ?_)
              replace h263 : Ob 62 (marigraphref11_Head.fs ({ a0 with L := y12_11_1 } : marigraphref11_Head)) (Or S101 (Blk v251)) w262 v0 (cs0.set 1 v251) fp0 := h263
              rw [h261] at h263
              obtain ⟨cs267, h268⟩ : ∃ cs, cs = cs0.set 1 v251 := ⟨_, rfl⟩
              rw [← h268] at h263
              have c265 := Cx.ofUp C.sb u264
              replace h7 := h7.cf c265 h266
              replace C := C.ofc c265 hs0
              have z269 := (u264).size
              have m270 := m259.wrC u264 (by omega) (fun b hb hs => h266 b hb ((fun _ h => Or.inl h) b hs))
              refine ⟨trivial, ?_⟩
              refine MT.e ?_
              obtain rfl := Option.some.inj h117
              exact ⟨_, _, _, C, ⟨rfl, rfl, trivial⟩, h7, h263, hs0⟩
          · rintro ρ w272 ⟨S271, fp274, cs276, C, h277, h7, h273, h275⟩
            refine h277.cw fun ρ => ?_
            clear h277
            obtain ⟨o278, h281, h⟩ := bnd_some h
            refine cw_seq' (fun ρ w1 => ∃ S1 fp306 cs308, Cx (fun b => b ∈ fp0) S w S1 w1 ∧ Has ρ [(0, v0)] ∧ Ob 62 (marigraphref11_Head.fs o278) S1 w1 v0 cs308 fp306 ∧ (∀ b, b ∈ fp306 → b ∈ fp0 ∨ w.heap.size ≤ b)) ?_ ?_
            · obtain ⟨o282, h285, h281⟩ := bnd_some h281
              refine cw_seq' (fun ρ w1 => ∃ S1, Cx (fun b => b ∈ fp0) S w S1 w1 ∧ Has ρ [(0, v0), (5, .pointer (some ⟨b3, 0, none⟩)), (84, .bool o282)] ∧ Bs S1 w1 b3 [.int .i64 a2.T, .int .i64 a2.V] 29 ∧ Ob 62 (marigraphref11_Head.fs o114) S1 w1 v0 cs276 fp274) ?_ ?_
              · refine cw_drawU (.one 0 true (.one 1 true (.one 2 true (.one 3 true (.one 4 true (.one 5 true (.one 6 true (.one 7 true (.one 8 true (.one 9 true (.one 10 true (.one 11 true (.one 12 true (.one 13 true .done)))))))))))))) [(3, [9]), (7, [9]), (11, [9])] [] (fun c => bif Nat.beq c 9 then (fun _ => True) else No) fol (by kernel_rfl) fun w286 u287 => ?_
                replace h273 := h273.nw u287
                replace h7 := h7.nw u287
                replace C := C.new u287
                have m288 := Sm.refl (fun _ => True) w286
                refine mtv rfl rfl (mvv v0 rfl) (mtv rfl rfl (rv_nilcheck rfl h273.ptr) (mtv rfl rfl (rv_fieldAddr (b := pb v0) (o := 0) st62 rfl h273.ptr) (mtr rfl rfl ⟨m288, trivial⟩ (fun w' hq => rw_ofieldU (i := 3) (c := .bool o114.Any) h273 (hq.1.mono fun _ _ => trivial) ag4 (h273.sc (i := 3) rfl) rfl) (mtv rfl rfl (rv_not rfl) (mtv rfl rfl (mvv (.bool (!o114.Any)) rfl) ?_)))))
                rcases bif_some h285 with ⟨b289, h285⟩ | ⟨b289, h285⟩
                · refine MT.n rfl rfl (gn rfl rfl rfl b289) trivial (MT.n rfl rfl (gn rfl rfl rfl b289) ⟨m288, trivial⟩ (MT.n rfl rfl (gn rfl rfl rfl b289) trivial (MT.n rfl rfl (gn rfl rfl rfl b289) trivial (MT.n rfl rfl (gn rfl rfl rfl b289) trivial (MT.n rfl rfl (gn rfl rfl rfl b289) ⟨m288, trivial⟩ (MT.n rfl rfl (gn rfl rfl rfl b289) trivial (mtv rfl rfl (ptk (.bool true) rfl b289 rfl) (MT.e ?_))))))))
                  obtain rfl := Option.some.inj h285
                  exact ⟨_, C, ⟨rfl, rfl, rfl, trivial⟩, h7, h273⟩
                · refine MT.vv rfl rfl (gy rfl rfl rfl b289) (rv_fieldAddr st29 rfl rfl) (MT.r rfl rfl (gy rfl rfl rfl b289) ⟨m288, trivial⟩ (fun w' hq => rw_bk ag3 (h7.sm (hq.1.mono fun _ _ => trivial)) rfl rfl) (MT.vv rfl rfl (gy rfl rfl rfl b289) (mvv v0 rfl) (MT.vv rfl rfl (gy rfl rfl rfl b289) (rv_nilcheck rfl h273.ptr) (MT.vv rfl rfl (gy rfl rfl rfl b289) (rv_fieldAddr (b := pb v0) (o := 0) st62 rfl h273.ptr) (MT.r rfl rfl (gy rfl rfl rfl b289) ⟨m288, trivial⟩ (fun w' hq => rw_ofieldU (i := 2) (c := .int .i64 o114.Last) h273 (hq.1.mono fun _ _ => trivial) ag3 (h273.sc (i := 2) rfl) rfl) (MT.vv rfl rfl (gy rfl rfl rfl b289) (rv_gtr rfl rfl) (mtv rfl rfl (pfk (.bool (decide (o114.Last < a2.T))) rfl b289 rfl) (MT.e ?_))))))))
                  obtain rfl := Option.some.inj h285
                  exact ⟨_, C, ⟨rfl, rfl, rfl, trivial⟩, h7, h273⟩
              · rintro ρ w291 ⟨S290, C, h292, h7, h273⟩
                refine h292.cw fun ρ => ?_
                clear h292
                rcases bif_some h281 with ⟨b293, h281⟩ | ⟨b293, h281⟩
                · refine cw_t rfl b293 (cw_region (sv (mvv v0 rfl) (sv (rv_fieldAddr st29 rfl rfl) (sr (rw_bk ag3 h7.2 rfl rfl) (sv (rv_nilcheck rfl h273.ptr) (sv (rv_fieldAddr (b := pb v0) (o := 0) st62 rfl h273.ptr) ?_))))))
                  obtain ⟨y294, h295, h281⟩ := pur_some h281
                  have h300 : ∀ b, b ∈ fp274 → ¬ S290 b := fun b hb => (h273.lt b hb).2
                  refine sc (dc_ofield (i := 2) (k := (kI .i64)) (h1 := rfl) (a' := a2.T) h273 rfl ag3 rfl rfl (rep_sc.2 rfl) fun w296 h297 u298 => ?_)
                  replace h297 : Ob 62 (marigraphref11_Head.fs ({ o114 with Last := a2.T } : marigraphref11_Head)) S290 w296 v0 (cs276.set 2 (.int .i64 a2.T)) fp274 := h297
                  rw [h295] at h297
                  obtain ⟨cs301, h302⟩ : ∃ cs, cs = cs276.set 2 (.int .i64 a2.T) := ⟨_, rfl⟩
                  rw [← h302] at h297
                  have c299 := Cx.ofUp C.sb u298
                  replace C := C.ofc c299 h275
                  refine W.e ?_
                  obtain rfl := Option.some.inj h281
                  exact ⟨_, _, _, C, ⟨rfl, trivial⟩, h297, h275⟩
                · refine cw_f rfl b293 (cw_skip ?_)
                  obtain rfl := Option.some.inj h281
                  exact ⟨_, _, _, C, ⟨rfl, trivial⟩, h273, h275⟩
            · rintro ρ w304 ⟨S303, fp306, cs308, C, h309, h305, h307⟩
              refine h309.cw fun ρ => ?_
              clear h309
              refine cw_seq fun K310 k311 => ?_
              refine cw_region (sv (mvv v0 rfl) (sv (rv_nilcheck rfl h305.ptr) (sv (rv_fieldAddr (b := pb v0) (o := 0) st62 rfl h305.ptr) ?_)))
              obtain ⟨y312, h313, h⟩ := pur_some h
              have h318 : ∀ b, b ∈ fp306 → ¬ S303 b := fun b hb => (h305.lt b hb).2
              refine sc (dc_ofield (i := 3) (k := kB) (h1 := rfl) (a' := true) h305 rfl ag4 rfl rfl (rep_sc.2 rfl) fun w314 h315 u316 => ?_)
              replace h315 : Ob 62 (marigraphref11_Head.fs ({ o278 with Any := true } : marigraphref11_Head)) S303 w314 v0 (cs308.set 3 (.bool true)) fp306 := h315
              rw [h313] at h315
              obtain ⟨cs319, h320⟩ : ∃ cs, cs = cs308.set 3 (.bool true) := ⟨_, rfl⟩
              rw [← h320] at h315
              have c317 := Cx.ofUp C.sb u316
              replace C := C.ofc c317 h307
              refine W.e (k311 _ _ ?_)
              refine cw_seq fun K321 k322 => ?_
              refine cw_region (sv (asv (.int .i64 0) rfl) (W.e (k322 _ _ (cw_ret ?_))))
              obtain rfl := Option.some.inj h
              exact ⟨_, rfl, _, _, _, rfl, C, h315, h307⟩

noncomputable def marigraphref04_Ints.b2 (a0 : List Int) (a1 : List Int) (x20 : Int) : Option ((Int) ⊕ ((Unit) ⊕ (Bool))) :=
  (bif (decide (x20 < (a0.length : Int))) then ((at_ a0 x20).bind fun y35 => ((at_ a1 x20).bind fun y37 => (bif (y35 != y37) then some (.inr (.inr false)) else (pur (IntKind.i64.wrap (x20 + (1 : Int))) fun y43 => some (.inl y43))))) else some (.inr (.inl ())))
noncomputable def marigraphref04_Ints (a0 : List Int) (a1 : List Int) : Option Bool :=
  (bif ((a0.length : Int) != (a1.length : Int)) then some false else ((iter (fun s : Int => marigraphref04_Ints.b2 a0 a1 s) (0 : Int)).bind (Sum.elim (fun o10n => some true) (fun q => some q))))
set_option maxRecDepth 100000 in
set_option maxHeartbeats 4000000 in
theorem marigraphref04_Ints_w {S : Nat → Prop} {w : World} {a0 : List Int} {a1 : List Int} {v0 v1 : Value} {r : Bool} (hS : Sb S w) (h0 : Sl (kSl (kI .i64)) S w v0 a0) (h1 : Sl (kSl (kI .i64)) S w v1 a1) (h : marigraphref04_Ints a0 a1 = some r) :
    Calls Try.prog 27 (List.toArray [v0, v1]) w fun e w1 => ∃ S1, e = .returned (.bool r) ∧ Cx No S w S1 w1 := by
  refine enter Try.func27 rfl (by kernel_rfl) rfl ?_
  have C := Cx.refl (F := No) hS
  unfold marigraphref04_Ints at h
  refine cw_seq fun K1 k2 => ?_
  refine cw_region (sv (asv (.bool false) rfl) (W.e (k2 _ _ ?_)))
  refine cw_seq fun K3 k4 => ?_
  refine cw_seq fun K5 k6 => ?_
  refine cw_region (sv (mvv v0 rfl) (sv (rv_lenS el51 h0 rfl) (sv (mvv v1 rfl) (sv (rv_lenS el51 h1 rfl) (sv (rv_neq rfl rfl) (W.e (k6 _ _ ?_)))))))
  rcases bif_some h with ⟨b7, h⟩ | ⟨b7, h⟩
  · refine cw_t rfl b7 ?_
    refine cw_seq fun K8 k9 => ?_
    refine cw_region (sv (asv (.bool false) rfl) (W.e (k9 _ _ (cw_ret ?_))))
    obtain rfl := Option.some.inj h
    exact ⟨_, rfl, _, rfl, C⟩
  · refine cw_f rfl b7 (cw_skip (k4 _ _ ?_))
    obtain ⟨o10, h13, h⟩ := bnds_some h
    refine cw_seq' (fun ρ w1 => ∃ o10n, o10 = (.inl o10n) ∧ ∃ S1, Cx No S w S1 w1 ∧ Has ρ []) ?_ ?_
    · refine cw_seq fun K14 k15 => ?_
      refine cw_region (sv (asv (.int .i64 0) rfl) (W.e (k15 _ _ (cw_block ?_))))
      refine cw_iter h13 (fun s ρ w1 => ∃ S1, Cx No S w S1 w1 ∧ Has ρ [(0, v0), (1, v1), (5, .int .i64 s)] ∧ Sl (kSl (kI .i64)) S1 w1 v0 a0 ∧ Sl (kSl (kI .i64)) S1 w1 v1 a1) ⟨_, C, ⟨rfl, rfl, rfl, trivial⟩, h0, h1⟩ ?_
      rintro x20 q16 ρ w18 ⟨S17, C, h19, h0, h1⟩ h22 h21
      refine h19.cw fun ρ => ?_
      clear h19
      replace h22 : marigraphref04_Ints.b2 a0 a1 x20 = some q16 := h22
      unfold marigraphref04_Ints.b2 at h22
      refine cw_seq fun K23 k24 => ?_
      refine cw_seq fun K25 k26 => ?_
      refine cw_region (sv (mvv (.int .i64 x20) rfl) (sv (mvv v0 rfl) (sv (rv_lenS el51 h0 rfl) (sv (rv_lss rfl rfl) (W.e (k26 _ _ ?_))))))
      rcases bif_some h22 with ⟨b27, h22⟩ | ⟨b27, h22⟩
      · refine cw_t rfl b27 (cw_skip (k24 _ _ ?_))
        refine cw_seq fun K28 k29 => ?_
        refine cw_block ?_
        refine cw_seq fun K30 k31 => ?_
        refine cw_drawU (.one 0 true (.one 1 true (.one 2 true (.one 3 true (.one 4 true (.one 5 true (.one 6 true (.one 7 true (.one 8 true .done))))))))) [(3, [9]), (7, [9])] [] (fun c => bif Nat.beq c 9 then (fun _ => True) else No) fol (by kernel_rfl) fun w32 u33 => ?_
        replace h0 := h0.nw u33
        replace h1 := h1.nw u33
        replace C := C.new u33
        have m34 := Sm.refl (fun _ => True) w32
        refine mtv rfl rfl (mvv v0 rfl) (mtv rfl rfl (mvv (.int .i64 x20) rfl) ?_)
        obtain ⟨y35, h36, h22⟩ := bnd_some h22
        refine mtv rfl rfl (rv_index el51 h0 rfl rfl h36) (mtr rfl rfl ⟨m34, trivial⟩ (fun w' hq => rw_loadC el51 h0 h36 rfl w' (hq.1.mono fun _ _ => trivial)) (mtv rfl rfl (mvv v1 rfl) (mtv rfl rfl (mvv (.int .i64 x20) rfl) ?_)))
        obtain ⟨y37, h38, h22⟩ := bnd_some h22
        refine mtv rfl rfl (rv_index el51 h1 rfl rfl h38) (mtr rfl rfl ⟨m34, trivial⟩ (fun w' hq => rw_loadC el51 h1 h38 rfl w' (hq.1.mono fun _ _ => trivial)) (mtv rfl rfl (rv_neq rfl rfl) (MT.e (k31 _ _ ?_))))
        rcases bif_some h22 with ⟨b39, h22⟩ | ⟨b39, h22⟩
        · refine cw_t rfl b39 ?_
          refine cw_seq fun K40 k41 => ?_
          refine cw_region (sv (asv (.bool false) rfl) (W.e (k41 _ _ (cw_ret ?_))))
          obtain rfl := Option.some.inj h22
          have h42 := congrArg some h21
          obtain rfl := Option.some.inj h42
          replace h := h.2 _ rfl
          obtain rfl := Option.some.inj h
          exact ⟨_, rfl, _, rfl, C⟩
        · refine cw_f rfl b39 (cw_skip (k29 _ _ (cw_region (sv (mvv (.int .i64 x20) rfl) ?_))))
          obtain ⟨y43, h44, h22⟩ := pur_some h22
          refine sv (rv_add rfl rfl h44) (sv (asv (.int .i64 y43) rfl) (W.e ?_))
          obtain rfl := Option.some.inj h22
          exact ⟨_, rfl, ⟨_, C, ⟨rfl, rfl, rfl, trivial⟩, h0, h1⟩⟩
      · refine cw_f rfl b27 (cw_exit ?_)
        obtain rfl := Option.some.inj h22
        have h45 := congrArg some h21
        obtain rfl := Option.some.inj h45
        exact ⟨_, rfl, ⟨_, C, trivial⟩⟩
    · rintro ρ w47 ⟨o10n, rfl, ⟨S46, C, h48⟩⟩
      replace h := h.1 _ rfl
      refine h48.cw fun ρ => ?_
      clear h48
      refine cw_seq fun K49 k50 => ?_
      refine cw_region (sv (asv (.bool true) rfl) (W.e (k50 _ _ (cw_ret ?_))))
      obtain rfl := Option.some.inj h
      exact ⟨_, rfl, _, rfl, C⟩

noncomputable def marigraphlaw11_HeadPlays.b4 (y70 : (List marigraphlaw11_Act)) (x90 : Int) (x91 : Option head_Head) (x92 : Option marigraphref11_Head) : Option ((Int × (Option head_Head) × (Option marigraphref11_Head)) ⊕ (((Option head_Head) × (Option marigraphref11_Head)) ⊕ (Bool))) :=
  (bif (decide (x90 < (y70.length : Int))) then (((at_ y70 x90).bind fun y106 => (pur y106 fun y118 => ((pur (Int.tmod y118.Kind (7 : Int)) fun y135 => (bif (y135 == (5 : Int)) then ((head_Head_Seal x91).bind fun y140 => ((x92).bind fun y155 => ((marigraphref11_Head_Seal y155).bind fun y158 => ((marigraphref09_Same y140.1 y158.1).bind fun y173 => some (y173, y140.2, (some y158.2)))))) else (bif (y135 == (6 : Int)) then ((head_Head_Drop x91 y118.Id).bind fun y190 => ((x92).bind fun y205 => ((marigraphref11_Head_Drop y205 y118.Id).bind fun y208 => some ((y190.1 == y208.1), y190.2, (some y208.2))))) else ((head_Head_Add x91 y118.Id y118.P).bind fun y238 => ((x92).bind fun y253 => ((marigraphref11_Head_Add y253 y118.Id y118.P).bind fun y256 => some ((y238.1 == y256.1), y238.2, (some y256.2)))))))).bind fun o126 => ((head_Head_Last o126.2.1).bind fun y287 => ((bif (!o126.1) then some true else ((o126.2.2).bind fun y300 => (bif (y287.1 != y300.Last) then some true else (bif (!(y287.2 == y300.Any)) then some true else ((head_Head_Len o126.2.1).bind fun y308 => (bif (y308 != (y300.L.length : Int)) then some true else ((head_Head_Ids o126.2.1).bind fun y316 => ((marigraphref11_Head_Ids y300).bind fun y328 => ((marigraphref04_Ints y316 y328).bind fun y341 => (bif (!y341) then some true else ((head_Head_Points o126.2.1 y118.Id).bind fun y355 => ((marigraphref11_Head_Points y300 y118.Id).bind fun y366 => ((marigraphref04_Same y355 y366).bind fun y378 => some (!y378)))))))))))))).bind fun o292 => (bif o292 then some (.inr (.inr (.inr false))) else some (.inl (o126.2.1, o126.2.2)))))))).bind (Sum.elim (fun o100n => (pur (IntKind.i64.wrap (x90 + (1 : Int))) fun y405 => some (.inl (y405, o100n.1, o100n.2)))) (fun q => some q))) else some (.inr (.inl (x91, x92))))
noncomputable def marigraphlaw11_HeadPlays (a0 : Int) (a1 : List marigraphlaw11_Act) : Option Bool :=
  ((marigraphlaw11_shown).bind fun y5 => ((head_New a0).bind fun y12 => ((marigraphref11_New a0).bind fun y25 => (((bif (y12.2 != y25.2) then some true else some (!(y12.1.isNone == y25.1.isNone))).bind fun o41 => (bif o41 then some (.inr false) else some (.inl ()))).bind (Sum.elim (fun o37n => (bif y25.1.isNone then some y5 else (((marigraphlaw11_few a1).bind fun y70 => (iter (fun s : Int × (Option head_Head) × (Option marigraphref11_Head) => marigraphlaw11_HeadPlays.b4 y70 s.1 s.2.1 s.2.2) ((0 : Int), y12.1, y25.1))).bind (Sum.elim (fun o64n => some y5) (fun q => some q))))) (fun q => some q))))))
set_option maxRecDepth 100000 in
set_option maxHeartbeats 4000000 in
theorem marigraphlaw11_HeadPlays_w {S : Nat → Prop} {w : World} {a0 : Int} {a1 : List marigraphlaw11_Act} {v1 : Value} {r : Bool} (hS : Sb S w) (h1 : Sl (kSl marigraphlaw11_Act.k) S w v1 a1) (h : marigraphlaw11_HeadPlays a0 a1 = some r) :
    Calls Try.prog 8 (List.toArray [.int .i64 a0, v1]) w fun e w1 => ∃ S1, e = .returned (.bool r) ∧ Cx No S w S1 w1 := by
  refine enter Try.func8 rfl (by kernel_rfl) rfl ?_
  have C := Cx.refl (F := No) hS
  unfold marigraphlaw11_HeadPlays at h
  refine cw_seq fun K1 k2 => ?_
  refine cw_region (sv (asv (.bool false) rfl) (W.e (k2 _ _ ?_)))
  refine cw_seq fun K3 k4 => ?_
  refine cw_region ?_
  obtain ⟨y5, h6, h⟩ := bnd_some h
  refine sc (dc_call (vs := []) can10 rfl ?_)
  refine (marigraphlaw11_shown_w C.sb  h6).mono ?_
  rintro _ w7 ⟨S8, rfl, c9⟩
  refine ⟨_, rfl, ?_⟩
  replace h1 := h1.cx c9
  replace C := C.trans c9
  refine sv (asv (.bool y5) rfl) (W.e (k4 _ _ ?_))
  refine cw_seq fun K10 k11 => ?_
  refine cw_region (sv (mvv (.int .i64 a0) rfl) ?_)
  obtain ⟨y12, h13, h⟩ := bnd_some h
  refine sc (dc_call (vs := [.int .i64 a0]) can11 rfl ?_)
  refine (head_New_w C.sb  h13).mono ?_
  rintro _ w14 ⟨S15, v17, cs18, fp19, rfl, c16, h20, h21⟩
  refine ⟨_, rfl, ?_⟩
  have h22 : ∀ b, b ∈ fp19 → w.heap.size ≤ b := fun b hb => Nat.le_trans C.up.size (h21 b hb)
  replace h1 := h1.cx c16
  replace C := C.trans c16
  refine sv (mvv (.tuple (List.toArray [v17, .int .i64 y12.2])) rfl) (sv (rv_extract rfl rfl) (sv (rv_extract rfl rfl) (sv (asv v17 rfl) (sv (asv (.int .i64 y12.2) rfl) (W.e (k11 _ _ ?_))))))
  refine cw_seq fun K23 k24 => ?_
  refine cw_region (sv (mvv (.int .i64 a0) rfl) ?_)
  obtain ⟨y25, h26, h⟩ := bnd_some h
  refine sc (dc_call (vs := [.int .i64 a0]) can22 rfl ?_)
  refine (marigraphref11_New_w C.sb  h26).mono ?_
  rintro _ w27 ⟨S28, v30, cs31, fp32, rfl, c29, h33, h34⟩
  refine ⟨_, rfl, ?_⟩
  have p35 := ap_fresh h34 (fun b hb => (h20.lt b hb).1)
  have h36 : ∀ b, b ∈ fp32 → w.heap.size ≤ b := fun b hb => Nat.le_trans C.up.size (h34 b hb)
  replace h1 := h1.cx c29
  replace h20 := h20.cx c29
  replace C := C.trans c29
  refine sv (mvv (.tuple (List.toArray [v30, .int .i64 y25.2])) rfl) (sv (rv_extract rfl rfl) (sv (rv_extract rfl rfl) (sv (asv v30 rfl) (sv (asv (.int .i64 y25.2) rfl) (W.e (k24 _ _ ?_))))))
  obtain ⟨o37, h40, h⟩ := bnds_some h
  refine cw_seq' (fun ρ w1 => ∃ o37n, o37 = (.inl o37n) ∧ ∃ S1, Cx No S w S1 w1 ∧ Has ρ [(1, v1), (5, .bool y5), (6, v17), (8, v30)] ∧ Sl (kSl marigraphlaw11_Act.k) S1 w1 v1 a1 ∧ Obo 67 head_Head.fs S1 w1 v17 y12.1 cs18 fp19 ∧ Obo 62 marigraphref11_Head.fs S1 w1 v30 y25.1 cs31 fp32 ∧ (∀ b, b ∈ fp19 → ¬ b ∈ fp32)) ?_ ?_
  · obtain ⟨o41, h44, h40⟩ := bnd_some h40
    refine cw_seq' (fun ρ w1 => ∃ S1, Cx No S w S1 w1 ∧ Has ρ [(1, v1), (5, .bool y5), (6, v17), (8, v30), (35, .bool o41)] ∧ Sl (kSl marigraphlaw11_Act.k) S1 w1 v1 a1 ∧ Obo 67 head_Head.fs S1 w1 v17 y12.1 cs18 fp19 ∧ Obo 62 marigraphref11_Head.fs S1 w1 v30 y25.1 cs31 fp32 ∧ (∀ b, b ∈ fp19 → ¬ b ∈ fp32)) ?_ ?_
    · refine cw_region (sv (mvv (.int .i64 y12.2) rfl) (sv (mvv (.int .i64 y25.2) rfl) (sv (rv_neq rfl rfl) (sv (mvv (.bool (y12.2 != y25.2)) rfl) ?_))))
      rcases bif_some h44 with ⟨b45, h44⟩ | ⟨b45, h44⟩
      · refine W.n (gn rfl rfl rfl b45) (W.n (gn rfl rfl rfl b45) (W.n (gn rfl rfl rfl b45) (W.n (gn rfl rfl rfl b45) (W.n (gn rfl rfl rfl b45) (sv (ptk (.bool true) rfl b45 rfl) (W.e ?_))))))
        obtain rfl := Option.some.inj h44
        exact ⟨_, C, ⟨rfl, rfl, rfl, rfl, rfl, trivial⟩, h1, h20, h33, (ap_symm p35)⟩
      · refine W.v (gy rfl rfl rfl b45) (mvv v17 rfl) (W.v (gy rfl rfl rfl b45) (rv_nileq Try.underlying23 rfl rfl h20.ne) (W.v (gy rfl rfl rfl b45) (mvv v30 rfl) (W.v (gy rfl rfl rfl b45) (rv_nileq Try.underlying57 rfl rfl h33.ne) (W.v (gy rfl rfl rfl b45) (rv_bneq Try.underlying4 rfl rfl) (sv (pfk (.bool (!(y12.1.isNone == y25.1.isNone))) rfl b45 rfl) (W.e ?_))))))
        obtain rfl := Option.some.inj h44
        exact ⟨_, C, ⟨rfl, rfl, rfl, rfl, rfl, trivial⟩, h1, h20, h33, (ap_symm p35)⟩
    · rintro ρ w47 ⟨S46, C, h49, h1, h20, h33, p48⟩
      refine h49.cw fun ρ => ?_
      clear h49
      rcases bif_some h40 with ⟨b50, h40⟩ | ⟨b50, h40⟩
      · refine cw_t rfl b50 ?_
        refine cw_seq fun K51 k52 => ?_
        refine cw_region (sv (asv (.bool false) rfl) (W.e (k52 _ _ (cw_ret ?_))))
        obtain rfl := Option.some.inj h40
        replace h := h.2 _ rfl
        obtain rfl := Option.some.inj h
        exact ⟨_, rfl, _, rfl, C⟩
      · refine cw_f rfl b50 (cw_skip ?_)
        obtain rfl := Option.some.inj h40
        exact ⟨_, rfl, ⟨_, C, ⟨rfl, rfl, rfl, rfl, trivial⟩, h1, h20, h33, p48⟩⟩
  · rintro ρ w54 ⟨o37n, rfl, ⟨S53, C, h56, h1, h20, h33, p55⟩⟩
    replace h := h.1 _ rfl
    refine h56.cw fun ρ => ?_
    clear h56
    refine cw_seq fun K57 k58 => ?_
    refine cw_seq fun K59 k60 => ?_
    refine cw_region (sv (mvv v30 rfl) (sv (rv_nileq Try.underlying57 rfl rfl h33.ne) (W.e (k60 _ _ ?_))))
    rcases bif_some h with ⟨b61, h⟩ | ⟨b61, h⟩
    · refine cw_t rfl b61 ?_
      refine cw_seq fun K62 k63 => ?_
      refine cw_region (sv (mvv (.bool y5) rfl) (sv (asv (.bool y5) rfl) (W.e (k63 _ _ (cw_ret ?_)))))
      obtain rfl := Option.some.inj h
      exact ⟨_, rfl, _, rfl, C⟩
    · refine cw_f rfl b61 (cw_skip (k58 _ _ ?_))
      obtain ⟨o64, h67, h⟩ := bnds_some h
      refine cw_seq' (fun ρ w1 => ∃ o64n, o64 = (.inl o64n) ∧ ∃ S1, Cx No S w S1 w1 ∧ Has ρ [(5, .bool y5)]) ?_ ?_
      · refine cw_seq fun K68 k69 => ?_
        refine cw_region (sv (mvv v1 rfl) ?_)
        obtain ⟨y70, h71, h67⟩ := bnd_some h67
        refine sc (dc_call (vs := [v1]) can18 rfl ?_)
        refine (marigraphlaw11_few_w C.sb h1 h71).mono ?_
        rintro _ w72 ⟨S73, v75, rfl, c74, h76⟩
        refine ⟨_, rfl, ?_⟩
        replace h20 := h20.cx c74
        replace h33 := h33.cx c74
        replace C := C.trans c74
        refine sv (rv_lenS el37 h76 rfl) (sv (mvv (.int .i64 0) rfl) (W.e (k69 _ _ (cw_block ?_))))
        refine cw_iter h67 (fun s ρ w1 => ∃ S1 fp81 cs83 fp85 cs87, Cx No S w S1 w1 ∧ Has ρ [(5, .bool y5), (6, v17), (8, v30), (40, v75), (41, .int .i64 (y70.length : Int)), (42, .int .i64 s.1)] ∧ Sl (kSl marigraphlaw11_Act.k) S1 w1 v75 y70 ∧ Obo 67 head_Head.fs S1 w1 v17 s.2.1 cs83 fp81 ∧ (∀ b, b ∈ fp81 → w.heap.size ≤ b) ∧ Obo 62 marigraphref11_Head.fs S1 w1 v30 s.2.2 cs87 fp85 ∧ (∀ b, b ∈ fp85 → w.heap.size ≤ b) ∧ (∀ b, b ∈ fp81 → ¬ b ∈ fp85)) ⟨_, _, _, _, _, C, ⟨rfl, rfl, rfl, rfl, rfl, rfl, trivial⟩, h76, h20, h22, h33, h36, p55⟩ ?_
        rintro ⟨x90, x91, x92⟩ q77 ρ w79 ⟨S78, fp81, cs83, fp85, cs87, C, h89, h76, h80, h82, h84, h86, p88⟩ h94 h93
        refine h89.cw fun ρ => ?_
        clear h89
        replace h94 : marigraphlaw11_HeadPlays.b4 y70 x90 x91 x92 = some q77 := h94
        unfold marigraphlaw11_HeadPlays.b4 at h94
        refine cw_seq fun K95 k96 => ?_
        refine cw_region (sv (rv_lss rfl rfl) (W.e (k96 _ _ ?_)))
        refine cw_seq fun K97 k98 => ?_
        rcases bif_some h94 with ⟨b99, h94⟩ | ⟨b99, h94⟩
        · refine cw_t rfl b99 (cw_skip (k98 _ _ ?_))
          obtain ⟨o100, h103, h94⟩ := bnds_some h94
          refine cw_seq' (fun ρ w1 => ∃ o100n, o100 = (.inl o100n) ∧ ∃ S1 fp396 cs398 fp400 cs402, Cx No S w S1 w1 ∧ Has ρ [(5, .bool y5), (6, v17), (8, v30), (40, v75), (41, .int .i64 (y70.length : Int)), (42, .int .i64 x90)] ∧ Sl (kSl marigraphlaw11_Act.k) S1 w1 v75 y70 ∧ Obo 67 head_Head.fs S1 w1 v17 o100n.1 cs398 fp396 ∧ (∀ b, b ∈ fp396 → w.heap.size ≤ b) ∧ Obo 62 marigraphref11_Head.fs S1 w1 v30 o100n.2 cs402 fp400 ∧ (∀ b, b ∈ fp400 → w.heap.size ≤ b) ∧ (∀ b, b ∈ fp396 → ¬ b ∈ fp400)) ?_ ?_
          · refine cw_block ?_
            refine cw_seq fun K104 k105 => ?_
            refine cw_region ?_
            obtain ⟨y106, h107, h103⟩ := bnd_some h103
            refine sv (rv_index el37 h76 rfl rfl h107) ?_
            obtain ⟨v108, h109, h110⟩ := rw_loadA (P := Try.prog) el37 h76 h107
            obtain rfl := marigraphlaw11_Act.o.1 h109
            refine sr (h110 _ (Sm.refl _ _) rfl) ?_
            refine sc (dc_allocO (x0 := (marigraphlaw11_Act.mk (0 : Int) (0 : Int) (api_Point.mk (0 : Int) (0 : Int)))) (base := w.heap.size) el37 zr41 (fun _ => marigraphlaw11_Act.r.2 rfl) C.up.size C.sb fun b111 w112 h113 h114 u115 => ?_)
            have p116 := ap_fresh h114 (fun b hb => (h80.lt b hb).1)
            have p117 := ap_fresh h114 (fun b hb => (h84.lt b hb).1)
            replace h80 := h80.nw u115
            replace h76 := h76.nw u115
            replace h84 := h84.nw u115
            replace C := C.new u115
            obtain ⟨y118, h119, h103⟩ := pur_some h103
            have h123 := h113
            refine sc (dc_storeO el37 h123 (show at_ [(marigraphlaw11_Act.mk (0 : Int) (0 : Int) (api_Point.mk (0 : Int) (0 : Int)))] (0 : Int) = some (marigraphlaw11_Act.mk (0 : Int) (0 : Int) (api_Point.mk (0 : Int) (0 : Int))) from rfl) rfl rfl ((marigraphlaw11_Act.o.2 rfl)) fun w120 h121 u122 => ?_)
            replace h121 : Ow marigraphlaw11_Act.k 41 S78 w.heap.size w120 (.slice (some ⟨b111, 0, none⟩) 1 1) [y106] := h121
            rw [h119] at h121
            replace h80 := h80.wr u122 h123.not (ap_symm p116)
            replace h76 := h76.wr u122 h123.not
            replace h84 := h84.wr u122 h123.not (ap_symm p117)
            replace C := C.ow h123 u122
            refine W.e (k105 _ _ ?_)
            refine cw_seq fun K124 k125 => ?_
            refine cw_region (sv (asv (.bool true) rfl) (W.e (k125 _ _ ?_)))
            obtain ⟨o126, h129, h103⟩ := bnd_some h103
            refine cw_seq' (fun ρ w1 => ∃ S1 fp274 cs276 fp278 cs280, Cx No S w S1 w1 ∧ Has ρ [(5, .bool y5), (6, v17), (8, v30), (11, .pointer (some ⟨b111, 0, none⟩)), (12, .bool o126.1), (40, v75), (41, .int .i64 (y70.length : Int)), (42, .int .i64 x90)] ∧ Ow marigraphlaw11_Act.k 41 S1 w.heap.size w1 (.slice (some ⟨b111, 0, none⟩) 1 1) ([y118]) ∧ Sl (kSl marigraphlaw11_Act.k) S1 w1 v75 y70 ∧ Obo 67 head_Head.fs S1 w1 v17 o126.2.1 cs276 fp274 ∧ (∀ b, b ∈ fp274 → w.heap.size ≤ b) ∧ Obo 62 marigraphref11_Head.fs S1 w1 v30 o126.2.2 cs280 fp278 ∧ (∀ b, b ∈ fp278 → w.heap.size ≤ b) ∧ (∀ b, Blk (.slice (some ⟨b111, 0, none⟩) 1 1) b → ¬ b ∈ fp274) ∧ (∀ b, Blk (.slice (some ⟨b111, 0, none⟩) 1 1) b → ¬ b ∈ fp278) ∧ (∀ b, b ∈ fp274 → ¬ b ∈ fp278)) ?_ ?_
            · refine cw_seq fun K130 k131 => ?_
              refine cw_region (sv (rv_fieldAddr st41 rfl rfl) ?_)
              obtain ⟨cs132, h133, h134⟩ := Ow.cellsO h121 (show at_ [y118] (0 : Int) = some y118 from rfl)
              obtain rfl := marigraphlaw11_Act.r.1 h133
              refine sr (rw_el1 (off := 0) ag5 (h134 _ (Sm.refl _ _)) rfl rfl) ?_
              obtain ⟨y135, h136, h129⟩ := pur_some h129
              refine sv (rv_rem rfl rfl (by decide) h136) (W.e (k131 _ _ (cw_block ?_)))
              refine cw_seq fun K137 k138 => ?_
              refine cw_region (sv (rv_eql rfl rfl) (sv (asv (.bool (y135 == (5 : Int))) rfl) (W.e (k138 _ _ ?_))))
              rcases bif_some h129 with ⟨b139, h129⟩ | ⟨b139, h129⟩
              · refine cw_t rfl b139 (cw_region (sv (mvv v17 rfl) ?_))
                obtain ⟨y140, h141, h129⟩ := bnd_some h129
                refine sc (dc_call (vs := [v17]) can14 rfl ?_)
                refine (head_Head_Seal_w C.sb h80 h141).mono ?_
                rintro _ w142 ⟨S143, v145, cs147, fp148, rfl, c144, h146, h149, h150⟩
                refine ⟨_, rfl, ?_⟩
                have h151 : ∀ b, b ∈ fp81 → ¬ S78 b := fun b hb => (h80.lt b hb).2
                have p152 := ap_grow p88 h150 (fun b hb => (h84.lt b hb).1)
                have p153 := ap_grow (ap_symm p116) h150 (fun b hb => (h121.lt b hb).2)
                have h154 : ∀ b, b ∈ fp148 → w.heap.size ≤ b := fun b hb => (h150 b hb).elim (h82 b) (fun hl => Nat.le_trans C.up.size hl)
                replace h76 := h76.cf c144 h151
                replace h84 := h84.cf c144 h151 (ap_symm p88)
                replace h121 := h121.cf c144 h151 p116
                replace C := C.ofc c144 (fun b hb => .inr (h82 b hb))
                refine sv (mvv v30 rfl) ?_
                obtain ⟨y155, h156, h129⟩ := bnd_some h129
                have h157 := h84
                rw [h156] at h157
                replace h157 : Ob 62 (marigraphref11_Head.fs y155) _ _ _ _ _ := h157
                obtain ⟨y158, h159, h129⟩ := bnd_some h129
                refine sc (dc_call (vs := [v30]) can24 rfl ?_)
                refine (marigraphref11_Head_Seal_w C.sb h157 h159).mono ?_
                rintro _ w160 ⟨S161, v163, cs165, fp166, rfl, c162, h164, h167, h168⟩
                refine ⟨_, rfl, ?_⟩
                have h169 : ∀ b, b ∈ fp85 → ¬ S143 b := fun b hb => (h157.lt b hb).2
                have p170 := ap_grow (ap_symm p152) h168 (fun b hb => (h149.lt b hb).1)
                have p171 := ap_grow (ap_symm p117) h168 (fun b hb => (h121.lt b hb).2)
                have h172 : ∀ b, b ∈ fp166 → w.heap.size ≤ b := fun b hb => (h168 b hb).elim (h86 b) (fun hl => Nat.le_trans C.up.size hl)
                replace h146 := h146.cf c162 h169
                replace h149 := h149.cf c162 h169 p152
                replace h76 := h76.cf c162 h169
                replace h121 := h121.cf c162 h169 p117
                replace C := C.ofc c162 (fun b hb => .inr (h86 b hb))
                obtain ⟨y173, h174, h129⟩ := bnd_some h129
                refine sc (dc_call (vs := [v145, v163]) can23 rfl ?_)
                refine (marigraphref09_Same_w C.sb h146 h164 h174).mono ?_
                rintro _ w175 ⟨S176, rfl, c177⟩
                refine ⟨_, rfl, ?_⟩
                replace h149 := h149.cx c177
                replace h76 := h76.cx c177
                replace h167 := h167.cx c177
                replace h121 := h121.cx c177
                replace C := C.trans c177
                refine sv (asv (.bool y173) rfl) (W.e ?_)
                obtain rfl := Option.some.inj h129
                exact ⟨_, _, _, _, _, C, ⟨rfl, rfl, rfl, rfl, rfl, rfl, rfl, rfl, trivial⟩, h121, h76, h149, h154, h167, h172, (ap_symm p153), (ap_symm p171), (ap_symm p170)⟩
              · refine cw_f rfl b139 ?_
                refine cw_seq fun K178 k179 => ?_
                refine cw_region (sv (rv_eql rfl rfl) (sv (asv (.bool (y135 == (6 : Int))) rfl) (W.e (k179 _ _ ?_))))
                rcases bif_some h129 with ⟨b180, h129⟩ | ⟨b180, h129⟩
                · refine cw_t rfl b180 ?_
                  refine cw_drawU (.one 0 true (.one 1 true (.one 2 true (.one 4 true (.one 5 true (.one 6 true (.one 3 false (.one 7 false (.one 8 true (.one 9 true .done)))))))))) [(2, [1000]), (6, [1000])] [(3, [1000]), (7, [1000])] (fun c => bif Nat.beq c 1000 then (Or S78 (Blk (.slice (some ⟨b111, 0, none⟩) 1 1))) else No) fol (by kernel_rfl) fun w181 u182 => ?_
                  replace h80 := h80.nw u182
                  replace h76 := h76.nw u182
                  replace h84 := h84.nw u182
                  replace h121 := h121.nw u182
                  replace C := C.new u182
                  have h80d := h80
                  have h76d := h76
                  have h84d := h84
                  have h121d := h121
                  have m183 := Sm.refl (Or S78 (Blk (.slice (some ⟨b111, 0, none⟩) 1 1))) w181
                  refine mtv rfl rfl (mvv v17 rfl) (mtv rfl rfl (rv_fieldAddr st41 rfl rfl) ?_)
                  obtain ⟨cs184, h185, h186⟩ := Ow.cellsO h121 (show at_ [y118] (0 : Int) = some y118 from rfl)
                  obtain rfl := marigraphlaw11_Act.r.1 h185
                  refine mtr rfl rfl ⟨m183, trivial⟩ (fun w' hq => rw_el1 (off := 1) ag3 (h186 w' hq.1) rfl rfl) (mtv rfl rfl (mvv v30 rfl) (mtv rfl rfl (rv_fieldAddr st41 rfl rfl) ?_))
                  obtain ⟨cs187, h188, h189⟩ := Ow.cellsO h121 (show at_ [y118] (0 : Int) = some y118 from rfl)
                  obtain rfl := marigraphlaw11_Act.r.1 h188
                  refine mtr rfl rfl ⟨m183, trivial⟩ (fun w' hq => rw_el1 (off := 1) ag3 (h189 w' hq.1) rfl rfl) ?_
                  obtain ⟨y190, h191, h129⟩ := bnd_some h129
                  refine mtc rfl rfl (dc_call (vs := [v17, .int .i64 y118.Id]) can19 rfl ?_)
                  refine (head_Head_Drop_w C.sb h80 h191).mono ?_
                  rintro _ w192 ⟨S193, cs195, fp196, rfl, c194, h197, h198⟩
                  refine ⟨_, rfl, ?_⟩
                  have h199 : ∀ b, b ∈ fp81 → ¬ S78 b := fun b hb => (h80.lt b hb).2
                  have p200 := ap_grow p88 h198 (fun b hb => (h84.lt b hb).1)
                  have p201 := ap_grow (ap_symm p116) h198 (fun b hb => (h121.lt b hb).2)
                  have h202 : ∀ b, b ∈ fp196 → w.heap.size ≤ b := fun b hb => (h198 b hb).elim (h82 b) (fun hl => Nat.le_trans C.up.size hl)
                  replace h76 := h76.cf c194 h199
                  replace h84 := h84.cf c194 h199 (ap_symm p88)
                  replace h121 := h121.cf c194 h199 p116
                  replace C := C.ofc c194 (fun b hb => .inr (h82 b hb))
                  have z203 := (c194.up).size
                  have m204 := m183.wrC c194.up (by omega) (fun b hb hs => hs.elim (h199 b hb) ((ap_symm p116) b hb))
                  refine ⟨⟨m204, trivial⟩, ?_⟩
                  obtain ⟨y205, h206, h129⟩ := bnd_some h129
                  have h207 := h84
                  rw [h206] at h207
                  replace h207 : Ob 62 (marigraphref11_Head.fs y205) _ _ _ _ _ := h207
                  have h207d := h84d
                  rw [h206] at h207d
                  replace h207d : Ob 62 (marigraphref11_Head.fs y205) _ _ _ _ _ := h207d
                  obtain ⟨y208, h209, h129⟩ := bnd_some h129
                  refine mtc rfl rfl (dc_call (vs := [v30, .int .i64 y118.Id]) can25 rfl ?_)
                  refine (marigraphref11_Head_Drop_w C.sb h207 h209).mono ?_
                  rintro _ w210 ⟨S211, cs213, fp214, rfl, c212, h215, h216⟩
                  refine ⟨_, rfl, ?_⟩
                  have h217 : ∀ b, b ∈ fp85 → ¬ S193 b := fun b hb => (h207.lt b hb).2
                  have p218 := ap_grow (ap_symm p200) h216 (fun b hb => (h197.lt b hb).1)
                  have p219 := ap_grow (ap_symm p117) h216 (fun b hb => (h121.lt b hb).2)
                  have h220 : ∀ b, b ∈ fp214 → w.heap.size ≤ b := fun b hb => (h216 b hb).elim (h86 b) (fun hl => Nat.le_trans C.up.size hl)
                  replace h197 := h197.cf c212 h217 p200
                  replace h76 := h76.cf c212 h217
                  replace h121 := h121.cf c212 h217 p117
                  replace C := C.ofc c212 (fun b hb => .inr (h86 b hb))
                  have z221 := (c212.up).size
                  have m222 := m204.wrC c212.up (by omega) (fun b hb hs => hs.elim ((fun b hb hs => h217 b hb ((fun b h => c194.ge.le b h) b hs)) b hb) ((ap_symm p117) b hb))
                  refine ⟨⟨m222, trivial⟩, ?_⟩
                  refine mtv rfl rfl (rv_eql rfl rfl) (mtv rfl rfl (asv (.bool (y190.1 == y208.1)) rfl) (MT.e ?_))
                  obtain rfl := Option.some.inj h129
                  exact ⟨_, _, _, _, _, C, ⟨rfl, rfl, rfl, rfl, rfl, rfl, rfl, rfl, trivial⟩, h121, h76, h197, h202, h215, h220, (ap_symm p201), (ap_symm p219), (ap_symm p218)⟩
                · refine cw_f rfl b180 ?_
                  refine cw_drawU (.one 0 true (.one 1 true (.one 2 true (.one 3 true (.one 4 true (.one 6 true (.one 7 true (.one 8 true (.one 9 true (.one 10 true (.one 5 false (.one 11 false (.one 12 true (.one 13 true .done)))))))))))))) [(2, [1000]), (4, [1000]), (8, [1000]), (10, [1000])] [(5, [1000]), (11, [1000])] (fun c => bif Nat.beq c 1000 then (Or S78 (Blk (.slice (some ⟨b111, 0, none⟩) 1 1))) else No) fol (by kernel_rfl) fun w223 u224 => ?_
                  replace h80 := h80.nw u224
                  replace h84 := h84.nw u224
                  replace h121 := h121.nw u224
                  replace h76 := h76.nw u224
                  replace C := C.new u224
                  have h80d := h80
                  have h84d := h84
                  have h121d := h121
                  have h76d := h76
                  have m225 := Sm.refl (Or S78 (Blk (.slice (some ⟨b111, 0, none⟩) 1 1))) w223
                  refine mtv rfl rfl (mvv v17 rfl) (mtv rfl rfl (rv_fieldAddr st41 rfl rfl) ?_)
                  obtain ⟨cs226, h227, h228⟩ := Ow.cellsO h121 (show at_ [y118] (0 : Int) = some y118 from rfl)
                  obtain rfl := marigraphlaw11_Act.r.1 h227
                  refine mtr rfl rfl ⟨m225, trivial⟩ (fun w' hq => rw_el1 (off := 1) ag3 (h228 w' hq.1) rfl rfl) (mtv rfl rfl (rv_fieldAddr st41 rfl rfl) ?_)
                  obtain ⟨cs229, h230, h231⟩ := Ow.cellsO h121 (show at_ [y118] (0 : Int) = some y118 from rfl)
                  obtain rfl := marigraphlaw11_Act.r.1 h230
                  refine mtr rfl rfl ⟨m225, trivial⟩ (fun w' hq => rw_elA (off := 2) ag29 (h231 w' hq.1) rfl rfl rfl) (mtv rfl rfl (mvv v30 rfl) (mtv rfl rfl (rv_fieldAddr st41 rfl rfl) ?_))
                  obtain ⟨cs232, h233, h234⟩ := Ow.cellsO h121 (show at_ [y118] (0 : Int) = some y118 from rfl)
                  obtain rfl := marigraphlaw11_Act.r.1 h233
                  refine mtr rfl rfl ⟨m225, trivial⟩ (fun w' hq => rw_el1 (off := 1) ag3 (h234 w' hq.1) rfl rfl) (mtv rfl rfl (rv_fieldAddr st41 rfl rfl) ?_)
                  obtain ⟨cs235, h236, h237⟩ := Ow.cellsO h121 (show at_ [y118] (0 : Int) = some y118 from rfl)
                  obtain rfl := marigraphlaw11_Act.r.1 h236
                  refine mtr rfl rfl ⟨m225, trivial⟩ (fun w' hq => rw_elA (off := 2) ag29 (h237 w' hq.1) rfl rfl rfl) ?_
                  obtain ⟨y238, h239, h129⟩ := bnd_some h129
                  refine mtc rfl rfl (dc_call (vs := [v17, .int .i64 y118.Id, .agg (List.toArray [.int .i64 y118.P.T, .int .i64 y118.P.V])]) can12 rfl ?_)
                  refine (head_Head_Add_w C.sb h80 (api_Point.o.2 rfl) h239).mono ?_
                  rintro _ w240 ⟨S241, cs243, fp244, rfl, c242, h245, h246⟩
                  refine ⟨_, rfl, ?_⟩
                  have h247 : ∀ b, b ∈ fp81 → ¬ S78 b := fun b hb => (h80.lt b hb).2
                  have p248 := ap_grow p88 h246 (fun b hb => (h84.lt b hb).1)
                  have p249 := ap_grow (ap_symm p116) h246 (fun b hb => (h121.lt b hb).2)
                  have h250 : ∀ b, b ∈ fp244 → w.heap.size ≤ b := fun b hb => (h246 b hb).elim (h82 b) (fun hl => Nat.le_trans C.up.size hl)
                  replace h76 := h76.cf c242 h247
                  replace h84 := h84.cf c242 h247 (ap_symm p88)
                  replace h121 := h121.cf c242 h247 p116
                  replace C := C.ofc c242 (fun b hb => .inr (h82 b hb))
                  have z251 := (c242.up).size
                  have m252 := m225.wrC c242.up (by omega) (fun b hb hs => hs.elim (h247 b hb) ((ap_symm p116) b hb))
                  refine ⟨⟨m252, trivial⟩, ?_⟩
                  obtain ⟨y253, h254, h129⟩ := bnd_some h129
                  have h255 := h84
                  rw [h254] at h255
                  replace h255 : Ob 62 (marigraphref11_Head.fs y253) _ _ _ _ _ := h255
                  have h255d := h84d
                  rw [h254] at h255d
                  replace h255d : Ob 62 (marigraphref11_Head.fs y253) _ _ _ _ _ := h255d
                  obtain ⟨y256, h257, h129⟩ := bnd_some h129
                  refine mtc rfl rfl (dc_call (vs := [v30, .int .i64 y118.Id, .agg (List.toArray [.int .i64 y118.P.T, .int .i64 y118.P.V])]) can26 rfl ?_)
                  refine (marigraphref11_Head_Add_w C.sb h255 (api_Point.o.2 rfl) h257).mono ?_
                  rintro _ w258 ⟨S259, cs261, fp262, rfl, c260, h263, h264⟩
                  refine ⟨_, rfl, ?_⟩
                  have h265 : ∀ b, b ∈ fp85 → ¬ S241 b := fun b hb => (h255.lt b hb).2
                  have p266 := ap_grow (ap_symm p248) h264 (fun b hb => (h245.lt b hb).1)
                  have p267 := ap_grow (ap_symm p117) h264 (fun b hb => (h121.lt b hb).2)
                  have h268 : ∀ b, b ∈ fp262 → w.heap.size ≤ b := fun b hb => (h264 b hb).elim (h86 b) (fun hl => Nat.le_trans C.up.size hl)
                  replace h245 := h245.cf c260 h265 p248
                  replace h76 := h76.cf c260 h265
                  replace h121 := h121.cf c260 h265 p117
                  replace C := C.ofc c260 (fun b hb => .inr (h86 b hb))
                  have z269 := (c260.up).size
                  have m270 := m252.wrC c260.up (by omega) (fun b hb hs => hs.elim ((fun b hb hs => h265 b hb ((fun b h => c242.ge.le b h) b hs)) b hb) ((ap_symm p117) b hb))
                  refine ⟨⟨m270, trivial⟩, ?_⟩
                  refine mtv rfl rfl (rv_eql rfl rfl) (mtv rfl rfl (asv (.bool (y238.1 == y256.1)) rfl) (MT.e ?_))
                  obtain rfl := Option.some.inj h129
                  exact ⟨_, _, _, _, _, C, ⟨rfl, rfl, rfl, rfl, rfl, rfl, rfl, rfl, trivial⟩, h121, h76, h245, h250, h263, h268, (ap_symm p249), (ap_symm p267), (ap_symm p266)⟩
            · rintro ρ w272 ⟨S271, fp274, cs276, fp278, cs280, C, h284, h121, h76, h273, h275, h277, h279, p281, p282, p283⟩
              refine h284.cw fun ρ => ?_
              clear h284
              refine cw_seq fun K285 k286 => ?_
              refine cw_region (sv (mvv v17 rfl) ?_)
              obtain ⟨y287, h288, h103⟩ := bnd_some h103
              refine sc (dc_call (vs := [v17]) can21 rfl ?_)
              refine (head_Head_Last_w C.sb h273 h288).mono ?_
              rintro _ w289 ⟨S290, rfl, c291⟩
              refine ⟨_, rfl, ?_⟩
              replace h273 := h273.cx c291
              replace h76 := h76.cx c291
              replace h277 := h277.cx c291
              replace h121 := h121.cx c291
              replace C := C.trans c291
              refine sv (mvv (.tuple (List.toArray [.int .i64 y287.1, .bool y287.2])) rfl) (sv (rv_extract rfl rfl) (sv (rv_extract rfl rfl) (sv (asv (.int .i64 y287.1) rfl) (sv (asv (.bool y287.2) rfl) (W.e (k286 _ _ ?_))))))
              obtain ⟨o292, h295, h103⟩ := bnd_some h103
              refine cw_seq' (fun ρ w1 => ∃ S1, Cx No S w S1 w1 ∧ Has ρ [(5, .bool y5), (6, v17), (8, v30), (40, v75), (41, .int .i64 (y70.length : Int)), (42, .int .i64 x90), (132, .bool o292)] ∧ Sl (kSl marigraphlaw11_Act.k) S1 w1 v75 y70 ∧ Obo 67 head_Head.fs S1 w1 v17 o126.2.1 cs276 fp274 ∧ Obo 62 marigraphref11_Head.fs S1 w1 v30 o126.2.2 cs280 fp278 ∧ (∀ b, b ∈ fp274 → ¬ b ∈ fp278)) ?_ ?_
              · refine cw_drawU (.one 0 true (.one 1 true (.one 2 true (.one 3 true (.one 4 true (.one 5 true (.one 6 true (.one 7 true (.one 8 true (.one 9 true (.one 10 true (.one 11 true (.one 12 true (.one 13 true (.one 14 true (.one 15 true (.one 16 true (.one 17 true (.one 18 true (.one 19 true (.one 21 true (.one 22 true (.one 23 true (.one 24 true (.one 25 true (.one 20 false (.one 26 true (.one 27 true (.one 28 true (.one 29 true (.one 31 true (.one 30 false (.one 32 false (.one 33 false (.one 34 true (.one 35 true (.one 36 true (.one 37 true (.one 38 true (.one 39 true (.one 41 true (.one 42 true (.one 43 true (.one 40 false (.one 44 false (.one 45 false (.one 46 true (.one 47 true .done)))))))))))))))))))))))))))))))))))))))))))))))) [(7, [9]), (15, [9]), (24, [9]), (39, [9]), (43, [9])] [(20, [9]), (30, [9]), (32, [9]), (33, [9]), (40, [9]), (44, [9]), (45, [9])] (fun c => bif Nat.beq c 9 then (fun _ => True) else No) fol (by kernel_rfl) fun w296 u297 => ?_
                replace h273 := h273.nw u297
                replace h277 := h277.nw u297
                replace h121 := h121.nw u297
                replace h76 := h76.nw u297
                replace C := C.new u297
                have h273d := h273
                have h277d := h277
                have h121d := h121
                have h76d := h76
                have m298 := Sm.refl (fun _ => True) w296
                refine mtv rfl rfl (mvv (.bool o126.1) rfl) (mtv rfl rfl (rv_not rfl) (mtv rfl rfl (mvv (.bool (!o126.1)) rfl) ?_))
                rcases bif_some h295 with ⟨b299, h295⟩ | ⟨b299, h295⟩
                · refine MT.n rfl rfl (gn rfl rfl rfl b299) trivial (MT.n rfl rfl (gn rfl rfl rfl b299) trivial (MT.n rfl rfl (gn rfl rfl rfl b299) trivial (MT.n rfl rfl (gn rfl rfl rfl b299) trivial (MT.n rfl rfl (gn rfl rfl rfl b299) ⟨m298, trivial⟩ (MT.n rfl rfl (gn rfl rfl rfl b299) trivial (mtv rfl rfl (ptk (.bool true) rfl b299 rfl) (mtv rfl rfl (mvv (.bool true) rfl) (MT.n rfl rfl (gn rfl rfl rfl rfl) trivial (MT.n rfl rfl (gn rfl rfl rfl rfl) trivial (MT.n rfl rfl (gn rfl rfl rfl rfl) trivial (MT.n rfl rfl (gn rfl rfl rfl rfl) trivial ?_)))))))))))
                  refine MT.n rfl rfl (gn rfl rfl rfl rfl) ⟨m298, trivial⟩ (MT.n rfl rfl (gn rfl rfl rfl rfl) trivial (mtv rfl rfl (ptk (.bool true) rfl rfl rfl) (mtv rfl rfl (mvv (.bool true) rfl) (MT.n rfl rfl (gn rfl rfl rfl rfl) trivial (MT.n rfl rfl (gn rfl rfl rfl rfl) trivial (MT.n rfl rfl (gn rfl rfl rfl rfl) trivial (MT.n rfl rfl (gn rfl rfl rfl rfl) trivial (MT.n rfl rfl (gn rfl rfl rfl rfl) ⟨m298, trivial⟩ (MT.n rfl rfl (gn rfl rfl rfl rfl) trivial (MT.m rfl rfl (gn rfl rfl rfl rfl) ⟨m298, trivial⟩ (MT.n rfl rfl (gn rfl rfl rfl rfl) trivial ?_)))))))))))
                  refine mtv rfl rfl (ptk (.bool true) rfl rfl rfl) (mtv rfl rfl (mvv (.bool true) rfl) (MT.n rfl rfl (gn rfl rfl rfl rfl) trivial (MT.n rfl rfl (gn rfl rfl rfl rfl) trivial (MT.m rfl rfl (gn rfl rfl rfl rfl) ⟨m298, trivial⟩ (MT.m rfl rfl (gn rfl rfl rfl rfl) ⟨m298, trivial⟩ (MT.m rfl rfl (gn rfl rfl rfl rfl) ⟨m298, trivial⟩ (MT.n rfl rfl (gn rfl rfl rfl rfl) trivial (mtv rfl rfl (ptk (.bool true) rfl rfl rfl) (mtv rfl rfl (mvv (.bool true) rfl) (MT.n rfl rfl (gn rfl rfl rfl rfl) trivial (MT.n rfl rfl (gn rfl rfl rfl rfl) trivial ?_)))))))))))
                  refine MT.n rfl rfl (gn rfl rfl rfl rfl) ⟨m298, trivial⟩ (MT.n rfl rfl (gn rfl rfl rfl rfl) trivial (MT.n rfl rfl (gn rfl rfl rfl rfl) trivial (MT.n rfl rfl (gn rfl rfl rfl rfl) ⟨m298, trivial⟩ (MT.m rfl rfl (gn rfl rfl rfl rfl) ⟨m298, trivial⟩ (MT.m rfl rfl (gn rfl rfl rfl rfl) ⟨m298, trivial⟩ (MT.m rfl rfl (gn rfl rfl rfl rfl) ⟨m298, trivial⟩ (MT.n rfl rfl (gn rfl rfl rfl rfl) trivial (mtv rfl rfl (ptk (.bool true) rfl rfl rfl) (MT.e ?_)))))))))
                  obtain rfl := Option.some.inj h295
                  exact ⟨_, C, ⟨rfl, rfl, rfl, rfl, rfl, rfl, rfl, trivial⟩, h76, h273, h277, p283⟩
                · refine MT.vv rfl rfl (gy rfl rfl rfl b299) (mvv (.int .i64 y287.1) rfl) (MT.vv rfl rfl (gy rfl rfl rfl b299) (mvv v30 rfl) ?_)
                  obtain ⟨y300, h301, h295⟩ := bnd_some h295
                  have h302 := h277
                  rw [h301] at h302
                  replace h302 : Ob 62 (marigraphref11_Head.fs y300) _ _ _ _ _ := h302
                  have h302d := h302
                  refine MT.vv rfl rfl (gy rfl rfl rfl b299) (rv_nilcheck rfl h302.ptr) (MT.vv rfl rfl (gy rfl rfl rfl b299) (rv_fieldAddr (b := pb v30) (o := 0) st62 rfl h302.ptr) (MT.r rfl rfl (gy rfl rfl rfl b299) ⟨m298, trivial⟩ (fun w' hq => rw_ofieldU (i := 2) (c := .int .i64 y300.Last) h302 (hq.1.mono fun _ _ => trivial) ag3 (h302.sc (i := 2) rfl) rfl) (MT.vv rfl rfl (gy rfl rfl rfl b299) (rv_neq rfl rfl) (mtv rfl rfl (pfk (.bool (y287.1 != y300.Last)) rfl b299 rfl) (mtv rfl rfl (mvv (.bool (y287.1 != y300.Last)) rfl) ?_)))))
                  rcases bif_some h295 with ⟨b303, h295⟩ | ⟨b303, h295⟩
                  · refine MT.n rfl rfl (gn rfl rfl rfl b303) trivial (MT.n rfl rfl (gn rfl rfl rfl b303) trivial (MT.n rfl rfl (gn rfl rfl rfl b303) trivial (MT.n rfl rfl (gn rfl rfl rfl b303) trivial (MT.n rfl rfl (gn rfl rfl rfl b303) ⟨m298, trivial⟩ (MT.n rfl rfl (gn rfl rfl rfl b303) trivial (mtv rfl rfl (ptk (.bool true) rfl b303 rfl) (mtv rfl rfl (mvv (.bool true) rfl) (MT.n rfl rfl (gn rfl rfl rfl rfl) trivial (MT.n rfl rfl (gn rfl rfl rfl rfl) trivial (MT.n rfl rfl (gn rfl rfl rfl rfl) trivial (MT.n rfl rfl (gn rfl rfl rfl rfl) trivial ?_)))))))))))
                    refine MT.n rfl rfl (gn rfl rfl rfl rfl) ⟨m298, trivial⟩ (MT.n rfl rfl (gn rfl rfl rfl rfl) trivial (MT.m rfl rfl (gn rfl rfl rfl rfl) ⟨m298, trivial⟩ (MT.n rfl rfl (gn rfl rfl rfl rfl) trivial (mtv rfl rfl (ptk (.bool true) rfl rfl rfl) (mtv rfl rfl (mvv (.bool true) rfl) (MT.n rfl rfl (gn rfl rfl rfl rfl) trivial (MT.n rfl rfl (gn rfl rfl rfl rfl) trivial (MT.m rfl rfl (gn rfl rfl rfl rfl) ⟨m298, trivial⟩ (MT.m rfl rfl (gn rfl rfl rfl rfl) ⟨m298, trivial⟩ (MT.m rfl rfl (gn rfl rfl rfl rfl) ⟨m298, trivial⟩ (MT.n rfl rfl (gn rfl rfl rfl rfl) trivial ?_)))))))))))
                    refine mtv rfl rfl (ptk (.bool true) rfl rfl rfl) (mtv rfl rfl (mvv (.bool true) rfl) (MT.n rfl rfl (gn rfl rfl rfl rfl) trivial (MT.n rfl rfl (gn rfl rfl rfl rfl) trivial (MT.n rfl rfl (gn rfl rfl rfl rfl) ⟨m298, trivial⟩ (MT.n rfl rfl (gn rfl rfl rfl rfl) trivial (MT.n rfl rfl (gn rfl rfl rfl rfl) trivial (MT.n rfl rfl (gn rfl rfl rfl rfl) ⟨m298, trivial⟩ (MT.m rfl rfl (gn rfl rfl rfl rfl) ⟨m298, trivial⟩ (MT.m rfl rfl (gn rfl rfl rfl rfl) ⟨m298, trivial⟩ (MT.m rfl rfl (gn rfl rfl rfl rfl) ⟨m298, trivial⟩ (MT.n rfl rfl (gn rfl rfl rfl rfl) trivial ?_)))))))))))
                    refine mtv rfl rfl (ptk (.bool true) rfl rfl rfl) (MT.e ?_)
                    obtain rfl := Option.some.inj h295
                    exact ⟨_, C, ⟨rfl, rfl, rfl, rfl, rfl, rfl, rfl, trivial⟩, h76, h273, h277, p283⟩
                  · refine MT.vv rfl rfl (gy rfl rfl rfl b303) (mvv (.bool y287.2) rfl) (MT.vv rfl rfl (gy rfl rfl rfl b303) (mvv v30 rfl) (MT.vv rfl rfl (gy rfl rfl rfl b303) (rv_nilcheck rfl h302.ptr) (MT.vv rfl rfl (gy rfl rfl rfl b303) (rv_fieldAddr (b := pb v30) (o := 0) st62 rfl h302.ptr) (MT.r rfl rfl (gy rfl rfl rfl b303) ⟨m298, trivial⟩ (fun w' hq => rw_ofieldU (i := 3) (c := .bool y300.Any) h302 (hq.1.mono fun _ _ => trivial) ag4 (h302.sc (i := 3) rfl) rfl) (MT.vv rfl rfl (gy rfl rfl rfl b303) (rv_bneq Try.underlying4 rfl rfl) (mtv rfl rfl (pfk (.bool (!(y287.2 == y300.Any))) rfl b303 rfl) (mtv rfl rfl (mvv (.bool (!(y287.2 == y300.Any))) rfl) ?_)))))))
                    rcases bif_some h295 with ⟨b304, h295⟩ | ⟨b304, h295⟩
                    · refine MT.n rfl rfl (gn rfl rfl rfl b304) trivial (MT.n rfl rfl (gn rfl rfl rfl b304) trivial (MT.n rfl rfl (gn rfl rfl rfl b304) trivial (MT.n rfl rfl (gn rfl rfl rfl b304) trivial (MT.n rfl rfl (gn rfl rfl rfl b304) ⟨m298, trivial⟩ (MT.n rfl rfl (gn rfl rfl rfl b304) trivial (MT.m rfl rfl (gn rfl rfl rfl b304) ⟨m298, trivial⟩ (MT.n rfl rfl (gn rfl rfl rfl b304) trivial (mtv rfl rfl (ptk (.bool true) rfl b304 rfl) (mtv rfl rfl (mvv (.bool true) rfl) (MT.n rfl rfl (gn rfl rfl rfl rfl) trivial (MT.n rfl rfl (gn rfl rfl rfl rfl) trivial ?_)))))))))))
                      refine MT.m rfl rfl (gn rfl rfl rfl rfl) ⟨m298, trivial⟩ (MT.m rfl rfl (gn rfl rfl rfl rfl) ⟨m298, trivial⟩ (MT.m rfl rfl (gn rfl rfl rfl rfl) ⟨m298, trivial⟩ (MT.n rfl rfl (gn rfl rfl rfl rfl) trivial (mtv rfl rfl (ptk (.bool true) rfl rfl rfl) (mtv rfl rfl (mvv (.bool true) rfl) (MT.n rfl rfl (gn rfl rfl rfl rfl) trivial (MT.n rfl rfl (gn rfl rfl rfl rfl) trivial (MT.n rfl rfl (gn rfl rfl rfl rfl) ⟨m298, trivial⟩ (MT.n rfl rfl (gn rfl rfl rfl rfl) trivial (MT.n rfl rfl (gn rfl rfl rfl rfl) trivial (MT.n rfl rfl (gn rfl rfl rfl rfl) ⟨m298, trivial⟩ ?_)))))))))))
                      refine MT.m rfl rfl (gn rfl rfl rfl rfl) ⟨m298, trivial⟩ (MT.m rfl rfl (gn rfl rfl rfl rfl) ⟨m298, trivial⟩ (MT.m rfl rfl (gn rfl rfl rfl rfl) ⟨m298, trivial⟩ (MT.n rfl rfl (gn rfl rfl rfl rfl) trivial (mtv rfl rfl (ptk (.bool true) rfl rfl rfl) (MT.e ?_)))))
                      obtain rfl := Option.some.inj h295
                      exact ⟨_, C, ⟨rfl, rfl, rfl, rfl, rfl, rfl, rfl, trivial⟩, h76, h273, h277, p283⟩
                    · refine MT.vv rfl rfl (gy rfl rfl rfl b304) (mvv v17 rfl) (MT.vv rfl rfl (gy rfl rfl rfl b304) (mvv v30 rfl) (MT.vv rfl rfl (gy rfl rfl rfl b304) (rv_nilcheck rfl h302.ptr) (MT.vv rfl rfl (gy rfl rfl rfl b304) (rv_fieldAddr (b := pb v30) (o := 0) st62 rfl h302.ptr) ?_)))
                      obtain ⟨c305, h306, h307⟩ := h302.sl (i := 1) rfl
                      refine MT.r rfl rfl (gy rfl rfl rfl b304) ⟨m298, trivial⟩ (fun w' hq => rw_ofieldU (i := 1) (c := c305) h302 (hq.1.mono fun _ _ => trivial) ag38 h306 rfl) (MT.vv rfl rfl (gy rfl rfl rfl b304) (rv_lenS el38 h307 rfl) ?_)
                      obtain ⟨y308, h309, h295⟩ := bnd_some h295
                      refine MT.c rfl rfl (gy rfl rfl rfl b304) (dc_call (vs := [v17]) can13 rfl ?_)
                      refine (head_Head_Len_w C.sb h273 h309).mono ?_
                      rintro _ w310 ⟨S311, rfl, c312⟩
                      refine ⟨_, rfl, ?_⟩
                      replace h273 := h273.cx c312
                      replace h302 := h302.cx c312
                      replace h277 := h277.cx c312
                      replace h121 := h121.cx c312
                      replace h76 := h76.cx c312
                      replace C := C.trans c312
                      have z313 := (c312.up).size
                      have m314 := m298.nx c312.up (by omega)
                      refine ⟨⟨m314, trivial⟩, ?_⟩
                      refine MT.vv rfl rfl (gy rfl rfl rfl b304) (rv_neq rfl rfl) (mtv rfl rfl (pfk (.bool (y308 != (y300.L.length : Int))) rfl b304 rfl) (mtv rfl rfl (mvv (.bool (y308 != (y300.L.length : Int))) rfl) ?_))
                      rcases bif_some h295 with ⟨b315, h295⟩ | ⟨b315, h295⟩
                      · refine MT.n rfl rfl (gn rfl rfl rfl b315) trivial (MT.n rfl rfl (gn rfl rfl rfl b315) trivial (MT.m rfl rfl (gn rfl rfl rfl b315) ⟨m314, trivial⟩ (MT.m rfl rfl (gn rfl rfl rfl b315) ⟨m314, trivial⟩ (MT.m rfl rfl (gn rfl rfl rfl b315) ⟨m314, trivial⟩ (MT.n rfl rfl (gn rfl rfl rfl b315) trivial (mtv rfl rfl (ptk (.bool true) rfl b315 rfl) (mtv rfl rfl (mvv (.bool true) rfl) (MT.n rfl rfl (gn rfl rfl rfl rfl) trivial (MT.n rfl rfl (gn rfl rfl rfl rfl) trivial (MT.n rfl rfl (gn rfl rfl rfl rfl) ⟨m314, trivial⟩ (MT.n rfl rfl (gn rfl rfl rfl rfl) trivial ?_)))))))))))
                        refine MT.n rfl rfl (gn rfl rfl rfl rfl) trivial (MT.n rfl rfl (gn rfl rfl rfl rfl) ⟨m314, trivial⟩ (MT.m rfl rfl (gn rfl rfl rfl rfl) ⟨m314, trivial⟩ (MT.m rfl rfl (gn rfl rfl rfl rfl) ⟨m314, trivial⟩ (MT.m rfl rfl (gn rfl rfl rfl rfl) ⟨m314, trivial⟩ (MT.n rfl rfl (gn rfl rfl rfl rfl) trivial (mtv rfl rfl (ptk (.bool true) rfl rfl rfl) (MT.e ?_)))))))
                        obtain rfl := Option.some.inj h295
                        exact ⟨_, C, ⟨rfl, rfl, rfl, rfl, rfl, rfl, rfl, trivial⟩, h76, h273, h277, p283⟩
                      · refine MT.vv rfl rfl (gy rfl rfl rfl b315) (mvv v17 rfl) (MT.vv rfl rfl (gy rfl rfl rfl b315) (mvv v30 rfl) ?_)
                        obtain ⟨y316, h317, h295⟩ := bnd_some h295
                        refine MT.c rfl rfl (gy rfl rfl rfl b315) (dc_call (vs := [v17]) can20 rfl ?_)
                        refine (head_Head_Ids_w C.sb h273 h317).mono ?_
                        rintro _ w318 ⟨S319, v321, rfl, c320, h322⟩
                        refine ⟨_, rfl, ?_⟩
                        have p323 := ap_fresh (fun b hb => (h322.lt b hb).1) (fun b hb => (h273.lt b hb).1)
                        have p324 := ap_fresh (fun b hb => (h322.lt b hb).1) (fun b hb => (h302.lt b hb).1)
                        have p325 := ap_fresh (fun b hb => (h322.lt b hb).1) (fun b hb => (h121.lt b hb).2)
                        replace h322 := h322.base C.up.size
                        replace h273 := h273.cx c320
                        replace h302 := h302.cx c320
                        replace h277 := h277.cx c320
                        replace h121 := h121.cx c320
                        replace h76 := h76.cx c320
                        replace C := C.trans c320
                        have z326 := (c320.up).size
                        have m327 := m314.nx c320.up (by omega)
                        refine ⟨⟨m327, trivial⟩, ?_⟩
                        obtain ⟨y328, h329, h295⟩ := bnd_some h295
                        refine MT.c rfl rfl (gy rfl rfl rfl b315) (dc_call (vs := [v30]) can28 rfl ?_)
                        refine (marigraphref11_Head_Ids_w C.sb h302 h329).mono ?_
                        rintro _ w330 ⟨S331, v333, rfl, c332, h334⟩
                        refine ⟨_, rfl, ?_⟩
                        have p335 := ap_fresh (fun b hb => (h334.lt b hb).1) (fun b hb => (h273.lt b hb).1)
                        have p336 := ap_fresh (fun b hb => (h334.lt b hb).1) (fun b hb => (h302.lt b hb).1)
                        have p337 := ap_fresh (fun b hb => (h334.lt b hb).1) (fun b hb => (h121.lt b hb).2)
                        have p338 := ap_fresh (fun b hb => (h334.lt b hb).1) (fun b hb => (h322.lt b hb).2)
                        replace h334 := h334.base C.up.size
                        replace h273 := h273.cx c332
                        replace h302 := h302.cx c332
                        replace h277 := h277.cx c332
                        replace h121 := h121.cx c332
                        replace h76 := h76.cx c332
                        replace h322 := h322.cx c332
                        replace C := C.trans c332
                        have z339 := (c332.up).size
                        have m340 := m327.nx c332.up (by omega)
                        refine ⟨⟨m340, trivial⟩, ?_⟩
                        replace h273 := h273.or (ap_symm p323)
                        replace h302 := h302.or (ap_symm p324)
                        replace h277 := h277.or (ap_symm p324)
                        replace h121 := h121.or (ap_symm p325)
                        replace h76 := h76.or (T := Blk v321)
                        replace h334 := h334.or p338
                        replace C := C.sealO h322
                        replace h322 := h322.sealed
                        replace h273 := h273.or (ap_symm p335)
                        replace h302 := h302.or (ap_symm p336)
                        replace h277 := h277.or (ap_symm p336)
                        replace h121 := h121.or (ap_symm p337)
                        replace h76 := h76.or (T := Blk v333)
                        replace h322 := h322.or (T := Blk v333)
                        replace C := C.sealO h334
                        replace h334 := h334.sealed
                        obtain ⟨y341, h342, h295⟩ := bnd_some h295
                        refine MT.c rfl rfl (gy rfl rfl rfl b315) (dc_call (vs := [v321, v333]) can27 rfl ?_)
                        refine (marigraphref04_Ints_w C.sb h322 h334 h342).mono ?_
                        rintro _ w343 ⟨S344, rfl, c345⟩
                        refine ⟨_, rfl, ?_⟩
                        replace h273 := h273.cx c345
                        replace h302 := h302.cx c345
                        replace h277 := h277.cx c345
                        replace h121 := h121.cx c345
                        replace h76 := h76.cx c345
                        replace C := C.trans c345
                        have z346 := (c345.up).size
                        have m347 := m340.nx c345.up (by omega)
                        refine ⟨⟨m347, trivial⟩, ?_⟩
                        refine MT.vv rfl rfl (gy rfl rfl rfl b315) (rv_not rfl) (mtv rfl rfl (pfk (.bool (!y341)) rfl b315 rfl) (mtv rfl rfl (mvv (.bool (!y341)) rfl) ?_))
                        rcases bif_some h295 with ⟨b348, h295⟩ | ⟨b348, h295⟩
                        · refine MT.n rfl rfl (gn rfl rfl rfl b348) trivial (MT.n rfl rfl (gn rfl rfl rfl b348) trivial (MT.n rfl rfl (gn rfl rfl rfl b348) ⟨m347, trivial⟩ (MT.n rfl rfl (gn rfl rfl rfl b348) trivial (MT.n rfl rfl (gn rfl rfl rfl b348) trivial (MT.n rfl rfl (gn rfl rfl rfl b348) ⟨m347, trivial⟩ (MT.m rfl rfl (gn rfl rfl rfl b348) ⟨m347, trivial⟩ (MT.m rfl rfl (gn rfl rfl rfl b348) ⟨m347, trivial⟩ (MT.m rfl rfl (gn rfl rfl rfl b348) ⟨m347, trivial⟩ (MT.n rfl rfl (gn rfl rfl rfl b348) trivial (mtv rfl rfl (ptk (.bool true) rfl b348 rfl) (MT.e ?_)))))))))))
                          obtain rfl := Option.some.inj h295
                          exact ⟨_, C, ⟨rfl, rfl, rfl, rfl, rfl, rfl, rfl, trivial⟩, h76, h273, h277, p283⟩
                        · refine MT.vv rfl rfl (gy rfl rfl rfl b348) (mvv v17 rfl) (MT.vv rfl rfl (gy rfl rfl rfl b348) (rv_fieldAddr st41 rfl rfl) ?_)
                          obtain ⟨cs349, h350, h351⟩ := Ow.cellsO h121d (show at_ [y118] (0 : Int) = some y118 from rfl)
                          obtain rfl := marigraphlaw11_Act.r.1 h350
                          refine MT.r rfl rfl (gy rfl rfl rfl b348) ⟨m347, trivial⟩ (fun w' hq => rw_el1 (off := 1) ag3 (h351 w' (hq.1.mono fun _ _ => trivial)) rfl rfl) (MT.vv rfl rfl (gy rfl rfl rfl b348) (mvv v30 rfl) (MT.vv rfl rfl (gy rfl rfl rfl b348) (rv_fieldAddr st41 rfl rfl) ?_))
                          obtain ⟨cs352, h353, h354⟩ := Ow.cellsO h121d (show at_ [y118] (0 : Int) = some y118 from rfl)
                          obtain rfl := marigraphlaw11_Act.r.1 h353
                          refine MT.r rfl rfl (gy rfl rfl rfl b348) ⟨m347, trivial⟩ (fun w' hq => rw_el1 (off := 1) ag3 (h354 w' (hq.1.mono fun _ _ => trivial)) rfl rfl) ?_
                          obtain ⟨y355, h356, h295⟩ := bnd_some h295
                          refine MT.c rfl rfl (gy rfl rfl rfl b348) (dc_call (vs := [v17, .int .i64 y118.Id]) can16 rfl ?_)
                          refine (head_Head_Points_w C.sb h273 h356).mono ?_
                          rintro _ w357 ⟨S358, v360, rfl, c359, h361⟩
                          refine ⟨_, rfl, ?_⟩
                          have p362 := ap_fresh (fun b hb => (h361.lt b hb).1) (fun b hb => (h273.lt b hb).1)
                          have p363 := ap_fresh (fun b hb => (h361.lt b hb).1) (fun b hb => (h302.lt b hb).1)
                          replace h361 := h361.base C.up.size
                          replace h273 := h273.cx c359
                          replace h76 := h76.cx c359
                          replace h302 := h302.cx c359
                          replace h277 := h277.cx c359
                          replace C := C.trans c359
                          have z364 := (c359.up).size
                          have m365 := m347.nx c359.up (by omega)
                          refine ⟨⟨m365, trivial⟩, ?_⟩
                          obtain ⟨y366, h367, h295⟩ := bnd_some h295
                          refine MT.c rfl rfl (gy rfl rfl rfl b348) (dc_call (vs := [v30, .int .i64 y118.Id]) can29 rfl ?_)
                          refine (marigraphref11_Head_Points_w C.sb h302 h367).mono ?_
                          rintro _ w368 ⟨S369, v371, rfl, c370, h372⟩
                          refine ⟨_, rfl, ?_⟩
                          have p373 := ap_fresh (fun b hb => (h372.lt b hb).1) (fun b hb => (h273.lt b hb).1)
                          have p374 := ap_fresh (fun b hb => (h372.lt b hb).1) (fun b hb => (h302.lt b hb).1)
                          have p375 := ap_fresh (fun b hb => (h372.lt b hb).1) (fun b hb => (h361.lt b hb).2)
                          replace h372 := h372.base C.up.size
                          replace h273 := h273.cx c370
                          replace h76 := h76.cx c370
                          replace h302 := h302.cx c370
                          replace h277 := h277.cx c370
                          replace h361 := h361.cx c370
                          replace C := C.trans c370
                          have z376 := (c370.up).size
                          have m377 := m365.nx c370.up (by omega)
                          refine ⟨⟨m377, trivial⟩, ?_⟩
                          replace h372 := h372.or p375
                          replace h273 := h273.or (ap_symm p362)
                          replace h76 := h76.or (T := Blk v360)
                          replace h302 := h302.or (ap_symm p363)
                          replace h277 := h277.or (ap_symm p363)
                          replace C := C.sealO h361
                          replace h361 := h361.sealed
                          replace h273 := h273.or (ap_symm p373)
                          replace h76 := h76.or (T := Blk v371)
                          replace h302 := h302.or (ap_symm p374)
                          replace h277 := h277.or (ap_symm p374)
                          replace h361 := h361.or (T := Blk v371)
                          replace C := C.sealO h372
                          replace h372 := h372.sealed
                          obtain ⟨y378, h379, h295⟩ := bnd_some h295
                          refine MT.c rfl rfl (gy rfl rfl rfl b348) (dc_call (vs := [v360, v371]) can15 rfl ?_)
                          refine (marigraphref04_Same_w C.sb h361 h372 h379).mono ?_
                          rintro _ w380 ⟨S381, rfl, c382⟩
                          refine ⟨_, rfl, ?_⟩
                          replace h273 := h273.cx c382
                          replace h76 := h76.cx c382
                          replace h302 := h302.cx c382
                          replace h277 := h277.cx c382
                          replace C := C.trans c382
                          have z383 := (c382.up).size
                          have m384 := m377.nx c382.up (by omega)
                          refine ⟨⟨m384, trivial⟩, ?_⟩
                          refine MT.vv rfl rfl (gy rfl rfl rfl b348) (rv_not rfl) (mtv rfl rfl (pfk (.bool (!y378)) rfl b348 rfl) (MT.e ?_))
                          obtain rfl := Option.some.inj h295
                          exact ⟨_, C, ⟨rfl, rfl, rfl, rfl, rfl, rfl, rfl, trivial⟩, h76, h273, h277, p283⟩
              · rintro ρ w386 ⟨S385, C, h388, h76, h273, h277, p387⟩
                refine h388.cw fun ρ => ?_
                clear h388
                rcases bif_some h103 with ⟨b389, h103⟩ | ⟨b389, h103⟩
                · refine cw_t rfl b389 ?_
                  refine cw_seq fun K390 k391 => ?_
                  refine cw_region (sv (asv (.bool false) rfl) (W.e (k391 _ _ (cw_ret ?_))))
                  obtain rfl := Option.some.inj h103
                  replace h94 := h94.2 _ rfl
                  obtain rfl := Option.some.inj h94
                  have h392 := congrArg some h93
                  obtain rfl := Option.some.inj h392
                  replace h := h.2 _ rfl
                  obtain rfl := Option.some.inj h
                  exact ⟨_, rfl, _, rfl, C⟩
                · refine cw_f rfl b389 (cw_skip ?_)
                  obtain rfl := Option.some.inj h103
                  exact ⟨_, rfl, ⟨_, _, _, _, _, C, ⟨rfl, rfl, rfl, rfl, rfl, rfl, trivial⟩, h76, h273, h275, h277, h279, p387⟩⟩
          · rintro ρ w394 ⟨o100n, rfl, ⟨S393, fp396, cs398, fp400, cs402, C, h404, h76, h395, h397, h399, h401, p403⟩⟩
            replace h94 := h94.1 _ rfl
            refine h404.cw fun ρ => ?_
            clear h404
            refine cw_region ?_
            obtain ⟨y405, h406, h94⟩ := pur_some h94
            refine sv (rv_add rfl rfl h406) (sv (mvv (.int .i64 y405) rfl) (W.e ?_))
            obtain rfl := Option.some.inj h94
            exact ⟨_, rfl, ⟨_, _, _, _, _, C, ⟨rfl, rfl, rfl, rfl, rfl, rfl, trivial⟩, h76, h395, h397, h399, h401, p403⟩⟩
        · refine cw_f rfl b99 (cw_exit ?_)
          obtain rfl := Option.some.inj h94
          have h407 := congrArg some h93
          obtain rfl := Option.some.inj h407
          exact ⟨_, rfl, ⟨_, C, ⟨rfl, trivial⟩⟩⟩
      · rintro ρ w409 ⟨o64n, rfl, ⟨S408, C, h410⟩⟩
        replace h := h.1 _ rfl
        refine h410.cw fun ρ => ?_
        clear h410
        refine cw_seq fun K411 k412 => ?_
        refine cw_region (sv (mvv (.bool y5) rfl) (sv (asv (.bool y5) rfl) (W.e (k412 _ _ (cw_ret ?_)))))
        obtain rfl := Option.some.inj h
        exact ⟨_, rfl, _, rfl, C⟩

noncomputable def marigraphlaw11_HeadNil (a0 : marigraphlaw11_Act) : Option Bool :=
  ((marigraphlaw11_shown).bind fun y11 => ((head_Head_Last none).bind fun y20 => ((bif y11 then ((head_Head_Add none a0.Id a0.P).bind fun y30 => (bif (y30.1 == (2 : Int)) then ((head_Head_Points none a0.Id).bind fun y38 => (bif ((y38.length : Int) == (0 : Int)) then (bif (y20.1 == (0 : Int)) then (bif (!y20.2) then ((head_Head_Len none).bind fun y48 => (bif (y48 == (0 : Int)) then ((head_Head_Ids none).bind fun y54 => (bif ((y54.length : Int) == (0 : Int)) then ((head_Head_Seal none).bind fun y62 => (bif ((y62.1.length : Int) == (0 : Int)) then ((head_Head_Drop none a0.Id).bind fun y72 => some (y72.1 == (0 : Int))) else some false)) else some false)) else some false)) else some false) else some false) else some false)) else some false)) else some false).bind fun o25 => some o25)))
set_option maxRecDepth 100000 in
set_option maxHeartbeats 4000000 in
theorem marigraphlaw11_HeadNil_w {S : Nat → Prop} {w : World} {a0 : marigraphlaw11_Act} {v0 : Value} {r : Bool} (hS : Sb S w) (h0 : Sl marigraphlaw11_Act.k S w v0 a0) (h : marigraphlaw11_HeadNil a0 = some r) :
    Calls Try.prog 9 (List.toArray [v0]) w fun e w1 => ∃ S1, e = .returned (.bool r) ∧ Cx No S w S1 w1 := by
  refine enter Try.func9 rfl (by kernel_rfl) rfl ?_
  have C := Cx.refl (F := No) hS
  unfold marigraphlaw11_HeadNil at h
  obtain rfl := marigraphlaw11_Act.o.1 h0
  refine cw_seq fun K1 k2 => ?_
  refine cw_region ?_
  refine sc (dc_boxS C.sb rfl fun b3 S4 w5 c6 h7 => ?_)
  replace C := C.trans c6
  refine sv (asv (.bool false) rfl) (W.e (k2 _ _ ?_))
  refine cw_seq fun K9 k10 => ?_
  refine cw_region ?_
  obtain ⟨y11, h12, h⟩ := bnd_some h
  refine sc (dc_call (vs := []) can10 rfl ?_)
  refine (marigraphlaw11_shown_w C.sb  h12).mono ?_
  rintro _ w13 ⟨S14, rfl, c15⟩
  refine ⟨_, rfl, ?_⟩
  replace h7 := h7.cx c15
  replace C := C.trans c15
  refine sv (asv (.bool y11) rfl) (W.e (k10 _ _ ?_))
  refine cw_seq fun K16 k17 => ?_
  refine cw_region (sv (asv (.pointer none) rfl) (W.e (k17 _ _ ?_)))
  refine cw_seq fun K18 k19 => ?_
  refine cw_region (sv (mvv (.pointer none) rfl) ?_)
  obtain ⟨y20, h21, h⟩ := bnd_some h
  refine sc (dc_call (vs := [.pointer none]) can21 rfl ?_)
  refine (head_Head_Last_w C.sb (show Obo 67 head_Head.fs S14 w13 (.pointer none) none [] [] from ⟨rfl, rfl, rfl⟩) h21).mono ?_
  rintro _ w22 ⟨S23, rfl, c24⟩
  refine ⟨_, rfl, ?_⟩
  replace h7 := h7.cx c24
  replace C := C.trans c24
  refine sv (mvv (.tuple (List.toArray [.int .i64 y20.1, .bool y20.2])) rfl) (sv (rv_extract rfl rfl) (sv (rv_extract rfl rfl) (sv (asv (.int .i64 y20.1) rfl) (sv (asv (.bool y20.2) rfl) (W.e (k19 _ _ ?_))))))
  obtain ⟨o25, h28, h⟩ := bnd_some h
  refine cw_seq' (fun ρ w1 => ∃ S1, Cx No S w S1 w1 ∧ Has ρ [(2, .bool o25)]) ?_ ?_
  · refine cw_region (sv (mvv (.bool y11) rfl) (sv (mvv (.bool y11) rfl) ?_))
    rcases bif_some h28 with ⟨b29, h28⟩ | ⟨b29, h28⟩
    · refine W.v (gy rfl rfl rfl b29) (mvv (.pointer none) rfl) (W.v (gy rfl rfl rfl b29) (rv_fieldAddr st41 rfl rfl) (W.r (gy rfl rfl rfl b29) (rw_bk ag3 h7.2 rfl rfl) (W.v (gy rfl rfl rfl b29) (rv_fieldAddr st41 rfl rfl) (W.r (gy rfl rfl rfl b29) (rw_bkA ag29 h7.2 rfl rfl rfl) ?_))))
      obtain ⟨y30, h31, h28⟩ := bnd_some h28
      refine W.c (gy rfl rfl rfl b29) (dc_call (vs := [.pointer none, .int .i64 a0.Id, .agg (List.toArray [.int .i64 a0.P.T, .int .i64 a0.P.V])]) can12 rfl ?_)
      refine (head_Head_Add_w C.sb (show Obo 67 head_Head.fs S23 w22 (.pointer none) none [] [] from ⟨rfl, rfl, rfl⟩) (api_Point.o.2 rfl) h31).mono ?_
      rintro _ w32 ⟨S33, cs35, fp36, rfl, c34, _, _⟩
      refine ⟨_, rfl, ?_⟩
      replace c34 := c34.f (G := No) fun b _ hb => (by cases hb)
      replace h7 := h7.cx c34
      replace C := C.trans c34
      skip
      refine W.v (gy rfl rfl rfl b29) (rv_eql rfl rfl) (sv (ptk (.bool (y30.1 == (2 : Int))) rfl b29 rfl) (sv (mvv (.bool (y30.1 == (2 : Int))) rfl) ?_))
      rcases bif_some h28 with ⟨b37, h28⟩ | ⟨b37, h28⟩
      · refine W.v (gy rfl rfl rfl b37) (mvv (.pointer none) rfl) (W.v (gy rfl rfl rfl b37) (rv_fieldAddr st41 rfl rfl) (W.r (gy rfl rfl rfl b37) (rw_bk ag3 h7.2 rfl rfl) ?_))
        obtain ⟨y38, h39, h28⟩ := bnd_some h28
        refine W.c (gy rfl rfl rfl b37) (dc_call (vs := [.pointer none, .int .i64 a0.Id]) can16 rfl ?_)
        refine (head_Head_Points_w C.sb (show Obo 67 head_Head.fs S33 w32 (.pointer none) none [] [] from ⟨rfl, rfl, rfl⟩) h39).mono ?_
        rintro _ w40 ⟨S41, v43, rfl, c42, h44⟩
        refine ⟨_, rfl, ?_⟩
        replace h44 := h44.base C.up.size
        replace h7 := h7.cx c42
        replace C := C.trans c42
        refine W.v (gy rfl rfl rfl b37) (rv_lenS el33 h44.sealed rfl) (W.v (gy rfl rfl rfl b37) (rv_eql rfl rfl) (sv (ptk (.bool ((y38.length : Int) == (0 : Int))) rfl b37 rfl) (sv (mvv (.bool ((y38.length : Int) == (0 : Int))) rfl) ?_)))
        rcases bif_some h28 with ⟨b45, h28⟩ | ⟨b45, h28⟩
        · refine W.v (gy rfl rfl rfl b45) (mvv (.int .i64 y20.1) rfl) (W.v (gy rfl rfl rfl b45) (rv_eql rfl rfl) (sv (ptk (.bool (y20.1 == (0 : Int))) rfl b45 rfl) (sv (mvv (.bool (y20.1 == (0 : Int))) rfl) ?_)))
          rcases bif_some h28 with ⟨b46, h28⟩ | ⟨b46, h28⟩
          · refine W.v (gy rfl rfl rfl b46) (mvv (.bool y20.2) rfl) (W.v (gy rfl rfl rfl b46) (rv_not rfl) (sv (ptk (.bool (!y20.2)) rfl b46 rfl) (sv (mvv (.bool (!y20.2)) rfl) ?_)))
            rcases bif_some h28 with ⟨b47, h28⟩ | ⟨b47, h28⟩
            · refine W.v (gy rfl rfl rfl b47) (mvv (.pointer none) rfl) ?_
              obtain ⟨y48, h49, h28⟩ := bnd_some h28
              refine W.c (gy rfl rfl rfl b47) (dc_call (vs := [.pointer none]) can13 rfl ?_)
              refine (head_Head_Len_w C.sb (show Obo 67 head_Head.fs S41 w40 (.pointer none) none [] [] from ⟨rfl, rfl, rfl⟩) h49).mono ?_
              rintro _ w50 ⟨S51, rfl, c52⟩
              refine ⟨_, rfl, ?_⟩
              replace h7 := h7.cx c52
              replace C := C.trans c52
              refine W.v (gy rfl rfl rfl b47) (rv_eql rfl rfl) (sv (ptk (.bool (y48 == (0 : Int))) rfl b47 rfl) (sv (mvv (.bool (y48 == (0 : Int))) rfl) ?_))
              rcases bif_some h28 with ⟨b53, h28⟩ | ⟨b53, h28⟩
              · refine W.v (gy rfl rfl rfl b53) (mvv (.pointer none) rfl) ?_
                obtain ⟨y54, h55, h28⟩ := bnd_some h28
                refine W.c (gy rfl rfl rfl b53) (dc_call (vs := [.pointer none]) can20 rfl ?_)
                refine (head_Head_Ids_w C.sb (show Obo 67 head_Head.fs S51 w50 (.pointer none) none [] [] from ⟨rfl, rfl, rfl⟩) h55).mono ?_
                rintro _ w56 ⟨S57, v59, rfl, c58, h60⟩
                refine ⟨_, rfl, ?_⟩
                replace h60 := h60.base C.up.size
                replace h7 := h7.cx c58
                replace C := C.trans c58
                refine W.v (gy rfl rfl rfl b53) (rv_lenS el51 h60.sealed rfl) (W.v (gy rfl rfl rfl b53) (rv_eql rfl rfl) (sv (ptk (.bool ((y54.length : Int) == (0 : Int))) rfl b53 rfl) (sv (mvv (.bool ((y54.length : Int) == (0 : Int))) rfl) ?_)))
                rcases bif_some h28 with ⟨b61, h28⟩ | ⟨b61, h28⟩
                · refine W.v (gy rfl rfl rfl b61) (mvv (.pointer none) rfl) ?_
                  obtain ⟨y62, h63, h28⟩ := bnd_some h28
                  refine W.c (gy rfl rfl rfl b61) (dc_call (vs := [.pointer none]) can14 rfl ?_)
                  refine (head_Head_Seal_w C.sb (show Obo 67 head_Head.fs S57 w56 (.pointer none) none [] [] from ⟨rfl, rfl, rfl⟩) h63).mono ?_
                  rintro _ w64 ⟨S65, v67, cs69, fp70, rfl, c66, h68, _, _⟩
                  refine ⟨_, rfl, ?_⟩
                  replace c66 := c66.f (G := No) fun b _ hb => (by cases hb)
                  replace h7 := h7.cx c66
                  replace C := C.trans c66
                  skip
                  refine W.v (gy rfl rfl rfl b61) (rv_lenS el31 h68 rfl) (W.v (gy rfl rfl rfl b61) (rv_eql rfl rfl) (sv (ptk (.bool ((y62.1.length : Int) == (0 : Int))) rfl b61 rfl) (sv (mvv (.bool ((y62.1.length : Int) == (0 : Int))) rfl) ?_)))
                  rcases bif_some h28 with ⟨b71, h28⟩ | ⟨b71, h28⟩
                  · refine W.v (gy rfl rfl rfl b71) (mvv (.pointer none) rfl) (W.v (gy rfl rfl rfl b71) (rv_fieldAddr st41 rfl rfl) (W.r (gy rfl rfl rfl b71) (rw_bk ag3 h7.2 rfl rfl) ?_))
                    obtain ⟨y72, h73, h28⟩ := bnd_some h28
                    refine W.c (gy rfl rfl rfl b71) (dc_call (vs := [.pointer none, .int .i64 a0.Id]) can19 rfl ?_)
                    refine (head_Head_Drop_w C.sb (show Obo 67 head_Head.fs S65 w64 (.pointer none) none [] [] from ⟨rfl, rfl, rfl⟩) h73).mono ?_
                    rintro _ w74 ⟨S75, cs77, fp78, rfl, c76, _, _⟩
                    refine ⟨_, rfl, ?_⟩
                    replace c76 := c76.f (G := No) fun b _ hb => (by cases hb)
                    replace C := C.trans c76
                    skip
                    refine W.v (gy rfl rfl rfl b71) (rv_eql rfl rfl) (sv (ptk (.bool (y72.1 == (0 : Int))) rfl b71 rfl) (sv (asv (.bool (y72.1 == (0 : Int))) rfl) (W.e ?_)))
                    obtain rfl := Option.some.inj h28
                    exact ⟨_, C, ⟨rfl, trivial⟩⟩
                  · refine W.n (gn rfl rfl rfl b71) (W.n (gn rfl rfl rfl b71) (W.n (gn rfl rfl rfl b71) (W.n (gn rfl rfl rfl b71) (W.n (gn rfl rfl rfl b71) (sv (pfk (.bool false) rfl b71 rfl) (sv (asv (.bool false) rfl) (W.e ?_)))))))
                    obtain rfl := Option.some.inj h28
                    exact ⟨_, C, ⟨rfl, trivial⟩⟩
                · refine W.n (gn rfl rfl rfl b61) (W.n (gn rfl rfl rfl b61) (W.n (gn rfl rfl rfl b61) (W.n (gn rfl rfl rfl b61) (sv (pfk (.bool false) rfl b61 rfl) (sv (mvv (.bool false) rfl) (W.n (gn rfl rfl rfl rfl) (W.n (gn rfl rfl rfl rfl) (W.n (gn rfl rfl rfl rfl) (W.n (gn rfl rfl rfl rfl) (W.n (gn rfl rfl rfl rfl) (sv (pfk (.bool false) rfl rfl rfl) ?_)))))))))))
                  refine sv (asv (.bool false) rfl) (W.e ?_)
                  obtain rfl := Option.some.inj h28
                  exact ⟨_, C, ⟨rfl, trivial⟩⟩
              · refine W.n (gn rfl rfl rfl b53) (W.n (gn rfl rfl rfl b53) (W.n (gn rfl rfl rfl b53) (W.n (gn rfl rfl rfl b53) (sv (pfk (.bool false) rfl b53 rfl) (sv (mvv (.bool false) rfl) (W.n (gn rfl rfl rfl rfl) (W.n (gn rfl rfl rfl rfl) (W.n (gn rfl rfl rfl rfl) (W.n (gn rfl rfl rfl rfl) (sv (pfk (.bool false) rfl rfl rfl) (sv (mvv (.bool false) rfl) ?_)))))))))))
                refine W.n (gn rfl rfl rfl rfl) (W.n (gn rfl rfl rfl rfl) (W.n (gn rfl rfl rfl rfl) (W.n (gn rfl rfl rfl rfl) (W.n (gn rfl rfl rfl rfl) (sv (pfk (.bool false) rfl rfl rfl) (sv (asv (.bool false) rfl) (W.e ?_)))))))
                obtain rfl := Option.some.inj h28
                exact ⟨_, C, ⟨rfl, trivial⟩⟩
            · refine W.n (gn rfl rfl rfl b47) (W.n (gn rfl rfl rfl b47) (W.n (gn rfl rfl rfl b47) (sv (pfk (.bool false) rfl b47 rfl) (sv (mvv (.bool false) rfl) (W.n (gn rfl rfl rfl rfl) (W.n (gn rfl rfl rfl rfl) (W.n (gn rfl rfl rfl rfl) (W.n (gn rfl rfl rfl rfl) (sv (pfk (.bool false) rfl rfl rfl) (sv (mvv (.bool false) rfl) (W.n (gn rfl rfl rfl rfl) ?_)))))))))))
              refine W.n (gn rfl rfl rfl rfl) (W.n (gn rfl rfl rfl rfl) (W.n (gn rfl rfl rfl rfl) (sv (pfk (.bool false) rfl rfl rfl) (sv (mvv (.bool false) rfl) (W.n (gn rfl rfl rfl rfl) (W.n (gn rfl rfl rfl rfl) (W.n (gn rfl rfl rfl rfl) (W.n (gn rfl rfl rfl rfl) (W.n (gn rfl rfl rfl rfl) (sv (pfk (.bool false) rfl rfl rfl) (sv (asv (.bool false) rfl) ?_)))))))))))
              refine W.e ?_
              obtain rfl := Option.some.inj h28
              exact ⟨_, C, ⟨rfl, trivial⟩⟩
          · refine W.n (gn rfl rfl rfl b46) (W.n (gn rfl rfl rfl b46) (sv (pfk (.bool false) rfl b46 rfl) (sv (mvv (.bool false) rfl) (W.n (gn rfl rfl rfl rfl) (W.n (gn rfl rfl rfl rfl) (W.n (gn rfl rfl rfl rfl) (sv (pfk (.bool false) rfl rfl rfl) (sv (mvv (.bool false) rfl) (W.n (gn rfl rfl rfl rfl) (W.n (gn rfl rfl rfl rfl) (W.n (gn rfl rfl rfl rfl) ?_)))))))))))
            refine W.n (gn rfl rfl rfl rfl) (sv (pfk (.bool false) rfl rfl rfl) (sv (mvv (.bool false) rfl) (W.n (gn rfl rfl rfl rfl) (W.n (gn rfl rfl rfl rfl) (W.n (gn rfl rfl rfl rfl) (W.n (gn rfl rfl rfl rfl) (sv (pfk (.bool false) rfl rfl rfl) (sv (mvv (.bool false) rfl) (W.n (gn rfl rfl rfl rfl) (W.n (gn rfl rfl rfl rfl) (W.n (gn rfl rfl rfl rfl) ?_)))))))))))
            refine W.n (gn rfl rfl rfl rfl) (W.n (gn rfl rfl rfl rfl) (sv (pfk (.bool false) rfl rfl rfl) (sv (asv (.bool false) rfl) (W.e ?_))))
            obtain rfl := Option.some.inj h28
            exact ⟨_, C, ⟨rfl, trivial⟩⟩
        · refine W.n (gn rfl rfl rfl b45) (W.n (gn rfl rfl rfl b45) (sv (pfk (.bool false) rfl b45 rfl) (sv (mvv (.bool false) rfl) (W.n (gn rfl rfl rfl rfl) (W.n (gn rfl rfl rfl rfl) (sv (pfk (.bool false) rfl rfl rfl) (sv (mvv (.bool false) rfl) (W.n (gn rfl rfl rfl rfl) (W.n (gn rfl rfl rfl rfl) (W.n (gn rfl rfl rfl rfl) (sv (pfk (.bool false) rfl rfl rfl) ?_)))))))))))
          refine sv (mvv (.bool false) rfl) (W.n (gn rfl rfl rfl rfl) (W.n (gn rfl rfl rfl rfl) (W.n (gn rfl rfl rfl rfl) (W.n (gn rfl rfl rfl rfl) (sv (pfk (.bool false) rfl rfl rfl) (sv (mvv (.bool false) rfl) (W.n (gn rfl rfl rfl rfl) (W.n (gn rfl rfl rfl rfl) (W.n (gn rfl rfl rfl rfl) (W.n (gn rfl rfl rfl rfl) (sv (pfk (.bool false) rfl rfl rfl) ?_)))))))))))
          refine sv (mvv (.bool false) rfl) (W.n (gn rfl rfl rfl rfl) (W.n (gn rfl rfl rfl rfl) (W.n (gn rfl rfl rfl rfl) (W.n (gn rfl rfl rfl rfl) (W.n (gn rfl rfl rfl rfl) (sv (pfk (.bool false) rfl rfl rfl) (sv (asv (.bool false) rfl) (W.e ?_))))))))
          obtain rfl := Option.some.inj h28
          exact ⟨_, C, ⟨rfl, trivial⟩⟩
      · refine W.n (gn rfl rfl rfl b37) (W.n (gn rfl rfl rfl b37) (W.n (gn rfl rfl rfl b37) (W.n (gn rfl rfl rfl b37) (W.n (gn rfl rfl rfl b37) (W.n (gn rfl rfl rfl b37) (sv (pfk (.bool false) rfl b37 rfl) (sv (mvv (.bool false) rfl) (W.n (gn rfl rfl rfl rfl) (W.n (gn rfl rfl rfl rfl) (sv (pfk (.bool false) rfl rfl rfl) (sv (mvv (.bool false) rfl) ?_)))))))))))
        refine W.n (gn rfl rfl rfl rfl) (W.n (gn rfl rfl rfl rfl) (sv (pfk (.bool false) rfl rfl rfl) (sv (mvv (.bool false) rfl) (W.n (gn rfl rfl rfl rfl) (W.n (gn rfl rfl rfl rfl) (W.n (gn rfl rfl rfl rfl) (sv (pfk (.bool false) rfl rfl rfl) (sv (mvv (.bool false) rfl) (W.n (gn rfl rfl rfl rfl) (W.n (gn rfl rfl rfl rfl) (W.n (gn rfl rfl rfl rfl) ?_)))))))))))
        refine W.n (gn rfl rfl rfl rfl) (sv (pfk (.bool false) rfl rfl rfl) (sv (mvv (.bool false) rfl) (W.n (gn rfl rfl rfl rfl) (W.n (gn rfl rfl rfl rfl) (W.n (gn rfl rfl rfl rfl) (W.n (gn rfl rfl rfl rfl) (sv (pfk (.bool false) rfl rfl rfl) (sv (mvv (.bool false) rfl) (W.n (gn rfl rfl rfl rfl) (W.n (gn rfl rfl rfl rfl) (W.n (gn rfl rfl rfl rfl) ?_)))))))))))
        refine W.n (gn rfl rfl rfl rfl) (W.n (gn rfl rfl rfl rfl) (sv (pfk (.bool false) rfl rfl rfl) (sv (asv (.bool false) rfl) (W.e ?_))))
        obtain rfl := Option.some.inj h28
        exact ⟨_, C, ⟨rfl, trivial⟩⟩
    · refine W.n (gn rfl rfl rfl b29) (W.n (gn rfl rfl rfl b29) (W.n (gn rfl rfl rfl b29) (W.n (gn rfl rfl rfl b29) (W.n (gn rfl rfl rfl b29) (W.n (gn rfl rfl rfl b29) (W.n (gn rfl rfl rfl b29) (sv (pfk (.bool false) rfl b29 rfl) (sv (mvv (.bool false) rfl) (W.n (gn rfl rfl rfl rfl) (W.n (gn rfl rfl rfl rfl) (W.n (gn rfl rfl rfl rfl) ?_)))))))))))
      refine W.n (gn rfl rfl rfl rfl) (W.n (gn rfl rfl rfl rfl) (W.n (gn rfl rfl rfl rfl) (sv (pfk (.bool false) rfl rfl rfl) (sv (mvv (.bool false) rfl) (W.n (gn rfl rfl rfl rfl) (W.n (gn rfl rfl rfl rfl) (sv (pfk (.bool false) rfl rfl rfl) (sv (mvv (.bool false) rfl) (W.n (gn rfl rfl rfl rfl) (W.n (gn rfl rfl rfl rfl) (sv (pfk (.bool false) rfl rfl rfl) ?_)))))))))))
      refine sv (mvv (.bool false) rfl) (W.n (gn rfl rfl rfl rfl) (W.n (gn rfl rfl rfl rfl) (W.n (gn rfl rfl rfl rfl) (sv (pfk (.bool false) rfl rfl rfl) (sv (mvv (.bool false) rfl) (W.n (gn rfl rfl rfl rfl) (W.n (gn rfl rfl rfl rfl) (W.n (gn rfl rfl rfl rfl) (W.n (gn rfl rfl rfl rfl) (sv (pfk (.bool false) rfl rfl rfl) (sv (mvv (.bool false) rfl) ?_)))))))))))
      refine W.n (gn rfl rfl rfl rfl) (W.n (gn rfl rfl rfl rfl) (W.n (gn rfl rfl rfl rfl) (W.n (gn rfl rfl rfl rfl) (sv (pfk (.bool false) rfl rfl rfl) (sv (mvv (.bool false) rfl) (W.n (gn rfl rfl rfl rfl) (W.n (gn rfl rfl rfl rfl) (W.n (gn rfl rfl rfl rfl) (W.n (gn rfl rfl rfl rfl) (W.n (gn rfl rfl rfl rfl) (sv (pfk (.bool false) rfl rfl rfl) ?_)))))))))))
      refine sv (asv (.bool false) rfl) (W.e ?_)
      obtain rfl := Option.some.inj h28
      exact ⟨_, C, ⟨rfl, trivial⟩⟩
  · rintro ρ w80 ⟨S79, C, h81⟩
    refine h81.cw fun ρ => ?_
    clear h81
    refine cw_ret ?_
    obtain rfl := Option.some.inj h
    exact ⟨_, rfl, _, rfl, C⟩

end Go.Proofs.Ytconkjamlhfneaa
