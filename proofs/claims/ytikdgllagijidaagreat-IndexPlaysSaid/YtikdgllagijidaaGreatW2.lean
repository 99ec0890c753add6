/- What each function computes, and that the program computes it (part 2). Printed by gen.py, a program of this session. -/
import Derived.Test.YtikdgllagijidaaGreatW1
set_option linter.unusedVariables false
namespace Go.Proofs.YtikdgllagijidaaGreat
open Go Go.Mg
noncomputable def marigraphref07_One (a0 : api_Ask) (a1 : List api_Label) : Option Bool :=
  ((marigraphref05_Get a1 a0.Name).bind fun y11 => (bif (a0.Op == (1 : Int)) then ((bif y11.2 then some (strEq y11.1 a0.Val) else some false).bind fun o23 => some o23) else (bif (a0.Op == (2 : Int)) then ((bif (!y11.2) then some true else some (!strEq y11.1 a0.Val)).bind fun o34 => some o34) else (bif (a0.Op == (3 : Int)) then ((bif y11.2 then (bif (decide ((a0.Val.size : Int) ≤ (y11.1.size : Int))) then ((supto_ y11.1 (a0.Val.size : Int)).bind fun y54 => some (strEq y54 a0.Val)) else some false) else some false).bind fun o45 => some o45) else (bif (a0.Op == (4 : Int)) then some y11.2 else some false)))))
set_option maxRecDepth 100000 in
set_option maxHeartbeats 4000000 in
theorem marigraphref07_One_w {S : Nat → Prop} {w : World} {a0 : api_Ask} {a1 : List api_Label} {v0 v1 : Value} {r : Bool} (hS : Sb S w) (h0 : Sl api_Ask.k S w v0 a0) (h1 : Sl (kSl api_Label.k) S w v1 a1) (h : marigraphref07_One a0 a1 = some r) :
    Calls Tryz.prog 83 (List.toArray [v0, v1]) w fun e w1 => ∃ S1, e = .returned (.bool r) ∧ Cx No S w S1 w1 := by
  refine enter Tryz.func83 rfl (by kernel_rfl) rfl ?_
  have C := Cx.refl (F := No) hS
  unfold marigraphref07_One at h
  obtain rfl := api_Ask.o.1 h0
  refine cw_seq fun K1 k2 => ?_
  refine cw_region ?_
  refine sc (dc_boxS C.sb rfl fun b3 S4 w5 c6 h7 => ?_)
  replace h1 := h1.cx c6
  replace C := C.trans c6
  refine sv (asv (.bool false) rfl) (W.e (k2 _ _ ?_))
  refine cw_seq fun K9 k10 => ?_
  refine cw_region (sv (mvv v1 rfl) (sv (rv_fieldAddr st53 rfl rfl) (sr (rw_bk ag9 h7.2 rfl rfl) ?_)))
  obtain ⟨y11, h12, h⟩ := bnd_some h
  refine sc (dc_call (vs := [v1, .string a0.Name]) can60 rfl ?_)
  refine (marigraphref05_Get_w C.sb h1 h12).mono ?_
  rintro _ w13 ⟨S14, rfl, c15⟩
  refine ⟨_, rfl, ?_⟩
  replace h7 := h7.cx c15
  replace C := C.trans c15
  refine sv (mvv (.tuple (List.toArray [.string y11.1, .bool y11.2])) rfl) (sv (rv_extract rfl rfl) (sv (rv_extract rfl rfl) (sv (asv (.string y11.1) rfl) (sv (asv (.bool y11.2) rfl) (W.e (k10 _ _ ?_))))))
  refine cw_seq fun K16 k17 => ?_
  refine cw_seq fun K18 k19 => ?_
  refine cw_region (sv (rv_fieldAddr st53 rfl rfl) (sr (rw_bk ag5 h7.2 rfl rfl) (W.e (k19 _ _ (cw_block ?_)))))
  refine cw_seq fun K20 k21 => ?_
  refine cw_region (sv (rv_eql rfl rfl) (sv (asv (.bool (a0.Op == (1 : Int))) rfl) (W.e (k21 _ _ ?_))))
  rcases bif_some h with ⟨b22, h⟩ | ⟨b22, h⟩
  · refine cw_t rfl b22 ?_
    obtain ⟨o23, h26, h⟩ := bnd_some h
    refine cw_seq' (fun ρ w1 => ∃ S1, Cx No S w S1 w1 ∧ Has ρ [(4, .bool o23)]) ?_ ?_
    · refine cw_region (sv (mvv (.bool y11.2) rfl) (sv (mvv (.bool y11.2) rfl) ?_))
      rcases bif_some h26 with ⟨b27, h26⟩ | ⟨b27, h26⟩
      · refine W.v (gy rfl rfl rfl b27) (mvv (.string y11.1) rfl) (W.v (gy rfl rfl rfl b27) (rv_fieldAddr st53 rfl rfl) (W.r (gy rfl rfl rfl b27) (rw_bk ag9 h7.2 rfl rfl) (W.v (gy rfl rfl rfl b27) (rv_seql rfl rfl) (sv (ptk (.bool (strEq y11.1 a0.Val)) rfl b27 rfl) (sv (asv (.bool (strEq y11.1 a0.Val)) rfl) (W.e ?_))))))
        obtain rfl := Option.some.inj h26
        exact ⟨_, C, ⟨rfl, trivial⟩⟩
      · refine W.n (gn rfl rfl rfl b27) (W.n (gn rfl rfl rfl b27) (W.n (gn rfl rfl rfl b27) (W.n (gn rfl rfl rfl b27) (sv (pfk (.bool false) rfl b27 rfl) (sv (asv (.bool false) rfl) (W.e ?_))))))
        obtain rfl := Option.some.inj h26
        exact ⟨_, C, ⟨rfl, trivial⟩⟩
    · rintro ρ w29 ⟨S28, C, h30⟩
      refine h30.cw fun ρ => ?_
      clear h30
      refine cw_ret ?_
      obtain rfl := Option.some.inj h
      exact ⟨_, rfl, _, rfl, C⟩
  · refine cw_f rfl b22 ?_
    refine cw_seq fun K31 k32 => ?_
    refine cw_region (sv (rv_eql rfl rfl) (sv (asv (.bool (a0.Op == (2 : Int))) rfl) (W.e (k32 _ _ ?_))))
    rcases bif_some h with ⟨b33, h⟩ | ⟨b33, h⟩
    · refine cw_t rfl b33 ?_
      obtain ⟨o34, h37, h⟩ := bnd_some h
      refine cw_seq' (fun ρ w1 => ∃ S1, Cx No S w S1 w1 ∧ Has ρ [(4, .bool o34)]) ?_ ?_
      · refine cw_region (sv (mvv (.bool y11.2) rfl) (sv (rv_not rfl) (sv (mvv (.bool (!y11.2)) rfl) ?_)))
        rcases bif_some h37 with ⟨b38, h37⟩ | ⟨b38, h37⟩
        · refine W.n (gn rfl rfl rfl b38) (W.n (gn rfl rfl rfl b38) (W.n (gn rfl rfl rfl b38) (W.n (gn rfl rfl rfl b38) (sv (ptk (.bool true) rfl b38 rfl) (sv (asv (.bool true) rfl) (W.e ?_))))))
          obtain rfl := Option.some.inj h37
          exact ⟨_, C, ⟨rfl, trivial⟩⟩
        · refine W.v (gy rfl rfl rfl b38) (mvv (.string y11.1) rfl) (W.v (gy rfl rfl rfl b38) (rv_fieldAddr st53 rfl rfl) (W.r (gy rfl rfl rfl b38) (rw_bk ag9 h7.2 rfl rfl) (W.v (gy rfl rfl rfl b38) (rv_sneq rfl rfl) (sv (pfk (.bool (!strEq y11.1 a0.Val)) rfl b38 rfl) (sv (asv (.bool (!strEq y11.1 a0.Val)) rfl) (W.e ?_))))))
          obtain rfl := Option.some.inj h37
          exact ⟨_, C, ⟨rfl, trivial⟩⟩
      · rintro ρ w40 ⟨S39, C, h41⟩
        refine h41.cw fun ρ => ?_
        clear h41
        refine cw_ret ?_
        obtain rfl := Option.some.inj h
        exact ⟨_, rfl, _, rfl, C⟩
    · refine cw_f rfl b33 ?_
      refine cw_seq fun K42 k43 => ?_
      refine cw_region (sv (rv_eql rfl rfl) (sv (asv (.bool (a0.Op == (3 : Int))) rfl) (W.e (k43 _ _ ?_))))
      rcases bif_some h with ⟨b44, h⟩ | ⟨b44, h⟩
      · refine cw_t rfl b44 ?_
        obtain ⟨o45, h48, h⟩ := bnd_some h
        refine cw_seq' (fun ρ w1 => ∃ S1, Cx No S w S1 w1 ∧ Has ρ [(4, .bool o45)]) ?_ ?_
        · refine cw_drawU (.one 0 true (.one 1 true (.one 2 true (.one 3 true (.one 4 true (.one 5 true (.one 6 true (.one 7 true (.one 8 true (.one 9 true (.one 10 true (.one 11 true (.one 12 true (.one 13 true (.one 14 true (.one 15 true (.one 16 true (.one 17 true (.one 18 true (.one 19 true .done)))))))))))))))))))) [(5, [9]), (12, [9]), (16, [9])] [] (fun c => bif Nat.beq c 9 then (fun _ => True) else No) fol (by kernel_rfl) fun w49 u50 => ?_
          replace h7 := h7.nw u50
          replace C := C.new u50
          have m51 := Sm.refl (fun _ => True) w49
          refine mtv rfl rfl (mvv (.bool y11.2) rfl) (mtv rfl rfl (mvv (.bool y11.2) rfl) ?_)
          rcases bif_some h48 with ⟨b52, h48⟩ | ⟨b52, h48⟩
          · refine MT.vv rfl rfl (gy rfl rfl rfl b52) (mvv (.string y11.1) rfl) (MT.vv rfl rfl (gy rfl rfl rfl b52) (rv_slen Tryz.underlying9 rfl) (MT.vv rfl rfl (gy rfl rfl rfl b52) (rv_fieldAddr st53 rfl rfl) (MT.r rfl rfl (gy rfl rfl rfl b52) ⟨m51, trivial⟩ (fun w' hq => rw_bk ag9 (h7.sm (hq.1.mono fun _ _ => trivial)) rfl rfl) (MT.vv rfl rfl (gy rfl rfl rfl b52) (rv_slen Tryz.underlying9 rfl) (MT.vv rfl rfl (gy rfl rfl rfl b52) (rv_geq rfl rfl) (mtv rfl rfl (ptk (.bool (decide ((a0.Val.size : Int) ≤ (y11.1.size : Int)))) rfl b52 rfl) (mtv rfl rfl (mvv (.bool (decide ((a0.Val.size : Int) ≤ (y11.1.size : Int)))) rfl) ?_)))))))
            rcases bif_some h48 with ⟨b53, h48⟩ | ⟨b53, h48⟩
            · refine MT.vv rfl rfl (gy rfl rfl rfl b53) (mvv (.string y11.1) rfl) (MT.vv rfl rfl (gy rfl rfl rfl b53) (rv_fieldAddr st53 rfl rfl) (MT.r rfl rfl (gy rfl rfl rfl b53) ⟨m51, trivial⟩ (fun w' hq => rw_bk ag9 (h7.sm (hq.1.mono fun _ _ => trivial)) rfl rfl) (MT.vv rfl rfl (gy rfl rfl rfl b53) (rv_slen Tryz.underlying9 rfl) ?_)))
              obtain ⟨y54, h55, h48⟩ := bnd_some h48
              refine MT.vv rfl rfl (gy rfl rfl rfl b53) (rv_supto Tryz.underlying9 rfl rfl h55) (MT.vv rfl rfl (gy rfl rfl rfl b53) (rv_fieldAddr st53 rfl rfl) (MT.r rfl rfl (gy rfl rfl rfl b53) ⟨m51, trivial⟩ (fun w' hq => rw_bk ag9 (h7.sm (hq.1.mono fun _ _ => trivial)) rfl rfl) (MT.vv rfl rfl (gy rfl rfl rfl b53) (rv_seql rfl rfl) (mtv rfl rfl (ptk (.bool (strEq y54 a0.Val)) rfl b53 rfl) (mtv rfl rfl (asv (.bool (strEq y54 a0.Val)) rfl) (MT.e ?_))))))
              obtain rfl := Option.some.inj h48
              exact ⟨_, C, ⟨rfl, trivial⟩⟩
            · refine MT.n rfl rfl (gn rfl rfl rfl b53) trivial (MT.n rfl rfl (gn rfl rfl rfl b53) trivial (MT.n rfl rfl (gn rfl rfl rfl b53) ⟨m51, trivial⟩ (MT.n rfl rfl (gn rfl rfl rfl b53) trivial (MT.n rfl rfl (gn rfl rfl rfl b53) trivial (MT.n rfl rfl (gn rfl rfl rfl b53) trivial (MT.n rfl rfl (gn rfl rfl rfl b53) ⟨m51, trivial⟩ (MT.n rfl rfl (gn rfl rfl rfl b53) trivial (mtv rfl rfl (pfk (.bool false) rfl b53 rfl) (mtv rfl rfl (asv (.bool false) rfl) (MT.e ?_))))))))))
              obtain rfl := Option.some.inj h48
              exact ⟨_, C, ⟨rfl, trivial⟩⟩
          · refine MT.n rfl rfl (gn rfl rfl rfl b52) trivial (MT.n rfl rfl (gn rfl rfl rfl b52) trivial (MT.n rfl rfl (gn rfl rfl rfl b52) trivial (MT.n rfl rfl (gn rfl rfl rfl b52) ⟨m51, trivial⟩ (MT.n rfl rfl (gn rfl rfl rfl b52) trivial (MT.n rfl rfl (gn rfl rfl rfl b52) trivial (mtv rfl rfl (pfk (.bool false) rfl b52 rfl) (mtv rfl rfl (mvv (.bool false) rfl) (MT.n rfl rfl (gn rfl rfl rfl rfl) trivial (MT.n rfl rfl (gn rfl rfl rfl rfl) trivial (MT.n rfl rfl (gn rfl rfl rfl rfl) ⟨m51, trivial⟩ (MT.n rfl rfl (gn rfl rfl rfl rfl) trivial ?_)))))))))))
            refine MT.n rfl rfl (gn rfl rfl rfl rfl) trivial (MT.n rfl rfl (gn rfl rfl rfl rfl) trivial (MT.n rfl rfl (gn rfl rfl rfl rfl) ⟨m51, trivial⟩ (MT.n rfl rfl (gn rfl rfl rfl rfl) trivial (mtv rfl rfl (pfk (.bool false) rfl rfl rfl) (mtv rfl rfl (asv (.bool false) rfl) (MT.e ?_))))))
            obtain rfl := Option.some.inj h48
            exact ⟨_, C, ⟨rfl, trivial⟩⟩
        · rintro ρ w57 ⟨S56, C, h58⟩
          refine h58.cw fun ρ => ?_
          clear h58
          refine cw_ret ?_
          obtain rfl := Option.some.inj h
          exact ⟨_, rfl, _, rfl, C⟩
      · refine cw_f rfl b44 ?_
        refine cw_seq fun K59 k60 => ?_
        refine cw_region (sv (rv_eql rfl rfl) (sv (asv (.bool (a0.Op == (4 : Int))) rfl) (W.e (k60 _ _ ?_))))
        rcases bif_some h with ⟨b61, h⟩ | ⟨b61, h⟩
        · refine cw_t rfl b61 ?_
          refine cw_seq fun K62 k63 => ?_
          refine cw_region (sv (mvv (.bool y11.2) rfl) (sv (asv (.bool y11.2) rfl) (W.e (k63 _ _ (cw_ret ?_)))))
          obtain rfl := Option.some.inj h
          exact ⟨_, rfl, _, rfl, C⟩
        · refine cw_f rfl b61 (cw_skip (k17 _ _ ?_))
          refine cw_seq fun K64 k65 => ?_
          refine cw_region (sv (asv (.bool false) rfl) (W.e (k65 _ _ (cw_ret ?_))))
          obtain rfl := Option.some.inj h
          exact ⟨_, rfl, _, rfl, C⟩

noncomputable def marigraphref07_All.b2 (a0 : List api_Ask) (a1 : List api_Label) (x13 : Int) : Option ((Int) ⊕ ((Unit) ⊕ (Bool))) :=
  (bif (decide (x13 < (a0.length : Int))) then ((at_ a0 x13).bind fun y25 => ((marigraphref07_One y25 a1).bind fun y30 => (bif (!y30) then some (.inr (.inr false)) else (pur (IntKind.i64.wrap (x13 + (1 : Int))) fun y39 => some (.inl y39))))) else some (.inr (.inl ())))
noncomputable def marigraphref07_All (a0 : List api_Ask) (a1 : List api_Label) : Option Bool :=
  ((iter (fun s : Int => marigraphref07_All.b2 a0 a1 s) (0 : Int)).bind (Sum.elim (fun o3n => some true) (fun q => some q)))
set_option maxRecDepth 100000 in
set_option maxHeartbeats 4000000 in
theorem marigraphref07_All_w {S : Nat → Prop} {w : World} {a0 : List api_Ask} {a1 : List api_Label} {v0 v1 : Value} {r : Bool} (hS : Sb S w) (h0 : Sl (kSl api_Ask.k) S w v0 a0) (h1 : Sl (kSl api_Label.k) S w v1 a1) (h : marigraphref07_All a0 a1 = some r) :
    Calls Tryz.prog 56 (List.toArray [v0, v1]) w fun e w1 => ∃ S1, e = .returned (.bool r) ∧ Cx No S w S1 w1 := by
  refine enter Tryz.func56 rfl (by kernel_rfl) rfl ?_
  have C := Cx.refl (F := No) hS
  unfold marigraphref07_All at h
  refine cw_seq fun K1 k2 => ?_
  refine cw_region (sv (asv (.bool false) rfl) (W.e (k2 _ _ ?_)))
  obtain ⟨o3, h6, h⟩ := bnds_some h
  refine cw_seq' (fun ρ w1 => ∃ o3n, o3 = (.inl o3n) ∧ ∃ S1, Cx No S w S1 w1 ∧ Has ρ []) ?_ ?_
  · refine cw_seq fun K7 k8 => ?_
    refine cw_region (sv (asv (.int .i64 0) rfl) (W.e (k8 _ _ (cw_block ?_))))
    refine cw_iter h6 (fun s ρ w1 => ∃ S1, Cx No S w S1 w1 ∧ Has ρ [(0, v0), (1, v1), (5, .int .i64 s)] ∧ Sl (kSl api_Ask.k) S1 w1 v0 a0 ∧ Sl (kSl api_Label.k) S1 w1 v1 a1) ⟨_, C, ⟨rfl, rfl, rfl, trivial⟩, h0, h1⟩ ?_
    rintro x13 q9 ρ w11 ⟨S10, C, h12, h0, h1⟩ h15 h14
    refine h12.cw fun ρ => ?_
    clear h12
    replace h15 : marigraphref07_All.b2 a0 a1 x13 = some q9 := h15
    unfold marigraphref07_All.b2 at h15
    refine cw_seq fun K16 k17 => ?_
    refine cw_seq fun K18 k19 => ?_
    refine cw_region (sv (mvv (.int .i64 x13) rfl) (sv (mvv v0 rfl) (sv (rv_lenS el32 h0 rfl) (sv (rv_lss rfl rfl) (W.e (k19 _ _ ?_))))))
    rcases bif_some h15 with ⟨b20, h15⟩ | ⟨b20, h15⟩
    · refine cw_t rfl b20 (cw_skip (k17 _ _ ?_))
      refine cw_seq fun K21 k22 => ?_
      refine cw_block ?_
      refine cw_seq fun K23 k24 => ?_
      refine cw_region (sv (mvv v0 rfl) (sv (mvv (.int .i64 x13) rfl) ?_))
      obtain ⟨y25, h26, h15⟩ := bnd_some h15
      refine sv (rv_index el32 h0 rfl rfl h26) ?_
      obtain ⟨v27, h28, h29⟩ := rw_loadA (P := Tryz.prog) el32 h0 h26
      obtain rfl := api_Ask.o.1 h28
      refine sr (h29 _ (Sm.refl _ _) rfl) (sv (mvv v1 rfl) ?_)
      obtain ⟨y30, h31, h15⟩ := bnd_some h15
      refine sc (dc_call (vs := [.agg (List.toArray [.int .u8 y25.Op, .string y25.Name, .string y25.Val]), v1]) can83 rfl ?_)
      refine (marigraphref07_One_w C.sb ((api_Ask.o (x := y25)).2 rfl) h1 h31).mono ?_
      rintro _ w32 ⟨S33, rfl, c34⟩
      refine ⟨_, rfl, ?_⟩
      replace h0 := h0.cx c34
      replace h1 := h1.cx c34
      replace C := C.trans c34
      refine sv (rv_not rfl) (W.e (k24 _ _ ?_))
      rcases bif_some h15 with ⟨b35, h15⟩ | ⟨b35, h15⟩
      · refine cw_t rfl b35 ?_
        refine cw_seq fun K36 k37 => ?_
        refine cw_region (sv (asv (.bool false) rfl) (W.e (k37 _ _ (cw_ret ?_))))
        obtain rfl := Option.some.inj h15
        have h38 := congrArg some h14
        obtain rfl := Option.some.inj h38
        replace h := h.2 _ rfl
        obtain rfl := Option.some.inj h
        exact ⟨_, rfl, _, rfl, C⟩
      · refine cw_f rfl b35 (cw_skip (k22 _ _ (cw_region (sv (mvv (.int .i64 x13) rfl) ?_))))
        obtain ⟨y39, h40, h15⟩ := pur_some h15
        refine sv (rv_add rfl rfl h40) (sv (asv (.int .i64 y39) rfl) (W.e ?_))
        obtain rfl := Option.some.inj h15
        exact ⟨_, rfl, ⟨_, C, ⟨rfl, rfl, rfl, trivial⟩, h0, h1⟩⟩
    · refine cw_f rfl b20 (cw_exit ?_)
      obtain rfl := Option.some.inj h15
      have h41 := congrArg some h14
      obtain rfl := Option.some.inj h41
      exact ⟨_, rfl, ⟨_, C, trivial⟩⟩
  · rintro ρ w43 ⟨o3n, rfl, ⟨S42, C, h44⟩⟩
    replace h := h.1 _ rfl
    refine h44.cw fun ρ => ?_
    clear h44
    refine cw_seq fun K45 k46 => ?_
    refine cw_region (sv (asv (.bool true) rfl) (W.e (k46 _ _ (cw_ret ?_))))
    obtain rfl := Option.some.inj h
    exact ⟨_, rfl, _, rfl, C⟩

noncomputable def marigraphref08_Index_Find.b2 (a0 : marigraphref08_Index) (a1 : List api_Ask) (x29 : List Int) (x30 : Int) : Option (((List Int) × Int) ⊕ ((List Int))) :=
  (bif (decide (x30 < (a0.S.length : Int))) then (((at_ a0.S x30).bind fun y50 => ((marigraphref07_All a1 y50.L).bind fun y57 => (bif y57 then ((at_ a0.S x30).bind fun y66 => ((app_ 8 x29 ([y66.Id] : List Int)).bind fun y80 => some y80)) else some x29))).bind fun o41 => (pur (IntKind.i64.wrap (x30 + (1 : Int))) fun y94 => some (.inl (o41, y94)))) else some (.inr x29))
noncomputable def marigraphref08_Index_Find (a0 : marigraphref08_Index) (a1 : List api_Ask) : Option ((List Int) × Int) :=
  ((marigraphref07_Right a1).bind fun y7 => (bif (!y7) then some (([] : List Int), (1 : Int)) else ((iter (fun s : (List Int) × Int => marigraphref08_Index_Find.b2 a0 a1 s.1 s.2) (([] : List Int), (0 : Int))).bind fun o17 => some (o17, (0 : Int)))))
set_option maxRecDepth 100000 in
set_option maxHeartbeats 4000000 in
theorem marigraphref08_Index_Find_w {S : Nat → Prop} {w : World} {a0 : marigraphref08_Index} {a1 : List api_Ask} {v0 v1 : Value} {cs0 : List Value} {fp0 : List Nat} {r : (List Int) × Int} (hS : Sb S w) (h0 : Ob 29 (marigraphref08_Index.fs a0) S w v0 cs0 fp0) (h1 : Sl (kSl api_Ask.k) S w v1 a1) (h : marigraphref08_Index_Find a0 a1 = some r) :
    Calls Tryz.prog 20 (List.toArray [v0, v1]) w fun e w1 => ∃ S1 u0, e = .returned (.tuple (List.toArray [u0, .int .i64 r.2])) ∧ Cx No S w S1 w1 ∧ Ow (kI .i64) 3 S1 w.heap.size w1 u0 r.1 := by
  refine enter Tryz.func20 rfl (by kernel_rfl) rfl ?_
  have C := Cx.refl (F := No) hS
  unfold marigraphref08_Index_Find at h
  have hl0 : ∀ b ∈ fp0, b < w.heap.size := fun b hb => (h0.lt b hb).1
  refine cw_seq fun K1 k2 => ?_
  refine cw_region (sv (asv (.slice none 0 0) rfl) (sv (asv (.int .i64 0) rfl) (W.e (k2 _ _ ?_))))
  refine cw_seq fun K3 k4 => ?_
  refine cw_seq fun K5 k6 => ?_
  refine cw_region (sv (mvv v1 rfl) ?_)
  obtain ⟨y7, h8, h⟩ := bnd_some h
  refine sc (dc_call (vs := [v1]) can55 rfl ?_)
  refine (marigraphref07_Right_w C.sb h1 h8).mono ?_
  rintro _ w9 ⟨S10, rfl, c11⟩
  refine ⟨_, rfl, ?_⟩
  replace h0 := h0.cx c11
  replace h1 := h1.cx c11
  replace C := C.trans c11
  refine sv (rv_not rfl) (W.e (k6 _ _ ?_))
  rcases bif_some h with ⟨b12, h⟩ | ⟨b12, h⟩
  · refine cw_t rfl b12 ?_
    refine cw_seq fun K13 k14 => ?_
    refine cw_region (sv (asv (.slice none 0 0) rfl) (sv (asv (.int .i64 1) rfl) (W.e (k14 _ _ (cw_ret ?_)))))
    obtain rfl := Option.some.inj h
    exact ⟨_, rfl, _, _, rfl, C, Ow.nil _ _ _ _ _⟩
  · refine cw_f rfl b12 (cw_skip (k4 _ _ ?_))
    refine cw_seq fun K15 k16 => ?_
    refine cw_region (sv (asv (.slice none 0 0) rfl) (W.e (k16 _ _ ?_)))
    obtain ⟨o17, h20, h⟩ := bnd_some h
    refine cw_seq' (fun ρ w1 => ∃ S1 v99, Cx No S w S1 w1 ∧ Has ρ [(6, v99)] ∧ Ow (kI .i64) 3 S1 w.heap.size w1 v99 o17) ?_ ?_
    · refine cw_seq fun K21 k22 => ?_
      refine cw_region (sv (asv (.int .i64 0) rfl) (W.e (k22 _ _ (cw_block ?_))))
      refine cw_iter h20 (fun s ρ w1 => ∃ S1 v26, Cx No S w S1 w1 ∧ Has ρ [(0, v0), (1, v1), (6, v26), (7, .int .i64 s.2)] ∧ Sl (kSl api_Ask.k) S1 w1 v1 a1 ∧ Ow (kI .i64) 3 S1 w.heap.size w1 v26 s.1 ∧ Ob 29 (marigraphref08_Index.fs a0) S1 w1 v0 cs0 fp0) ⟨_, _, C, ⟨rfl, rfl, rfl, rfl, trivial⟩, h1, Ow.nil _ _ _ _ _, h0⟩ ?_
      rintro ⟨x29, x30⟩ q23 ρ w25 ⟨S24, v26, C, h28, h1, h27, h0⟩ h32 h31
      refine h28.cw fun ρ => ?_
      clear h28
      replace h32 : marigraphref08_Index_Find.b2 a0 a1 x29 x30 = some q23 := h32
      unfold marigraphref08_Index_Find.b2 at h32
      refine cw_seq fun K33 k34 => ?_
      refine cw_seq fun K35 k36 => ?_
      refine cw_region (sv (mvv (.int .i64 x30) rfl) (sv (mvv v0 rfl) (sv (rv_nilcheck rfl h0.ptr) (sv (rv_fieldAddr (b := pb v0) (o := 0) st29 rfl h0.ptr) ?_))))
      obtain ⟨c37, h38, h39⟩ := h0.sl (i := 0) rfl
      refine sr (rw_ofield (i := 0) (c := c37) h0 ag27 h38 rfl) (sv (rv_lenS el27 h39 rfl) (sv (rv_lss rfl rfl) (W.e (k36 _ _ ?_))))
      rcases bif_some h32 with ⟨b40, h32⟩ | ⟨b40, h32⟩
      · refine cw_t rfl b40 (cw_skip (k34 _ _ ?_))
        obtain ⟨o41, h44, h32⟩ := bnd_some h32
        refine cw_seq' (fun ρ w1 => ∃ S1 v91, Cx No S w S1 w1 ∧ Has ρ [(0, v0), (1, v1), (6, v91), (7, .int .i64 x30)] ∧ Sl (kSl api_Ask.k) S1 w1 v1 a1 ∧ Ow (kI .i64) 3 S1 w.heap.size w1 v91 o41 ∧ Ob 29 (marigraphref08_Index.fs a0) S1 w1 v0 cs0 fp0) ?_ ?_
        · refine cw_block ?_
          refine cw_seq fun K45 k46 => ?_
          refine cw_region (sv (mvv v1 rfl) (sv (mvv v0 rfl) (sv (rv_nilcheck rfl h0.ptr) (sv (rv_fieldAddr (b := pb v0) (o := 0) st29 rfl h0.ptr) ?_))))
          obtain ⟨c47, h48, h49⟩ := h0.sl (i := 0) rfl
          refine sr (rw_ofield (i := 0) (c := c47) h0 ag27 h48 rfl) (sv (mvv (.int .i64 x30) rfl) ?_)
          obtain ⟨y50, h51, h44⟩ := bnd_some h44
          refine sv (rv_index el27 h49 rfl rfl h51) (sv (rv_fieldAddr st79 rfl rfl) ?_)
          obtain ⟨cs52, h53, h54⟩ := Sl.cells h49 h51
          obtain ⟨c55, rfl, g56⟩ := marigraphref08_Series.r.1 h53
          refine sr (rw_el1 (off := 1) ag31 (h54 _ (Sm.refl _ _)) rfl rfl) ?_
          obtain ⟨y57, h58, h44⟩ := bnd_some h44
          refine sc (dc_call (vs := [v1, c55]) can56 rfl ?_)
          refine (marigraphref07_All_w C.sb h1 g56 h58).mono ?_
          rintro _ w59 ⟨S60, rfl, c61⟩
          refine ⟨_, rfl, ?_⟩
          replace h0 := h0.cx c61
          replace h1 := h1.cx c61
          replace h27 := h27.cx c61
          replace C := C.trans c61
          refine W.e (k46 _ _ ?_)
          rcases bif_some h44 with ⟨b62, h44⟩ | ⟨b62, h44⟩
          · refine cw_t rfl b62 (cw_region (sv (mvv v26 rfl) (sv (mvv v0 rfl) (sv (rv_nilcheck rfl h0.ptr) (sv (rv_fieldAddr (b := pb v0) (o := 0) st29 rfl h0.ptr) ?_)))))
            obtain ⟨c63, h64, h65⟩ := h0.sl (i := 0) rfl
            refine sr (rw_ofield (i := 0) (c := c63) h0 ag27 h64 rfl) (sv (mvv (.int .i64 x30) rfl) ?_)
            obtain ⟨y66, h67, h44⟩ := bnd_some h44
            refine sv (rv_index el27 h65 rfl rfl h67) (sv (rv_fieldAddr st79 rfl rfl) ?_)
            obtain ⟨cs68, h69, h70⟩ := Sl.cells h65 h67
            obtain ⟨c71, rfl, g72⟩ := marigraphref08_Series.r.1 h69
            refine sr (rw_el1 (off := 0) ag3 (h70 _ (Sm.refl _ _)) rfl rfl) ?_
            refine sc (dc_lit (vs := [.int .i64 y66.Id]) (xs := ([y66.Id] : List Int)) (base := w.heap.size) el49 rfl rfl (.cons (sl_sc.2 rfl) (.nil)) (Nat.le_of_ble_eq_true rfl) C.up.size C.sb fun v73 w74 h75 h76 u77 => ?_)
            have p78 := ap_fresh h76 (fun b hb => (h0.lt b hb).1)
            have p79 := ap_fresh h76 (fun b hb => (h27.lt b hb).2)
            replace h0 := h0.nw u77
            replace h1 := h1.nw u77
            replace h27 := h27.nw u77
            replace C := C.new u77
            obtain ⟨y80, h81, h44⟩ := bnd_some h44
            have h87 := h27
            refine sc (dc_append el49 (by decide) h87 h75.src rfl rfl h81 C.up.size C.sb fun v82 w83 h84 u85 h86 => ?_)
            have p88 := ap_grow (ap_symm (fun b hq hb => absurd (h27.lt b hb).1 (Nat.not_le_of_lt (hl0 b hq)))) h86 (fun b hb => (h0.lt b hb).1)
            replace h0 := h0.wr u85 h87.not (fun b hq hb => absurd (h87.lt b hb).1 (Nat.not_le_of_lt (hl0 b hq)))
            replace h1 := h1.wr u85 h87.not
            replace C := C.ow h87 u85
            refine sv (asv v82 rfl) (W.e ?_)
            obtain rfl := Option.some.inj h44
            exact ⟨_, _, C, ⟨rfl, rfl, rfl, rfl, trivial⟩, h1, h84, h0⟩
          · refine cw_f rfl b62 (cw_skip ?_)
            obtain rfl := Option.some.inj h44
            exact ⟨_, _, C, ⟨rfl, rfl, rfl, rfl, trivial⟩, h1, h27, h0⟩
        · rintro ρ w90 ⟨S89, v91, C, h93, h1, h92, h0⟩
          refine h93.cw fun ρ => ?_
          clear h93
          refine cw_region (sv (mvv (.int .i64 x30) rfl) ?_)
          obtain ⟨y94, h95, h32⟩ := pur_some h32
          refine sv (rv_add rfl rfl h95) (sv (asv (.int .i64 y94) rfl) (W.e ?_))
          obtain rfl := Option.some.inj h32
          exact ⟨_, rfl, ⟨_, _, C, ⟨rfl, rfl, rfl, rfl, trivial⟩, h1, h92, h0⟩⟩
      · refine cw_f rfl b40 (cw_exit ?_)
        obtain rfl := Option.some.inj h32
        have h96 := congrArg some h31
        obtain rfl := Option.some.inj h96
        exact ⟨_, _, C, ⟨rfl, trivial⟩, h27⟩
    · rintro ρ w98 ⟨S97, v99, C, h101, h100⟩
      refine h101.cw fun ρ => ?_
      clear h101
      refine cw_seq fun K102 k103 => ?_
      refine cw_region (sv (mvv v99 rfl) (sv (asv v99 rfl) (sv (asv (.int .i64 0) rfl) (W.e (k103 _ _ (cw_ret ?_))))))
      obtain rfl := Option.some.inj h
      exact ⟨_, rfl, _, _, rfl, C, h100⟩

noncomputable def marigraphlaw08_few.b2 (a0 : List api_Label) (x13 : Int) : Option ((Int) ⊕ ((Unit) ⊕ ((List api_Label)))) :=
  (bif (decide (x13 < (a0.length : Int))) then (((at_ a0 x13).bind fun y27 => (pur y27 fun y37 => ((bif (decide ((12 : Int) ≤ x13)) then some true else (bif (decide ((100 : Int) < (y37.Name.size : Int))) then some true else some (decide ((100 : Int) < (y37.Val.size : Int))))).bind fun o43 => (bif o43 then ((upto_ a0 x13).bind fun y61 => some (.inr (.inr (.inr y61)))) else some (.inl ()))))).bind (Sum.elim (fun o21n => (pur (IntKind.i64.wrap (x13 + (1 : Int))) fun y70 => some (.inl y70))) (fun q => some q))) else some (.inr (.inl ())))
noncomputable def marigraphlaw08_few (a0 : List api_Label) : Option (List api_Label) :=
  ((iter (fun s : Int => marigraphlaw08_few.b2 a0 s) (0 : Int)).bind (Sum.elim (fun o3n => some a0) (fun q => some q)))
set_option maxRecDepth 100000 in
set_option maxHeartbeats 4000000 in
theorem marigraphlaw08_few_w {S : Nat → Prop} {w : World} {a0 : List api_Label} {v0 : Value} {r : (List api_Label)} (hS : Sb S w) (h0 : Sl (kSl api_Label.k) S w v0 a0) (h : marigraphlaw08_few a0 = some r) :
    Calls Tryz.prog 21 (List.toArray [v0]) w fun e w1 => ∃ S1 u0, e = .returned (u0) ∧ Cx No S w S1 w1 ∧ Sl (kSl api_Label.k) S1 w1 u0 r := by
  refine enter Tryz.func21 rfl (by kernel_rfl) rfl ?_
  have C := Cx.refl (F := No) hS
  unfold marigraphlaw08_few at h
  refine cw_seq fun K1 k2 => ?_
  refine cw_region (sv (asv (.slice none 0 0) rfl) (W.e (k2 _ _ ?_)))
  obtain ⟨o3, h6, h⟩ := bnds_some h
  refine cw_seq' (fun ρ w1 => ∃ o3n, o3 = (.inl o3n) ∧ ∃ S1, Cx No S w S1 w1 ∧ Has ρ [(0, v0)] ∧ Sl (kSl api_Label.k) S1 w1 v0 a0) ?_ ?_
  · refine cw_seq fun K7 k8 => ?_
    refine cw_region (sv (mvv v0 rfl) (sv (rv_lenS el31 h0 rfl) (sv (mvv (.int .i64 0) rfl) (W.e (k8 _ _ (cw_block ?_))))))
    refine cw_iter h6 (fun s ρ w1 => ∃ S1, Cx No S w S1 w1 ∧ Has ρ [(0, v0), (5, v0), (6, .int .i64 (a0.length : Int)), (7, .int .i64 s)] ∧ Sl (kSl api_Label.k) S1 w1 v0 a0) ⟨_, C, ⟨rfl, rfl, rfl, rfl, trivial⟩, h0⟩ ?_
    rintro x13 q9 ρ w11 ⟨S10, C, h12, h0⟩ h15 h14
    refine h12.cw fun ρ => ?_
    clear h12
    replace h15 : marigraphlaw08_few.b2 a0 x13 = some q9 := h15
    unfold marigraphlaw08_few.b2 at h15
    refine cw_seq fun K16 k17 => ?_
    refine cw_region (sv (rv_lss rfl rfl) (W.e (k17 _ _ ?_)))
    refine cw_seq fun K18 k19 => ?_
    rcases bif_some h15 with ⟨b20, h15⟩ | ⟨b20, h15⟩
    · refine cw_t rfl b20 (cw_skip (k19 _ _ ?_))
      obtain ⟨o21, h24, h15⟩ := bnds_some h15
      refine cw_seq' (fun ρ w1 => ∃ o21n, o21 = (.inl o21n) ∧ ∃ S1, Cx No S w S1 w1 ∧ Has ρ [(0, v0), (5, v0), (6, .int .i64 (a0.length : Int)), (7, .int .i64 x13)] ∧ Sl (kSl api_Label.k) S1 w1 v0 a0) ?_ ?_
      · refine cw_block ?_
        refine cw_seq fun K25 k26 => ?_
        refine cw_region (sv (mvv (.int .i64 x13) rfl) ?_)
        obtain ⟨y27, h28, h24⟩ := bnd_some h24
        refine sv (rv_index el31 h0 rfl rfl h28) ?_
        obtain ⟨v29, h30, h31⟩ := rw_loadA (P := Tryz.prog) el31 h0 h28
        obtain rfl := api_Label.o.1 h30
        refine sr (h31 _ (Sm.refl _ _) rfl) ?_
        refine sc (dc_allocO (x0 := (api_Label.mk ByteArray.empty ByteArray.empty)) (base := w.heap.size) el31 zr46 (fun _ => api_Label.r.2 rfl) C.up.size C.sb fun b32 w33 h34 h35 u36 => ?_)
        replace h0 := h0.nw u36
        replace C := C.new u36
        refine sv (asv (.int .i64 x13) rfl) ?_
        obtain ⟨y37, h38, h24⟩ := pur_some h24
        have h42 := h34
        refine sc (dc_storeO el31 h42 (show at_ [(api_Label.mk ByteArray.empty ByteArray.empty)] (0 : Int) = some (api_Label.mk ByteArray.empty ByteArray.empty) from rfl) rfl rfl (((api_Label.o (x := y27)).2 rfl)) fun w39 h40 u41 => ?_)
        replace h40 : Ow api_Label.k 46 S10 w.heap.size w39 (.slice (some ⟨b32, 0, none⟩) 1 1) [y27] := h40
        rw [h38] at h40
        replace h0 := h0.wr u41 h42.not
        replace C := C.ow h42 u41
        refine W.e (k26 _ _ ?_)
        obtain ⟨o43, h46, h24⟩ := bnd_some h24
        refine cw_seq' (fun ρ w1 => ∃ S1, Cx No S w S1 w1 ∧ Has ρ [(0, v0), (3, .int .i64 x13), (5, v0), (6, .int .i64 (a0.length : Int)), (7, .int .i64 x13), (25, .bool o43)] ∧ Sl (kSl api_Label.k) S1 w1 v0 a0) ?_ ?_
        · refine cw_region (sv (mvv (.int .i64 x13) rfl) (sv (rv_geq rfl rfl) (sv (mvv (.bool (decide ((12 : Int) ≤ x13))) rfl) ?_)))
          rcases bif_some h46 with ⟨b47, h46⟩ | ⟨b47, h46⟩
          · refine W.n (gn rfl rfl rfl b47) (W.n (gn rfl rfl rfl b47) (W.n (gn rfl rfl rfl b47) (W.n (gn rfl rfl rfl b47) (sv (ptk (.bool true) rfl b47 rfl) (sv (mvv (.bool true) rfl) (W.n (gn rfl rfl rfl rfl) (W.n (gn rfl rfl rfl rfl) (W.n (gn rfl rfl rfl rfl) (W.n (gn rfl rfl rfl rfl) (sv (ptk (.bool true) rfl rfl rfl) (W.e ?_)))))))))))
            obtain rfl := Option.some.inj h46
            exact ⟨_, C, ⟨rfl, rfl, rfl, rfl, rfl, rfl, trivial⟩, h0⟩
          · refine W.v (gy rfl rfl rfl b47) (rv_fieldAddr st46 rfl rfl) ?_
            obtain ⟨cs48, h49, h50⟩ := Ow.cellsO h40 (show at_ [y37] (0 : Int) = some y37 from rfl)
            obtain rfl := api_Label.r.1 h49
            refine W.r (gy rfl rfl rfl b47) (rw_el1 (off := 0) ag9 (h50 _ (Sm.refl _ _)) rfl rfl) (W.v (gy rfl rfl rfl b47) (rv_slen Tryz.underlying9 rfl) (W.v (gy rfl rfl rfl b47) (rv_gtr rfl rfl) (sv (pfk (.bool (decide ((100 : Int) < (y37.Name.size : Int)))) rfl b47 rfl) (sv (mvv (.bool (decide ((100 : Int) < (y37.Name.size : Int)))) rfl) ?_))))
            rcases bif_some h46 with ⟨b51, h46⟩ | ⟨b51, h46⟩
            · refine W.n (gn rfl rfl rfl b51) (W.n (gn rfl rfl rfl b51) (W.n (gn rfl rfl rfl b51) (W.n (gn rfl rfl rfl b51) (sv (ptk (.bool true) rfl b51 rfl) (W.e ?_)))))
              obtain rfl := Option.some.inj h46
              exact ⟨_, C, ⟨rfl, rfl, rfl, rfl, rfl, rfl, trivial⟩, h0⟩
            · refine W.v (gy rfl rfl rfl b51) (rv_fieldAddr st46 rfl rfl) ?_
              obtain ⟨cs52, h53, h54⟩ := Ow.cellsO h40 (show at_ [y37] (0 : Int) = some y37 from rfl)
              obtain rfl := api_Label.r.1 h53
              refine W.r (gy rfl rfl rfl b51) (rw_el1 (off := 1) ag9 (h54 _ (Sm.refl _ _)) rfl rfl) (W.v (gy rfl rfl rfl b51) (rv_slen Tryz.underlying9 rfl) (W.v (gy rfl rfl rfl b51) (rv_gtr rfl rfl) (sv (pfk (.bool (decide ((100 : Int) < (y37.Val.size : Int)))) rfl b51 rfl) (W.e ?_))))
              obtain rfl := Option.some.inj h46
              exact ⟨_, C, ⟨rfl, rfl, rfl, rfl, rfl, rfl, trivial⟩, h0⟩
        · rintro ρ w56 ⟨S55, C, h57, h0⟩
          refine h57.cw fun ρ => ?_
          clear h57
          rcases bif_some h24 with ⟨b58, h24⟩ | ⟨b58, h24⟩
          · refine cw_t rfl b58 ?_
            refine cw_seq fun K59 k60 => ?_
            refine cw_region (sv (mvv v0 rfl) (sv (mvv (.int .i64 x13) rfl) ?_))
            obtain ⟨y61, h62, h24⟩ := bnd_some h24
            obtain ⟨v63, h64, h65⟩ := rv_uptoA (P := Tryz.prog) el31 h0 h62
            refine sv (h65 rfl rfl) (sv (asv v63 rfl) (W.e (k60 _ _ (cw_ret ?_))))
            obtain rfl := Option.some.inj h24
            replace h15 := h15.2 _ rfl
            obtain rfl := Option.some.inj h15
            have h66 := congrArg some h14
            obtain rfl := Option.some.inj h66
            replace h := h.2 _ rfl
            obtain rfl := Option.some.inj h
            exact ⟨_, rfl, _, _, rfl, C, h64⟩
          · refine cw_f rfl b58 (cw_skip ?_)
            obtain rfl := Option.some.inj h24
            exact ⟨_, rfl, ⟨_, C, ⟨rfl, rfl, rfl, rfl, trivial⟩, h0⟩⟩
      · rintro ρ w68 ⟨o21n, rfl, ⟨S67, C, h69, h0⟩⟩
        replace h15 := h15.1 _ rfl
        refine h69.cw fun ρ => ?_
        clear h69
        refine cw_region ?_
        obtain ⟨y70, h71, h15⟩ := pur_some h15
        refine sv (rv_add rfl rfl h71) (sv (mvv (.int .i64 y70) rfl) (W.e ?_))
        obtain rfl := Option.some.inj h15
        exact ⟨_, rfl, ⟨_, C, ⟨rfl, rfl, rfl, rfl, trivial⟩, h0⟩⟩
    · refine cw_f rfl b20 (cw_exit ?_)
      obtain rfl := Option.some.inj h15
      have h72 := congrArg some h14
      obtain rfl := Option.some.inj h72
      exact ⟨_, rfl, ⟨_, C, ⟨rfl, trivial⟩, h0⟩⟩
  · rintro ρ w74 ⟨o3n, rfl, ⟨S73, C, h75, h0⟩⟩
    replace h := h.1 _ rfl
    refine h75.cw fun ρ => ?_
    clear h75
    refine cw_seq fun K76 k77 => ?_
    refine cw_region (sv (mvv v0 rfl) (sv (asv v0 rfl) (W.e (k77 _ _ (cw_ret ?_)))))
    obtain rfl := Option.some.inj h
    exact ⟨_, rfl, _, _, rfl, C, h0⟩

noncomputable def marigraphref05_Right.b2 (a0 : List api_Label) (x13 : Int) : Option ((Int) ⊕ ((Unit) ⊕ (Bool))) :=
  (bif (decide (x13 < (a0.length : Int))) then ((((at_ a0 x13).bind fun y32 => ((marigraphref05_Name y32.Name).bind fun y37 => (bif (!y37) then some true else ((at_ a0 x13).bind fun y45 => (bif (decide ((y45.Val.size : Int) < (1 : Int))) then some true else ((at_ a0 x13).bind fun y51 => (bif (decide ((64 : Int) < (y51.Val.size : Int))) then some true else (bif (decide ((0 : Int) < x13)) then ((at_ a0 x13).bind fun y58 => (pur (IntKind.i64.wrap (x13 - (1 : Int))) fun y63 => ((at_ a0 y63).bind fun y65 => some (strLt y58.Name y65.Name || strEq y58.Name y65.Name)))) else some false)))))))).bind fun o25 => (bif o25 then some (.inr (.inr (.inr false))) else some (.inl ()))).bind (Sum.elim (fun o21n => (pur (IntKind.i64.wrap (x13 + (1 : Int))) fun y80 => some (.inl y80))) (fun q => some q))) else some (.inr (.inl ())))
noncomputable def marigraphref05_Right (a0 : List api_Label) : Option Bool :=
  ((iter (fun s : Int => marigraphref05_Right.b2 a0 s) (0 : Int)).bind (Sum.elim (fun o3n => ((bif (decide ((1 : Int) ≤ (a0.length : Int))) then some (decide ((a0.length : Int) ≤ (6 : Int))) else some false).bind fun o86 => some o86)) (fun q => some q)))
set_option maxRecDepth 100000 in
set_option maxHeartbeats 4000000 in
theorem marigraphref05_Right_w {S : Nat → Prop} {w : World} {a0 : List api_Label} {v0 : Value} {r : Bool} (hS : Sb S w) (h0 : Sl (kSl api_Label.k) S w v0 a0) (h : marigraphref05_Right a0 = some r) :
    Calls Tryz.prog 64 (List.toArray [v0]) w fun e w1 => ∃ S1, e = .returned (.bool r) ∧ Cx No S w S1 w1 := by
  refine enter Tryz.func64 rfl (by kernel_rfl) rfl ?_
  have C := Cx.refl (F := No) hS
  unfold marigraphref05_Right at h
  refine cw_seq fun K1 k2 => ?_
  refine cw_region (sv (asv (.bool false) rfl) (W.e (k2 _ _ ?_)))
  obtain ⟨o3, h6, h⟩ := bnds_some h
  refine cw_seq' (fun ρ w1 => ∃ o3n, o3 = (.inl o3n) ∧ ∃ S1, Cx No S w S1 w1 ∧ Has ρ [(0, v0)] ∧ Sl (kSl api_Label.k) S1 w1 v0 a0) ?_ ?_
  · refine cw_seq fun K7 k8 => ?_
    refine cw_region (sv (asv (.int .i64 0) rfl) (W.e (k8 _ _ (cw_block ?_))))
    refine cw_iter h6 (fun s ρ w1 => ∃ S1, Cx No S w S1 w1 ∧ Has ρ [(0, v0), (3, .int .i64 s)] ∧ Sl (kSl api_Label.k) S1 w1 v0 a0) ⟨_, C, ⟨rfl, rfl, trivial⟩, h0⟩ ?_
    rintro x13 q9 ρ w11 ⟨S10, C, h12, h0⟩ h15 h14
    refine h12.cw fun ρ => ?_
    clear h12
    replace h15 : marigraphref05_Right.b2 a0 x13 = some q9 := h15
    unfold marigraphref05_Right.b2 at h15
    refine cw_seq fun K16 k17 => ?_
    refine cw_seq fun K18 k19 => ?_
    refine cw_region (sv (mvv (.int .i64 x13) rfl) (sv (mvv v0 rfl) (sv (rv_lenS el31 h0 rfl) (sv (rv_lss rfl rfl) (W.e (k19 _ _ ?_))))))
    rcases bif_some h15 with ⟨b20, h15⟩ | ⟨b20, h15⟩
    · refine cw_t rfl b20 (cw_skip (k17 _ _ ?_))
      obtain ⟨o21, h24, h15⟩ := bnds_some h15
      refine cw_seq' (fun ρ w1 => ∃ o21n, o21 = (.inl o21n) ∧ ∃ S1, Cx No S w S1 w1 ∧ Has ρ [(0, v0), (3, .int .i64 x13)] ∧ Sl (kSl api_Label.k) S1 w1 v0 a0) ?_ ?_
      · refine cw_block ?_
        obtain ⟨o25, h28, h24⟩ := bnd_some h24
        refine cw_seq' (fun ρ w1 => ∃ S1, Cx No S w S1 w1 ∧ Has ρ [(0, v0), (3, .int .i64 x13), (52, .bool o25)] ∧ Sl (kSl api_Label.k) S1 w1 v0 a0) ?_ ?_
        · refine cw_drawU (.one 0 true (.one 1 true (.one 2 true (.one 3 true (.one 4 true (.one 5 false (.one 6 true (.one 7 true (.one 8 true (.one 9 true (.one 10 true (.one 11 true (.one 12 true (.one 13 true (.one 14 true (.one 15 true (.one 16 true (.one 17 true (.one 18 true (.one 19 true (.one 20 true (.one 21 true (.one 22 true (.one 23 true (.one 24 true (.one 25 true (.one 26 true (.one 27 true (.one 28 true (.one 29 true (.one 30 true (.one 31 true (.one 32 true (.one 33 true (.one 34 true (.one 35 true (.one 36 true (.one 37 true (.one 38 true (.one 39 true (.one 40 true (.one 41 true (.one 42 true .done))))))))))))))))))))))))))))))))))))))))))) [(4, [9]), (12, [9]), (21, [9]), (33, [9]), (39, [9])] [(5, [9])] (fun c => bif Nat.beq c 9 then (fun _ => True) else No) fol (by kernel_rfl) fun w29 u30 => ?_
          replace h0 := h0.nw u30
          replace C := C.new u30
          have h0d := h0
          have m31 := Sm.refl (fun _ => True) w29
          refine mtv rfl rfl (mvv v0 rfl) (mtv rfl rfl (mvv (.int .i64 x13) rfl) ?_)
          obtain ⟨y32, h33, h28⟩ := bnd_some h28
          refine mtv rfl rfl (rv_index el31 h0 rfl rfl h33) (mtv rfl rfl (rv_fieldAddr st46 rfl rfl) ?_)
          obtain ⟨cs34, h35, h36⟩ := Sl.cells h0 h33
          obtain rfl := api_Label.r.1 h35
          refine mtr rfl rfl ⟨m31, trivial⟩ (fun w' hq => rw_el1 (off := 0) ag9 (h36 w' (hq.1.mono fun _ _ => trivial)) rfl rfl) ?_
          obtain ⟨y37, h38, h28⟩ := bnd_some h28
          refine mtc rfl rfl (dc_call (vs := [.string y32.Name]) can82 rfl ?_)
          refine (marigraphref05_Name_w C.sb  h38).mono ?_
          rintro _ w39 ⟨S40, rfl, c41⟩
          refine ⟨_, rfl, ?_⟩
          replace h0 := h0.cx c41
          replace C := C.trans c41
          have z42 := (c41.up).size
          have m43 := m31.nx c41.up (by omega)
          refine ⟨⟨m43, trivial⟩, ?_⟩
          refine mtv rfl rfl (rv_not rfl) (mtv rfl rfl (mvv (.bool (!y37)) rfl) ?_)
          rcases bif_some h28 with ⟨b44, h28⟩ | ⟨b44, h28⟩
          · refine MT.n rfl rfl (gn rfl rfl rfl b44) trivial (MT.n rfl rfl (gn rfl rfl rfl b44) trivial (MT.n rfl rfl (gn rfl rfl rfl b44) trivial (MT.n rfl rfl (gn rfl rfl rfl b44) trivial (MT.n rfl rfl (gn rfl rfl rfl b44) ⟨m43, trivial⟩ (MT.n rfl rfl (gn rfl rfl rfl b44) trivial (MT.n rfl rfl (gn rfl rfl rfl b44) trivial (mtv rfl rfl (ptk (.bool true) rfl b44 rfl) (mtv rfl rfl (mvv (.bool true) rfl) (MT.n rfl rfl (gn rfl rfl rfl rfl) trivial (MT.n rfl rfl (gn rfl rfl rfl rfl) trivial (MT.n rfl rfl (gn rfl rfl rfl rfl) trivial ?_)))))))))))
            refine MT.n rfl rfl (gn rfl rfl rfl rfl) trivial (MT.n rfl rfl (gn rfl rfl rfl rfl) ⟨m43, trivial⟩ (MT.n rfl rfl (gn rfl rfl rfl rfl) trivial (MT.n rfl rfl (gn rfl rfl rfl rfl) trivial (mtv rfl rfl (ptk (.bool true) rfl rfl rfl) (mtv rfl rfl (mvv (.bool true) rfl) (MT.n rfl rfl (gn rfl rfl rfl rfl) trivial (MT.n rfl rfl (gn rfl rfl rfl rfl) trivial (MT.n rfl rfl (gn rfl rfl rfl rfl) trivial (MT.n rfl rfl (gu rfl rfl rfl) trivial (MT.n rfl rfl (gu rfl rfl rfl) trivial (MT.n rfl rfl (gu rfl rfl rfl) trivial ?_)))))))))))
            refine MT.n rfl rfl (gu rfl rfl rfl) trivial (MT.n rfl rfl (gu rfl rfl rfl) ⟨m43, trivial⟩ (MT.n rfl rfl (gu rfl rfl rfl) trivial (MT.n rfl rfl (gu rfl rfl rfl) trivial (MT.n rfl rfl (gu rfl rfl rfl) trivial (MT.n rfl rfl (gu rfl rfl rfl) trivial (MT.n rfl rfl (gu rfl rfl rfl) trivial (MT.n rfl rfl (gu rfl rfl rfl) ⟨m43, trivial⟩ (MT.n rfl rfl (gu rfl rfl rfl) trivial (MT.n rfl rfl (gn rfl rfl rfl rfl) trivial (mtv rfl rfl (ptk (.bool true) rfl rfl rfl) (MT.e ?_)))))))))))
            obtain rfl := Option.some.inj h28
            exact ⟨_, C, ⟨rfl, rfl, rfl, trivial⟩, h0⟩
          · refine MT.vv rfl rfl (gy rfl rfl rfl b44) (mvv v0 rfl) (MT.vv rfl rfl (gy rfl rfl rfl b44) (mvv (.int .i64 x13) rfl) ?_)
            obtain ⟨y45, h46, h28⟩ := bnd_some h28
            refine MT.vv rfl rfl (gy rfl rfl rfl b44) (rv_index el31 h0d rfl rfl h46) (MT.vv rfl rfl (gy rfl rfl rfl b44) (rv_fieldAddr st46 rfl rfl) ?_)
            obtain ⟨cs47, h48, h49⟩ := Sl.cells h0d h46
            obtain rfl := api_Label.r.1 h48
            refine MT.r rfl rfl (gy rfl rfl rfl b44) ⟨m43, trivial⟩ (fun w' hq => rw_el1 (off := 1) ag9 (h49 w' (hq.1.mono fun _ _ => trivial)) rfl rfl) (MT.vv rfl rfl (gy rfl rfl rfl b44) (rv_slen Tryz.underlying9 rfl) (MT.vv rfl rfl (gy rfl rfl rfl b44) (rv_lss rfl rfl) (mtv rfl rfl (pfk (.bool (decide ((y45.Val.size : Int) < (1 : Int)))) rfl b44 rfl) (mtv rfl rfl (mvv (.bool (decide ((y45.Val.size : Int) < (1 : Int)))) rfl) ?_))))
            rcases bif_some h28 with ⟨b50, h28⟩ | ⟨b50, h28⟩
            · refine MT.n rfl rfl (gn rfl rfl rfl b50) trivial (MT.n rfl rfl (gn rfl rfl rfl b50) trivial (MT.n rfl rfl (gn rfl rfl rfl b50) trivial (MT.n rfl rfl (gn rfl rfl rfl b50) trivial (MT.n rfl rfl (gn rfl rfl rfl b50) ⟨m43, trivial⟩ (MT.n rfl rfl (gn rfl rfl rfl b50) trivial (MT.n rfl rfl (gn rfl rfl rfl b50) trivial (mtv rfl rfl (ptk (.bool true) rfl b50 rfl) (mtv rfl rfl (mvv (.bool true) rfl) (MT.n rfl rfl (gn rfl rfl rfl rfl) trivial (MT.n rfl rfl (gn rfl rfl rfl rfl) trivial (MT.n rfl rfl (gn rfl rfl rfl rfl) trivial ?_)))))))))))
              refine MT.n rfl rfl (gu rfl rfl rfl) trivial (MT.n rfl rfl (gu rfl rfl rfl) trivial (MT.n rfl rfl (gu rfl rfl rfl) trivial (MT.n rfl rfl (gu rfl rfl rfl) trivial (MT.n rfl rfl (gu rfl rfl rfl) ⟨m43, trivial⟩ (MT.n rfl rfl (gu rfl rfl rfl) trivial (MT.n rfl rfl (gu rfl rfl rfl) trivial (MT.n rfl rfl (gu rfl rfl rfl) trivial (MT.n rfl rfl (gu rfl rfl rfl) trivial (MT.n rfl rfl (gu rfl rfl rfl) trivial (MT.n rfl rfl (gu rfl rfl rfl) ⟨m43, trivial⟩ (MT.n rfl rfl (gu rfl rfl rfl) trivial ?_)))))))))))
              refine MT.n rfl rfl (gn rfl rfl rfl rfl) trivial (mtv rfl rfl (ptk (.bool true) rfl rfl rfl) (MT.e ?_))
              obtain rfl := Option.some.inj h28
              exact ⟨_, C, ⟨rfl, rfl, rfl, trivial⟩, h0⟩
            · refine MT.vv rfl rfl (gy rfl rfl rfl b50) (mvv v0 rfl) (MT.vv rfl rfl (gy rfl rfl rfl b50) (mvv (.int .i64 x13) rfl) ?_)
              obtain ⟨y51, h52, h28⟩ := bnd_some h28
              refine MT.vv rfl rfl (gy rfl rfl rfl b50) (rv_index el31 h0d rfl rfl h52) (MT.vv rfl rfl (gy rfl rfl rfl b50) (rv_fieldAddr st46 rfl rfl) ?_)
              obtain ⟨cs53, h54, h55⟩ := Sl.cells h0d h52
              obtain rfl := api_Label.r.1 h54
              refine MT.r rfl rfl (gy rfl rfl rfl b50) ⟨m43, trivial⟩ (fun w' hq => rw_el1 (off := 1) ag9 (h55 w' (hq.1.mono fun _ _ => trivial)) rfl rfl) (MT.vv rfl rfl (gy rfl rfl rfl b50) (rv_slen Tryz.underlying9 rfl) (MT.vv rfl rfl (gy rfl rfl rfl b50) (rv_gtr rfl rfl) (mtv rfl rfl (pfk (.bool (decide ((64 : Int) < (y51.Val.size : Int)))) rfl b50 rfl) (mtv rfl rfl (mvv (.bool (decide ((64 : Int) < (y51.Val.size : Int)))) rfl) ?_))))
              rcases bif_some h28 with ⟨b56, h28⟩ | ⟨b56, h28⟩
              · refine MT.n rfl rfl (gn rfl rfl rfl b56) trivial (MT.n rfl rfl (gn rfl rfl rfl b56) trivial (MT.n rfl rfl (gn rfl rfl rfl b56) trivial (MT.n rfl rfl (gu rfl rfl rfl) trivial (MT.n rfl rfl (gu rfl rfl rfl) trivial (MT.n rfl rfl (gu rfl rfl rfl) trivial (MT.n rfl rfl (gu rfl rfl rfl) trivial (MT.n rfl rfl (gu rfl rfl rfl) ⟨m43, trivial⟩ (MT.n rfl rfl (gu rfl rfl rfl) trivial (MT.n rfl rfl (gu rfl rfl rfl) trivial (MT.n rfl rfl (gu rfl rfl rfl) trivial (MT.n rfl rfl (gu rfl rfl rfl) trivial ?_)))))))))))
                refine MT.n rfl rfl (gu rfl rfl rfl) trivial (MT.n rfl rfl (gu rfl rfl rfl) ⟨m43, trivial⟩ (MT.n rfl rfl (gu rfl rfl rfl) trivial (MT.n rfl rfl (gn rfl rfl rfl b56) trivial (mtv rfl rfl (ptk (.bool true) rfl b56 rfl) (MT.e ?_)))))
                obtain rfl := Option.some.inj h28
                exact ⟨_, C, ⟨rfl, rfl, rfl, trivial⟩, h0⟩
              · refine MT.vv rfl rfl (gy rfl rfl rfl b56) (mvv (.int .i64 x13) rfl) (MT.vv rfl rfl (gy rfl rfl rfl b56) (rv_gtr rfl rfl) (MT.vv rfl rfl (gy rfl rfl rfl b56) (mvv (.bool (decide ((0 : Int) < x13))) rfl) ?_))
                rcases bif_some h28 with ⟨b57, h28⟩ | ⟨b57, h28⟩
                · refine MT.vv rfl rfl (gy rfl rfl rfl b57) (mvv v0 rfl) (MT.vv rfl rfl (gy rfl rfl rfl b57) (mvv (.int .i64 x13) rfl) ?_)
                  obtain ⟨y58, h59, h28⟩ := bnd_some h28
                  refine MT.vv rfl rfl (gy rfl rfl rfl b57) (rv_index el31 h0d rfl rfl h59) (MT.vv rfl rfl (gy rfl rfl rfl b57) (rv_fieldAddr st46 rfl rfl) ?_)
                  obtain ⟨cs60, h61, h62⟩ := Sl.cells h0d h59
                  obtain rfl := api_Label.r.1 h61
                  refine MT.r rfl rfl (gy rfl rfl rfl b57) ⟨m43, trivial⟩ (fun w' hq => rw_el1 (off := 0) ag9 (h62 w' (hq.1.mono fun _ _ => trivial)) rfl rfl) (MT.vv rfl rfl (gy rfl rfl rfl b57) (mvv v0 rfl) (MT.vv rfl rfl (gy rfl rfl rfl b57) (mvv (.int .i64 x13) rfl) ?_))
                  obtain ⟨y63, h64, h28⟩ := pur_some h28
                  refine MT.vv rfl rfl (gy rfl rfl rfl b57) (rv_sub rfl rfl h64) ?_
                  obtain ⟨y65, h66, h28⟩ := bnd_some h28
                  refine MT.vv rfl rfl (gy rfl rfl rfl b57) (rv_index el31 h0d rfl rfl h66) (MT.vv rfl rfl (gy rfl rfl rfl b57) (rv_fieldAddr st46 rfl rfl) ?_)
                  obtain ⟨cs67, h68, h69⟩ := Sl.cells h0d h66
                  obtain rfl := api_Label.r.1 h68
                  refine MT.r rfl rfl (gy rfl rfl rfl b57) ⟨m43, trivial⟩ (fun w' hq => rw_el1 (off := 0) ag9 (h69 w' (hq.1.mono fun _ _ => trivial)) rfl rfl) (MT.vv rfl rfl (gy rfl rfl rfl b57) (rv_sleq rfl rfl) (MT.vv rfl rfl (gy rfl rfl rfl b56) (ptk (.bool (strLt y58.Name y65.Name || strEq y58.Name y65.Name)) rfl b57 rfl) (mtv rfl rfl (pfk (.bool (strLt y58.Name y65.Name || strEq y58.Name y65.Name)) rfl b56 rfl) (MT.e ?_))))
                  obtain rfl := Option.some.inj h28
                  exact ⟨_, C, ⟨rfl, rfl, rfl, trivial⟩, h0⟩
                · refine MT.n rfl rfl (gn rfl rfl rfl b57) trivial (MT.n rfl rfl (gn rfl rfl rfl b57) trivial (MT.n rfl rfl (gn rfl rfl rfl b57) trivial (MT.n rfl rfl (gn rfl rfl rfl b57) trivial (MT.n rfl rfl (gn rfl rfl rfl b57) ⟨m43, trivial⟩ (MT.n rfl rfl (gn rfl rfl rfl b57) trivial (MT.n rfl rfl (gn rfl rfl rfl b57) trivial (MT.n rfl rfl (gn rfl rfl rfl b57) trivial (MT.n rfl rfl (gn rfl rfl rfl b57) trivial (MT.n rfl rfl (gn rfl rfl rfl b57) trivial (MT.n rfl rfl (gn rfl rfl rfl b57) ⟨m43, trivial⟩ (MT.n rfl rfl (gn rfl rfl rfl b57) trivial ?_)))))))))))
                  refine MT.vv rfl rfl (gy rfl rfl rfl b56) (pfk (.bool false) rfl b57 rfl) (mtv rfl rfl (pfk (.bool false) rfl b56 rfl) (MT.e ?_))
                  obtain rfl := Option.some.inj h28
                  exact ⟨_, C, ⟨rfl, rfl, rfl, trivial⟩, h0⟩
        · rintro ρ w71 ⟨S70, C, h72, h0⟩
          refine h72.cw fun ρ => ?_
          clear h72
          rcases bif_some h24 with ⟨b73, h24⟩ | ⟨b73, h24⟩
          · refine cw_t rfl b73 ?_
            refine cw_seq fun K74 k75 => ?_
            refine cw_region (sv (asv (.bool false) rfl) (W.e (k75 _ _ (cw_ret ?_))))
            obtain rfl := Option.some.inj h24
            replace h15 := h15.2 _ rfl
            obtain rfl := Option.some.inj h15
            have h76 := congrArg some h14
            obtain rfl := Option.some.inj h76
            replace h := h.2 _ rfl
            obtain rfl := Option.some.inj h
            exact ⟨_, rfl, _, rfl, C⟩
          · refine cw_f rfl b73 (cw_skip ?_)
            obtain rfl := Option.some.inj h24
            exact ⟨_, rfl, ⟨_, C, ⟨rfl, rfl, trivial⟩, h0⟩⟩
      · rintro ρ w78 ⟨o21n, rfl, ⟨S77, C, h79, h0⟩⟩
        replace h15 := h15.1 _ rfl
        refine h79.cw fun ρ => ?_
        clear h79
        refine cw_region (sv (mvv (.int .i64 x13) rfl) ?_)
        obtain ⟨y80, h81, h15⟩ := pur_some h15
        refine sv (rv_add rfl rfl h81) (sv (asv (.int .i64 y80) rfl) (W.e ?_))
        obtain rfl := Option.some.inj h15
        exact ⟨_, rfl, ⟨_, C, ⟨rfl, rfl, trivial⟩, h0⟩⟩
    · refine cw_f rfl b20 (cw_exit ?_)
      obtain rfl := Option.some.inj h15
      have h82 := congrArg some h14
      obtain rfl := Option.some.inj h82
      exact ⟨_, rfl, ⟨_, C, ⟨rfl, trivial⟩, h0⟩⟩
  · rintro ρ w84 ⟨o3n, rfl, ⟨S83, C, h85, h0⟩⟩
    replace h := h.1 _ rfl
    refine h85.cw fun ρ => ?_
    clear h85
    obtain ⟨o86, h89, h⟩ := bnd_some h
    refine cw_seq' (fun ρ w1 => ∃ S1, Cx No S w S1 w1 ∧ Has ρ [(2, .bool o86)]) ?_ ?_
    · refine cw_region (sv (mvv v0 rfl) (sv (rv_lenS el31 h0 rfl) (sv (rv_geq rfl rfl) (sv (mvv (.bool (decide ((1 : Int) ≤ (a0.length : Int)))) rfl) ?_))))
      rcases bif_some h89 with ⟨b90, h89⟩ | ⟨b90, h89⟩
      · refine W.v (gy rfl rfl rfl b90) (mvv v0 rfl) (W.v (gy rfl rfl rfl b90) (rv_lenS el31 h0 rfl) (W.v (gy rfl rfl rfl b90) (rv_leq rfl rfl) (sv (ptk (.bool (decide ((a0.length : Int) ≤ (6 : Int)))) rfl b90 rfl) (sv (asv (.bool (decide ((a0.length : Int) ≤ (6 : Int)))) rfl) (W.e ?_)))))
        obtain rfl := Option.some.inj h89
        exact ⟨_, C, ⟨rfl, trivial⟩⟩
      · refine W.n (gn rfl rfl rfl b90) (W.n (gn rfl rfl rfl b90) (W.n (gn rfl rfl rfl b90) (sv (pfk (.bool false) rfl b90 rfl) (sv (asv (.bool false) rfl) (W.e ?_)))))
        obtain rfl := Option.some.inj h89
        exact ⟨_, C, ⟨rfl, trivial⟩⟩
    · rintro ρ w92 ⟨S91, C, h93⟩
      refine h93.cw fun ρ => ?_
      clear h93
      refine cw_ret ?_
      obtain rfl := Option.some.inj h
      exact ⟨_, rfl, _, rfl, C⟩

noncomputable def marigraphref05_Sort.b7 (a0 : List api_Label) (x17 : List api_Label) (x18 : Int) (x52 : Int) : Option ((Int) ⊕ (Int)) :=
  (((bif (decide (x52 < (x17.length : Int))) then ((at_ x17 x52).bind fun y67 => ((at_ a0 x18).bind fun y72 => some (strLt y67.Name y72.Name))) else some false).bind fun o59 => (bif o59 then some (.inl ()) else some (.inr (.inr x52)))).bind (Sum.elim (fun o55n => (pur (IntKind.i64.wrap (x52 + (1 : Int))) fun y85 => some (.inl y85))) (fun q => some q)))
noncomputable def marigraphref05_Sort.b2 (a0 : List api_Label) (x17 : List api_Label) (x18 : Int) : Option (((List api_Label) × Int) ⊕ ((List api_Label))) :=
  (((bif (decide (x18 < (a0.length : Int))) then some (decide (x18 ≤ (6 : Int))) else some false).bind fun o25 => (bif o25 then some (.inl ()) else some (.inr (.inr x17)))).bind (Sum.elim (fun o21n => (((iter (fun s : Int => marigraphref05_Sort.b7 a0 x17 x18 s) (0 : Int)).bind fun o44 => ((from_ x17 o44).bind fun y98 => ((app_ 32 ([] : List api_Label) y98).bind fun y104 => ((upto_ x17 o44).bind fun y118 => ((at_ a0 x18).bind fun y125 => ((app_ 32 y118 ([y125] : List api_Label)).bind fun y139 => ((app_ 32 y139 y104).bind fun y150 => some y150))))))).bind fun o38 => (pur (IntKind.i64.wrap (x18 + (1 : Int))) fun y163 => some (.inl (o38, y163))))) (fun q => some q)))
noncomputable def marigraphref05_Sort (a0 : List api_Label) : Option ((List api_Label) × Int) :=
  ((iter (fun s : (List api_Label) × Int => marigraphref05_Sort.b2 a0 s.1 s.2) (([] : List api_Label), (0 : Int))).bind fun o5 => ((marigraphref05_Right o5).bind fun y174 => (bif (!y174) then some (([] : List api_Label), (50 : Int)) else some (o5, (0 : Int)))))
set_option maxRecDepth 100000 in
set_option maxHeartbeats 4000000 in
theorem marigraphref05_Sort_w {S : Nat → Prop} {w : World} {a0 : List api_Label} {v0 : Value} {r : (List api_Label) × Int} (hS : Sb S w) (h0 : Sl (kSl api_Label.k) S w v0 a0) (h : marigraphref05_Sort a0 = some r) :
    Calls Tryz.prog 57 (List.toArray [v0]) w fun e w1 => ∃ S1 u0, e = .returned (.tuple (List.toArray [u0, .int .i64 r.2])) ∧ Cx No S w S1 w1 ∧ Sl (kSl api_Label.k) S1 w1 u0 r.1 := by
  refine enter Tryz.func57 rfl (by kernel_rfl) rfl ?_
  have C := Cx.refl (F := No) hS
  unfold marigraphref05_Sort at h
  refine cw_seq fun K1 k2 => ?_
  refine cw_region (sv (asv (.slice none 0 0) rfl) (sv (asv (.int .i64 0) rfl) (W.e (k2 _ _ ?_))))
  refine cw_seq fun K3 k4 => ?_
  refine cw_region (sv (asv (.slice none 0 0) rfl) (W.e (k4 _ _ ?_)))
  obtain ⟨o5, h8, h⟩ := bnd_some h
  refine cw_seq' (fun ρ w1 => ∃ S1 v167, Cx No S w S1 w1 ∧ Has ρ [(4, v167)] ∧ Ow api_Label.k 46 S1 w.heap.size w1 v167 o5) ?_ ?_
  · refine cw_seq fun K9 k10 => ?_
    refine cw_region (sv (asv (.int .i64 0) rfl) (W.e (k10 _ _ (cw_block ?_))))
    refine cw_iter h8 (fun s ρ w1 => ∃ S1 v14, Cx No S w S1 w1 ∧ Has ρ [(0, v0), (4, v14), (5, .int .i64 s.2)] ∧ Sl (kSl api_Label.k) S1 w1 v0 a0 ∧ Ow api_Label.k 46 S1 w.heap.size w1 v14 s.1) ⟨_, _, C, ⟨rfl, rfl, rfl, trivial⟩, h0, Ow.nil _ _ _ _ _⟩ ?_
    rintro ⟨x17, x18⟩ q11 ρ w13 ⟨S12, v14, C, h16, h0, h15⟩ h20 h19
    refine h16.cw fun ρ => ?_
    clear h16
    replace h20 : marigraphref05_Sort.b2 a0 x17 x18 = some q11 := h20
    unfold marigraphref05_Sort.b2 at h20
    obtain ⟨o21, h24, h20⟩ := bnds_some h20
    refine cw_seq' (fun ρ w1 => ∃ o21n, o21 = (.inl o21n) ∧ ∃ S1, Cx No S w S1 w1 ∧ Has ρ [(0, v0), (4, v14), (5, .int .i64 x18)] ∧ Sl (kSl api_Label.k) S1 w1 v0 a0 ∧ Ow api_Label.k 46 S1 w.heap.size w1 v14 x17) ?_ ?_
    · obtain ⟨o25, h28, h24⟩ := bnd_some h24
      refine cw_seq' (fun ρ w1 => ∃ S1, Cx No S w S1 w1 ∧ Has ρ [(0, v0), (4, v14), (5, .int .i64 x18), (15, .bool o25)] ∧ Sl (kSl api_Label.k) S1 w1 v0 a0 ∧ Ow api_Label.k 46 S1 w.heap.size w1 v14 x17) ?_ ?_
      · refine cw_region (sv (mvv (.int .i64 x18) rfl) (sv (mvv v0 rfl) (sv (rv_lenS el31 h0 rfl) (sv (rv_lss rfl rfl) (sv (mvv (.bool (decide (x18 < (a0.length : Int)))) rfl) ?_)))))
        rcases bif_some h28 with ⟨b29, h28⟩ | ⟨b29, h28⟩
        · refine W.v (gy rfl rfl rfl b29) (mvv (.int .i64 x18) rfl) (W.v (gy rfl rfl rfl b29) (rv_leq rfl rfl) (sv (ptk (.bool (decide (x18 ≤ (6 : Int)))) rfl b29 rfl) (W.e ?_)))
          obtain rfl := Option.some.inj h28
          exact ⟨_, C, ⟨rfl, rfl, rfl, rfl, trivial⟩, h0, h15⟩
        · refine W.n (gn rfl rfl rfl b29) (W.n (gn rfl rfl rfl b29) (sv (pfk (.bool false) rfl b29 rfl) (W.e ?_)))
          obtain rfl := Option.some.inj h28
          exact ⟨_, C, ⟨rfl, rfl, rfl, rfl, trivial⟩, h0, h15⟩
      · rintro ρ w31 ⟨S30, C, h32, h0, h15⟩
        refine h32.cw fun ρ => ?_
        clear h32
        rcases bif_some h24 with ⟨b33, h24⟩ | ⟨b33, h24⟩
        · refine cw_t rfl b33 (cw_skip ?_)
          obtain rfl := Option.some.inj h24
          exact ⟨_, rfl, ⟨_, C, ⟨rfl, rfl, rfl, trivial⟩, h0, h15⟩⟩
        · refine cw_f rfl b33 (cw_exit ?_)
          obtain rfl := Option.some.inj h24
          replace h20 := h20.2 _ rfl
          obtain rfl := Option.some.inj h20
          have h34 := congrArg some h19
          obtain rfl := Option.some.inj h34
          exact ⟨_, _, C, ⟨rfl, trivial⟩, h15⟩
    · rintro ρ w36 ⟨o21n, rfl, ⟨S35, C, h37, h0, h15⟩⟩
      replace h20 := h20.1 _ rfl
      refine h37.cw fun ρ => ?_
      clear h37
      obtain ⟨o38, h41, h20⟩ := bnd_some h20
      refine cw_seq' (fun ρ w1 => ∃ S1 v160, Cx No S w S1 w1 ∧ Has ρ [(0, v0), (4, v160), (5, .int .i64 x18)] ∧ Sl (kSl api_Label.k) S1 w1 v0 a0 ∧ Ow api_Label.k 46 S1 w.heap.size w1 v160 o38) ?_ ?_
      · refine cw_block ?_
        refine cw_seq fun K42 k43 => ?_
        refine cw_region (sv (asv (.int .i64 0) rfl) (W.e (k43 _ _ ?_)))
        obtain ⟨o44, h47, h41⟩ := bnd_some h41
        refine cw_seq' (fun ρ w1 => ∃ S1, Cx No S w S1 w1 ∧ Has ρ [(0, v0), (4, v14), (5, .int .i64 x18), (6, .int .i64 o44)] ∧ Sl (kSl api_Label.k) S1 w1 v0 a0 ∧ Ow api_Label.k 46 S1 w.heap.size w1 v14 x17) ?_ ?_
        · refine cw_block ?_
          refine cw_iter h47 (fun s ρ w1 => ∃ S1, Cx No S w S1 w1 ∧ Has ρ [(0, v0), (4, v14), (5, .int .i64 x18), (6, .int .i64 s)] ∧ Sl (kSl api_Label.k) S1 w1 v0 a0 ∧ Ow api_Label.k 46 S1 w.heap.size w1 v14 x17) ⟨_, C, ⟨rfl, rfl, rfl, rfl, trivial⟩, h0, h15⟩ ?_
          rintro x52 q48 ρ w50 ⟨S49, C, h51, h0, h15⟩ h54 h53
          refine h51.cw fun ρ => ?_
          clear h51
          replace h54 : marigraphref05_Sort.b7 a0 x17 x18 x52 = some q48 := h54
          unfold marigraphref05_Sort.b7 at h54
          obtain ⟨o55, h58, h54⟩ := bnds_some h54
          refine cw_seq' (fun ρ w1 => ∃ o55n, o55 = (.inl o55n) ∧ ∃ S1, Cx No S w S1 w1 ∧ Has ρ [(0, v0), (4, v14), (5, .int .i64 x18), (6, .int .i64 x52)] ∧ Sl (kSl api_Label.k) S1 w1 v0 a0 ∧ Ow api_Label.k 46 S1 w.heap.size w1 v14 x17) ?_ ?_
          · obtain ⟨o59, h62, h58⟩ := bnd_some h58
            refine cw_seq' (fun ρ w1 => ∃ S1, Cx No S w S1 w1 ∧ Has ρ [(0, v0), (4, v14), (5, .int .i64 x18), (6, .int .i64 x52), (34, .bool o59)] ∧ Sl (kSl api_Label.k) S1 w1 v0 a0 ∧ Ow api_Label.k 46 S1 w.heap.size w1 v14 x17) ?_ ?_
            · refine cw_drawU (.one 0 true (.one 1 true (.one 2 true (.one 3 true (.one 4 true (.one 5 true (.one 6 true (.one 7 true (.one 8 true (.one 9 true (.one 10 true (.one 11 true (.one 12 true (.one 13 true (.one 14 true (.one 15 true (.one 16 true .done))))))))))))))))) [(9, [9]), (14, [9])] [] (fun c => bif Nat.beq c 9 then (fun _ => True) else No) fol (by kernel_rfl) fun w63 u64 => ?_
              replace h0 := h0.nw u64
              replace h15 := h15.nw u64
              replace C := C.new u64
              have m65 := Sm.refl (fun _ => True) w63
              refine mtv rfl rfl (mvv (.int .i64 x52) rfl) (mtv rfl rfl (mvv v14 rfl) (mtv rfl rfl (rv_lenS el31 h15.sealed rfl) (mtv rfl rfl (rv_lss rfl rfl) (mtv rfl rfl (mvv (.bool (decide (x52 < (x17.length : Int)))) rfl) ?_))))
              rcases bif_some h62 with ⟨b66, h62⟩ | ⟨b66, h62⟩
              · refine MT.vv rfl rfl (gy rfl rfl rfl b66) (mvv v14 rfl) (MT.vv rfl rfl (gy rfl rfl rfl b66) (mvv (.int .i64 x52) rfl) ?_)
                obtain ⟨y67, h68, h62⟩ := bnd_some h62
                refine MT.vv rfl rfl (gy rfl rfl rfl b66) (rv_index el31 h15.sealed rfl rfl h68) (MT.vv rfl rfl (gy rfl rfl rfl b66) (rv_fieldAddr st46 rfl rfl) ?_)
                obtain ⟨cs69, h70, h71⟩ := Ow.cellsO h15 h68
                obtain rfl := api_Label.r.1 h70
                refine MT.r rfl rfl (gy rfl rfl rfl b66) ⟨m65, trivial⟩ (fun w' hq => rw_el1 (off := 0) ag9 (h71 w' (hq.1.mono fun _ _ => trivial)) rfl rfl) (MT.vv rfl rfl (gy rfl rfl rfl b66) (mvv v0 rfl) (MT.vv rfl rfl (gy rfl rfl rfl b66) (mvv (.int .i64 x18) rfl) ?_))
                obtain ⟨y72, h73, h62⟩ := bnd_some h62
                refine MT.vv rfl rfl (gy rfl rfl rfl b66) (rv_index el31 h0 rfl rfl h73) (MT.vv rfl rfl (gy rfl rfl rfl b66) (rv_fieldAddr st46 rfl rfl) ?_)
                obtain ⟨cs74, h75, h76⟩ := Sl.cells h0 h73
                obtain rfl := api_Label.r.1 h75
                refine MT.r rfl rfl (gy rfl rfl rfl b66) ⟨m65, trivial⟩ (fun w' hq => rw_el1 (off := 0) ag9 (h76 w' (hq.1.mono fun _ _ => trivial)) rfl rfl) (MT.vv rfl rfl (gy rfl rfl rfl b66) (rv_slss rfl rfl) (mtv rfl rfl (ptk (.bool (strLt y67.Name y72.Name)) rfl b66 rfl) (MT.e ?_)))
                obtain rfl := Option.some.inj h62
                exact ⟨_, C, ⟨rfl, rfl, rfl, rfl, rfl, trivial⟩, h0, h15⟩
              · refine MT.n rfl rfl (gn rfl rfl rfl b66) trivial (MT.n rfl rfl (gn rfl rfl rfl b66) trivial (MT.n rfl rfl (gn rfl rfl rfl b66) trivial (MT.n rfl rfl (gn rfl rfl rfl b66) trivial (MT.n rfl rfl (gn rfl rfl rfl b66) ⟨m65, trivial⟩ (MT.n rfl rfl (gn rfl rfl rfl b66) trivial (MT.n rfl rfl (gn rfl rfl rfl b66) trivial (MT.n rfl rfl (gn rfl rfl rfl b66) trivial (MT.n rfl rfl (gn rfl rfl rfl b66) trivial (MT.n rfl rfl (gn rfl rfl rfl b66) ⟨m65, trivial⟩ (MT.n rfl rfl (gn rfl rfl rfl b66) trivial (mtv rfl rfl (pfk (.bool false) rfl b66 rfl) ?_)))))))))))
                refine MT.e ?_
                obtain rfl := Option.some.inj h62
                exact ⟨_, C, ⟨rfl, rfl, rfl, rfl, rfl, trivial⟩, h0, h15⟩
            · rintro ρ w78 ⟨S77, C, h79, h0, h15⟩
              refine h79.cw fun ρ => ?_
              clear h79
              rcases bif_some h58 with ⟨b80, h58⟩ | ⟨b80, h58⟩
              · refine cw_t rfl b80 (cw_skip ?_)
                obtain rfl := Option.some.inj h58
                exact ⟨_, rfl, ⟨_, C, ⟨rfl, rfl, rfl, rfl, trivial⟩, h0, h15⟩⟩
              · refine cw_f rfl b80 (cw_exit ?_)
                obtain rfl := Option.some.inj h58
                replace h54 := h54.2 _ rfl
                obtain rfl := Option.some.inj h54
                have h81 := congrArg some h53
                obtain rfl := Option.some.inj h81
                exact ⟨_, C, ⟨rfl, rfl, rfl, rfl, trivial⟩, h0, h15⟩
          · rintro ρ w83 ⟨o55n, rfl, ⟨S82, C, h84, h0, h15⟩⟩
            replace h54 := h54.1 _ rfl
            refine h84.cw fun ρ => ?_
            clear h84
            refine cw_block (cw_region (sv (mvv (.int .i64 x52) rfl) ?_))
            obtain ⟨y85, h86, h54⟩ := pur_some h54
            refine sv (rv_add rfl rfl h86) (sv (asv (.int .i64 y85) rfl) (W.e ?_))
            obtain rfl := Option.some.inj h54
            exact ⟨_, rfl, ⟨_, C, ⟨rfl, rfl, rfl, rfl, trivial⟩, h0, h15⟩⟩
        · rintro ρ w88 ⟨S87, C, h89, h0, h15⟩
          refine h89.cw fun ρ => ?_
          clear h89
          refine cw_seq fun K90 k91 => ?_
          refine cw_region ?_
          refine sc (dc_lit (vs := []) (xs := ([] : List api_Label)) (base := w.heap.size) el31 rfl rfl (.nil) (Nat.le_of_ble_eq_true rfl) C.up.size C.sb fun v92 w93 h94 h95 u96 => ?_)
          have p97 := ap_fresh h95 (fun b hb => (h15.lt b hb).2)
          replace h0 := h0.nw u96
          replace h15 := h15.nw u96
          replace C := C.new u96
          refine sv (mvv v14 rfl) (sv (mvv (.int .i64 o44) rfl) ?_)
          obtain ⟨y98, h99, h41⟩ := bnd_some h41
          obtain ⟨v100, h101, h102, h103⟩ := Ow.fromO (P := Tryz.prog) h15 h99 el31
          refine sv (h103 rfl rfl) ?_
          obtain ⟨y104, h105, h41⟩ := bnd_some h41
          have h111 := h94
          refine sc (dc_append el31 (by decide) h111 h102 rfl rfl h105 C.up.size C.sb fun v106 w107 h108 u109 h110 => ?_)
          have p112 := ap_grow p97 h110 (fun b hb => (h15.lt b hb).2)
          replace h0 := h0.wr u109 h111.not
          replace h15 := h15.wr u109 h111.not (ap_symm p97)
          replace C := C.ow h111 u109
          refine sv (asv v106 rfl) (W.e (k91 _ _ ?_))
          refine cw_seq fun K113 k114 => ?_
          refine cw_drawU (.one 0 true (.one 1 true (.one 2 true (.one 3 true (.one 4 true (.one 5 true (.one 6 true (.one 7 false (.one 8 false (.one 9 true .done)))))))))) [(6, [0])] [(7, []), (8, [0])] (fun c => bif Nat.beq c 0 then S87 else No) fol (by kernel_rfl) fun w115 u116 => ?_
          replace h0 := h0.nw u116
          replace h15 := h15.nw u116
          replace h108 := h108.nw u116
          replace C := C.new u116
          have h0d := h0
          have h15d := h15
          have h108d := h108
          have m117 := Sm.refl S87 w115
          refine mtv rfl rfl (mvv v14 rfl) (mtv rfl rfl (mvv (.int .i64 o44) rfl) ?_)
          obtain ⟨y118, h119, h41⟩ := bnd_some h41
          obtain ⟨v120, h121, h122, h123⟩ := Ow.upto (P := Tryz.prog) h15 h119 el31
          have p124 : Ap v120 v106 := fun b hq => (ap_symm p112) b (h122 b hq)
          refine mtv rfl rfl (h123 rfl rfl) (mtv rfl rfl (mvv v0 rfl) (mtv rfl rfl (mvv (.int .i64 x18) rfl) ?_))
          obtain ⟨y125, h126, h41⟩ := bnd_some h41
          refine mtv rfl rfl (rv_index el31 h0 rfl rfl h126) ?_
          obtain ⟨v127, h128, h129⟩ := rw_loadA (P := Tryz.prog) el31 h0 h126
          obtain rfl := api_Label.o.1 h128
          refine mtr rfl rfl ⟨m117, trivial⟩ (fun w' hq => h129 w' hq.1 rfl) ?_
          refine mtc rfl rfl (dc_lit (vs := [.agg (List.toArray [.string y125.Name, .string y125.Val])]) (xs := ([y125] : List api_Label)) (base := w.heap.size) el31 rfl rfl (.cons ((api_Label.o (x := y125)).2 rfl) (.nil)) (Nat.le_of_ble_eq_true rfl) C.up.size C.sb fun v130 w131 h132 h133 u134 => ?_)
          have p135 := ap_fresh h133 (fun b hb => (h108.lt b hb).2)
          have p136 := ap_fresh h133 (fun b hb => (h121.lt b hb).2)
          replace h0 := h0.nw u134
          replace h108 := h108.nw u134
          replace h121 := h121.nw u134
          replace C := C.new u134
          have z137 := (u134).size
          have m138 := m117.nx u134 (by omega)
          refine ⟨trivial, ?_⟩
          obtain ⟨y139, h140, h41⟩ := bnd_some h41
          have h146 := h121
          refine mtc rfl rfl (dc_append el31 (by decide) h146 h132.src rfl rfl h140 C.up.size C.sb fun v141 w142 h143 u144 h145 => ?_)
          have p147 := ap_grow p124 h145 (fun b hb => (h108.lt b hb).2)
          replace h0 := h0.wr u144 h146.not
          replace h108 := h108.wr u144 h146.not (ap_symm p124)
          replace C := C.ow h146 u144
          have z148 := (u144).size
          have m149 := m138.wrC u144 (by omega) h146.not
          refine ⟨⟨m149, trivial⟩, ?_⟩
          refine mtv rfl rfl (asv v141 rfl) (MT.e (k114 _ _ (cw_region (sv (mvv v141 rfl) (sv (mvv v106 rfl) ?_)))))
          obtain ⟨y150, h151, h41⟩ := bnd_some h41
          have h157 := h143
          refine sc (dc_append el31 (by decide) h157 h108.src rfl rfl h151 C.up.size C.sb fun v152 w153 h154 u155 h156 => ?_)
          replace h0 := h0.wr u155 h157.not
          replace C := C.ow h157 u155
          refine sv (asv v152 rfl) (W.e ?_)
          obtain rfl := Option.some.inj h41
          exact ⟨_, _, C, ⟨rfl, rfl, rfl, trivial⟩, h0, h154⟩
      · rintro ρ w159 ⟨S158, v160, C, h162, h0, h161⟩
        refine h162.cw fun ρ => ?_
        clear h162
        refine cw_region (sv (mvv (.int .i64 x18) rfl) ?_)
        obtain ⟨y163, h164, h20⟩ := pur_some h20
        refine sv (rv_add rfl rfl h164) (sv (asv (.int .i64 y163) rfl) (W.e ?_))
        obtain rfl := Option.some.inj h20
        exact ⟨_, rfl, ⟨_, _, C, ⟨rfl, rfl, rfl, trivial⟩, h0, h161⟩⟩
  · rintro ρ w166 ⟨S165, v167, C, h169, h168⟩
    refine h169.cw fun ρ => ?_
    clear h169
    refine cw_seq fun K170 k171 => ?_
    refine cw_seq fun K172 k173 => ?_
    refine cw_region (sv (mvv v167 rfl) ?_)
    replace C := C.sealO h168
    replace h168 := h168.sealed
    obtain ⟨y174, h175, h⟩ := bnd_some h
    refine sc (dc_call (vs := [v167]) can64 rfl ?_)
    refine (marigraphref05_Right_w C.sb h168 h175).mono ?_
    rintro _ w176 ⟨S177, rfl, c178⟩
    refine ⟨_, rfl, ?_⟩
    replace h168 := h168.cx c178
    replace C := C.trans c178
    refine sv (rv_not rfl) (W.e (k173 _ _ ?_))
    rcases bif_some h with ⟨b179, h⟩ | ⟨b179, h⟩
    · refine cw_t rfl b179 ?_
      refine cw_seq fun K180 k181 => ?_
      refine cw_region (sv (asv (.slice none 0 0) rfl) (sv (asv (.int .i64 50) rfl) (W.e (k181 _ _ (cw_ret ?_)))))
      obtain rfl := Option.some.inj h
      exact ⟨_, rfl, _, _, rfl, C, (sl_nil _ _ _)⟩
    · refine cw_f rfl b179 (cw_skip (k171 _ _ ?_))
      refine cw_seq fun K182 k183 => ?_
      refine cw_region (sv (mvv v167 rfl) (sv (asv v167 rfl) (sv (asv (.int .i64 0) rfl) (W.e (k183 _ _ (cw_ret ?_))))))
      obtain rfl := Option.some.inj h
      exact ⟨_, rfl, _, _, rfl, C, h168⟩

noncomputable def marigraphref05_Same.b2 (a0 : List api_Label) (a1 : List api_Label) (x20 : Int) : Option ((Int) ⊕ ((Unit) ⊕ (Bool))) :=
  (bif (decide (x20 < (a0.length : Int))) then ((at_ a0 x20).bind fun y35 => ((at_ a1 x20).bind fun y40 => (bif (!((y35.Name == y40.Name) && ((y35.Val == y40.Val) && true))) then some (.inr (.inr false)) else (pur (IntKind.i64.wrap (x20 + (1 : Int))) fun y49 => some (.inl y49))))) else some (.inr (.inl ())))
noncomputable def marigraphref05_Same (a0 : List api_Label) (a1 : List api_Label) : Option Bool :=
  (bif ((a0.length : Int) != (a1.length : Int)) then some false else ((iter (fun s : Int => marigraphref05_Same.b2 a0 a1 s) (0 : Int)).bind (Sum.elim (fun o10n => some true) (fun q => some q))))
set_option maxRecDepth 100000 in
set_option maxHeartbeats 4000000 in
theorem marigraphref05_Same_w {S : Nat → Prop} {w : World} {a0 : List api_Label} {a1 : List api_Label} {v0 v1 : Value} {r : Bool} (hS : Sb S w) (h0 : Sl (kSl api_Label.k) S w v0 a0) (h1 : Sl (kSl api_Label.k) S w v1 a1) (h : marigraphref05_Same a0 a1 = some r) :
    Calls Tryz.prog 32 (List.toArray [v0, v1]) w fun e w1 => ∃ S1, e = .returned (.bool r) ∧ Cx No S w S1 w1 := by
  refine enter Tryz.func32 rfl (by kernel_rfl) rfl ?_
  have C := Cx.refl (F := No) hS
  unfold marigraphref05_Same at h
  refine cw_seq fun K1 k2 => ?_
  refine cw_region (sv (asv (.bool false) rfl) (W.e (k2 _ _ ?_)))
  refine cw_seq fun K3 k4 => ?_
  refine cw_seq fun K5 k6 => ?_
  refine cw_region (sv (mvv v0 rfl) (sv (rv_lenS el31 h0 rfl) (sv (mvv v1 rfl) (sv (rv_lenS el31 h1 rfl) (sv (rv_neq rfl rfl) (W.e (k6 _ _ ?_)))))))
  rcases bif_some h with ⟨b7, h⟩ | ⟨b7, h⟩
  · refine cw_t rfl b7 ?_
    refine cw_seq fun K8 k9 => ?_
    refine cw_region (sv (asv (.bool false) rfl) (W.e (k9 _ _ (cw_ret ?_))))
    obtain rfl := Option.some.inj h
    exact ⟨_, rfl, _, rfl, C⟩
  · refine cw_f rfl b7 (cw_skip (k4 _ _ ?_))
    obtain ⟨o10, h13, h⟩ := bnds_some h
    refine cw_seq' (fun ρ w1 => ∃ o10n, o10 = (.inl o10n) ∧ ∃ S1, Cx No S w S1 w1 ∧ Has ρ []) ?_ ?_
    · refine cw_seq fun K14 k15 => ?_
      refine cw_region (sv (asv (.int .i64 0) rfl) (W.e (k15 _ _ (cw_block ?_))))
      refine cw_iter h13 (fun s ρ w1 => ∃ S1, Cx No S w S1 w1 ∧ Has ρ [(0, v0), (1, v1), (5, .int .i64 s)] ∧ Sl (kSl api_Label.k) S1 w1 v0 a0 ∧ Sl (kSl api_Label.k) S1 w1 v1 a1) ⟨_, C, ⟨rfl, rfl, rfl, trivial⟩, h0, h1⟩ ?_
      rintro x20 q16 ρ w18 ⟨S17, C, h19, h0, h1⟩ h22 h21
      refine h19.cw fun ρ => ?_
      clear h19
      replace h22 : marigraphref05_Same.b2 a0 a1 x20 = some q16 := h22
      unfold marigraphref05_Same.b2 at h22
      refine cw_seq fun K23 k24 => ?_
      refine cw_seq fun K25 k26 => ?_
      refine cw_region (sv (mvv (.int .i64 x20) rfl) (sv (mvv v0 rfl) (sv (rv_lenS el31 h0 rfl) (sv (rv_lss rfl rfl) (W.e (k26 _ _ ?_))))))
      rcases bif_some h22 with ⟨b27, h22⟩ | ⟨b27, h22⟩
      · refine cw_t rfl b27 (cw_skip (k24 _ _ ?_))
        refine cw_seq fun K28 k29 => ?_
        refine cw_block ?_
        refine cw_seq fun K30 k31 => ?_
        refine cw_drawU (.one 0 true (.one 1 true (.one 2 true (.one 3 true (.one 4 true (.one 5 true (.one 6 true (.one 7 true (.one 8 true .done))))))))) [(3, [9]), (7, [9])] [] (fun c => bif Nat.beq c 9 then (fun _ => True) else No) fol (by kernel_rfl) fun w32 u33 => ?_
        replace h0 := h0.nw u33
        replace h1 := h1.nw u33
        replace C := C.new u33
        have m34 := Sm.refl (fun _ => True) w32
        refine mtv rfl rfl (mvv v0 rfl) (mtv rfl rfl (mvv (.int .i64 x20) rfl) ?_)
        obtain ⟨y35, h36, h22⟩ := bnd_some h22
        refine mtv rfl rfl (rv_index el31 h0 rfl rfl h36) ?_
        obtain ⟨v37, h38, h39⟩ := rw_loadA (P := Tryz.prog) el31 h0 h36
        obtain rfl := api_Label.o.1 h38
        refine mtr rfl rfl ⟨m34, trivial⟩ (fun w' hq => h39 w' (hq.1.mono fun _ _ => trivial) rfl) (mtv rfl rfl (mvv v1 rfl) (mtv rfl rfl (mvv (.int .i64 x20) rfl) ?_))
        obtain ⟨y40, h41, h22⟩ := bnd_some h22
        refine mtv rfl rfl (rv_index el31 h1 rfl rfl h41) ?_
        obtain ⟨v42, h43, h44⟩ := rw_loadA (P := Tryz.prog) el31 h1 h41
        obtain rfl := api_Label.o.1 h43
        refine mtr rfl rfl ⟨m34, trivial⟩ (fun w' hq => h44 w' (hq.1.mono fun _ _ => trivial) rfl) (mtv rfl rfl (rv_aneq eqg46 rfl rfl (eqs46 y35.Name y35.Val y40.Name y40.Val)) (MT.e (k31 _ _ ?_)))
        rcases bif_some h22 with ⟨b45, h22⟩ | ⟨b45, h22⟩
        · refine cw_t rfl b45 ?_
          refine cw_seq fun K46 k47 => ?_
          refine cw_region (sv (asv (.bool false) rfl) (W.e (k47 _ _ (cw_ret ?_))))
          obtain rfl := Option.some.inj h22
          have h48 := congrArg some h21
          obtain rfl := Option.some.inj h48
          replace h := h.2 _ rfl
          obtain rfl := Option.some.inj h
          exact ⟨_, rfl, _, rfl, C⟩
        · refine cw_f rfl b45 (cw_skip (k29 _ _ (cw_region (sv (mvv (.int .i64 x20) rfl) ?_))))
          obtain ⟨y49, h50, h22⟩ := pur_some h22
          refine sv (rv_add rfl rfl h50) (sv (asv (.int .i64 y49) rfl) (W.e ?_))
          obtain rfl := Option.some.inj h22
          exact ⟨_, rfl, ⟨_, C, ⟨rfl, rfl, rfl, trivial⟩, h0, h1⟩⟩
      · refine cw_f rfl b27 (cw_exit ?_)
        obtain rfl := Option.some.inj h22
        have h51 := congrArg some h21
        obtain rfl := Option.some.inj h51
        exact ⟨_, rfl, ⟨_, C, trivial⟩⟩
    · rintro ρ w53 ⟨o10n, rfl, ⟨S52, C, h54⟩⟩
      replace h := h.1 _ rfl
      refine h54.cw fun ρ => ?_
      clear h54
      refine cw_seq fun K55 k56 => ?_
      refine cw_region (sv (asv (.bool true) rfl) (W.e (k56 _ _ (cw_ret ?_))))
      obtain rfl := Option.some.inj h
      exact ⟨_, rfl, _, rfl, C⟩

noncomputable def marigraphref08_Index_find.b2 (a0 : marigraphref08_Index) (a1 : List api_Label) (x13 : Int) : Option ((Int) ⊕ ((Unit) ⊕ (Int))) :=
  (bif (decide (x13 < (a0.S.length : Int))) then ((at_ a0.S x13).bind fun y31 => ((marigraphref05_Same y31.L a1).bind fun y38 => (bif y38 then some (.inr (.inr x13)) else (pur (IntKind.i64.wrap (x13 + (1 : Int))) fun y47 => some (.inl y47))))) else some (.inr (.inl ())))
noncomputable def marigraphref08_Index_find (a0 : marigraphref08_Index) (a1 : List api_Label) : Option Int :=
  ((iter (fun s : Int => marigraphref08_Index_find.b2 a0 a1 s) (0 : Int)).bind (Sum.elim (fun o3n => some (-1 : Int)) (fun q => some q)))
set_option maxRecDepth 100000 in
set_option maxHeartbeats 4000000 in
theorem marigraphref08_Index_find_w {S : Nat → Prop} {w : World} {a0 : marigraphref08_Index} {a1 : List api_Label} {v0 v1 : Value} {cs0 : List Value} {fp0 : List Nat} {r : Int} (hS : Sb S w) (h0 : Ob 29 (marigraphref08_Index.fs a0) S w v0 cs0 fp0) (h1 : Sl (kSl api_Label.k) S w v1 a1) (h : marigraphref08_Index_find a0 a1 = some r) :
    Calls Tryz.prog 47 (List.toArray [v0, v1]) w fun e w1 => ∃ S1, e = .returned (.int .i64 r) ∧ Cx No S w S1 w1 := by
  refine enter Tryz.func47 rfl (by kernel_rfl) rfl ?_
  have C := Cx.refl (F := No) hS
  unfold marigraphref08_Index_find at h
  have hl0 : ∀ b ∈ fp0, b < w.heap.size := fun b hb => (h0.lt b hb).1
  refine cw_seq fun K1 k2 => ?_
  refine cw_region (sv (asv (.int .i64 0) rfl) (W.e (k2 _ _ ?_)))
  obtain ⟨o3, h6, h⟩ := bnds_some h
  refine cw_seq' (fun ρ w1 => ∃ o3n, o3 = (.inl o3n) ∧ ∃ S1, Cx No S w S1 w1 ∧ Has ρ []) ?_ ?_
  · refine cw_seq fun K7 k8 => ?_
    refine cw_region (sv (asv (.int .i64 0) rfl) (W.e (k8 _ _ (cw_block ?_))))
    refine cw_iter h6 (fun s ρ w1 => ∃ S1, Cx No S w S1 w1 ∧ Has ρ [(0, v0), (1, v1), (5, .int .i64 s)] ∧ Sl (kSl api_Label.k) S1 w1 v1 a1 ∧ Ob 29 (marigraphref08_Index.fs a0) S1 w1 v0 cs0 fp0) ⟨_, C, ⟨rfl, rfl, rfl, trivial⟩, h1, h0⟩ ?_
    rintro x13 q9 ρ w11 ⟨S10, C, h12, h1, h0⟩ h15 h14
    refine h12.cw fun ρ => ?_
    clear h12
    replace h15 : marigraphref08_Index_find.b2 a0 a1 x13 = some q9 := h15
    unfold marigraphref08_Index_find.b2 at h15
    refine cw_seq fun K16 k17 => ?_
    refine cw_seq fun K18 k19 => ?_
    refine cw_region (sv (mvv (.int .i64 x13) rfl) (sv (mvv v0 rfl) (sv (rv_nilcheck rfl h0.ptr) (sv (rv_fieldAddr (b := pb v0) (o := 0) st29 rfl h0.ptr) ?_))))
    obtain ⟨c20, h21, h22⟩ := h0.sl (i := 0) rfl
    refine sr (rw_ofield (i := 0) (c := c20) h0 ag27 h21 rfl) (sv (rv_lenS el27 h22 rfl) (sv (rv_lss rfl rfl) (W.e (k19 _ _ ?_))))
    rcases bif_some h15 with ⟨b23, h15⟩ | ⟨b23, h15⟩
    · refine cw_t rfl b23 (cw_skip (k17 _ _ ?_))
      refine cw_seq fun K24 k25 => ?_
      refine cw_block ?_
      refine cw_seq fun K26 k27 => ?_
      refine cw_region (sv (mvv v0 rfl) (sv (rv_nilcheck rfl h0.ptr) (sv (rv_fieldAddr (b := pb v0) (o := 0) st29 rfl h0.ptr) ?_)))
      obtain ⟨c28, h29, h30⟩ := h0.sl (i := 0) rfl
      refine sr (rw_ofield (i := 0) (c := c28) h0 ag27 h29 rfl) (sv (mvv (.int .i64 x13) rfl) ?_)
      obtain ⟨y31, h32, h15⟩ := bnd_some h15
      refine sv (rv_index el27 h30 rfl rfl h32) (sv (rv_fieldAddr st79 rfl rfl) ?_)
      obtain ⟨cs33, h34, h35⟩ := Sl.cells h30 h32
      obtain ⟨c36, rfl, g37⟩ := marigraphref08_Series.r.1 h34
      refine sr (rw_el1 (off := 1) ag31 (h35 _ (Sm.refl _ _)) rfl rfl) (sv (mvv v1 rfl) ?_)
      obtain ⟨y38, h39, h15⟩ := bnd_some h15
      refine sc (dc_call (vs := [c36, v1]) can32 rfl ?_)
      refine (marigraphref05_Same_w C.sb g37 h1 h39).mono ?_
      rintro _ w40 ⟨S41, rfl, c42⟩
      refine ⟨_, rfl, ?_⟩
      replace h0 := h0.cx c42
      replace h1 := h1.cx c42
      replace C := C.trans c42
      refine W.e (k27 _ _ ?_)
      rcases bif_some h15 with ⟨b43, h15⟩ | ⟨b43, h15⟩
      · refine cw_t rfl b43 ?_
        refine cw_seq fun K44 k45 => ?_
        refine cw_region (sv (mvv (.int .i64 x13) rfl) (sv (asv (.int .i64 x13) rfl) (W.e (k45 _ _ (cw_ret ?_)))))
        obtain rfl := Option.some.inj h15
        have h46 := congrArg some h14
        obtain rfl := Option.some.inj h46
        replace h := h.2 _ rfl
        obtain rfl := Option.some.inj h
        exact ⟨_, rfl, _, rfl, C⟩
      · refine cw_f rfl b43 (cw_skip (k25 _ _ (cw_region (sv (mvv (.int .i64 x13) rfl) ?_))))
        obtain ⟨y47, h48, h15⟩ := pur_some h15
        refine sv (rv_add rfl rfl h48) (sv (asv (.int .i64 y47) rfl) (W.e ?_))
        obtain rfl := Option.some.inj h15
        exact ⟨_, rfl, ⟨_, C, ⟨rfl, rfl, rfl, trivial⟩, h1, h0⟩⟩
    · refine cw_f rfl b23 (cw_exit ?_)
      obtain rfl := Option.some.inj h15
      have h49 := congrArg some h14
      obtain rfl := Option.some.inj h49
      exact ⟨_, rfl, ⟨_, C, trivial⟩⟩
  · rintro ρ w51 ⟨o3n, rfl, ⟨S50, C, h52⟩⟩
    replace h := h.1 _ rfl
    refine h52.cw fun ρ => ?_
    clear h52
    refine cw_seq fun K53 k54 => ?_
    refine cw_region (sv (asv (.int .i64 (-1)) rfl) (W.e (k54 _ _ (cw_ret ?_))))
    obtain rfl := Option.some.inj h
    exact ⟨_, rfl, _, rfl, C⟩

noncomputable def marigraphref08_Index_Add (a0 : marigraphref08_Index) (a1 : List api_Label) : Option (Int × Int × marigraphref08_Index) :=
  ((marigraphref05_Sort a1).bind fun y5 => (bif (y5.2 != (0 : Int)) then some ((0 : Int), y5.2, a0) else ((marigraphref08_Index_find a0 y5.1).bind fun y21 => (bif (decide ((0 : Int) ≤ y21)) then ((at_ a0.S y21).bind fun y36 => some (y36.Id, (0 : Int), a0)) else (((bif (decide ((200 : Int) ≤ (a0.S.length : Int))) then some true else some (decide ((4096 : Int) ≤ a0.Given))).bind fun o47 => (bif o47 then some (.inr ((0 : Int), (4 : Int), a0)) else some (.inl ()))).bind (Sum.elim (fun o43n => ((app_ 32 ([] : List marigraphref08_Series) a0.S).bind fun y77 => ((app_ 32 y77 ([(marigraphref08_Series.mk a0.Given y5.1)] : List marigraphref08_Series)).bind fun y93 => (pur ({ a0 with S := y93 } : marigraphref08_Index) fun y102 => (pur (IntKind.i64.wrap (y102.Given + (1 : Int))) fun y113 => (pur ({ y102 with Given := y113 } : marigraphref08_Index) fun y115 => some (a0.Given, (0 : Int), y115))))))) (fun q => some q)))))))
set_option maxRecDepth 100000 in
set_option maxHeartbeats 4000000 in
theorem marigraphref08_Index_Add_w {S : Nat → Prop} {w : World} {a0 : marigraphref08_Index} {a1 : List api_Label} {v0 v1 : Value} {cs0 : List Value} {fp0 : List Nat} {r : Int × Int × marigraphref08_Index} (hS : Sb S w) (h0 : Ob 29 (marigraphref08_Index.fs a0) S w v0 cs0 fp0) (h1 : Sl (kSl api_Label.k) S w v1 a1) (h : marigraphref08_Index_Add a0 a1 = some r) :
    Calls Tryz.prog 22 (List.toArray [v0, v1]) w fun e w1 => ∃ S1 us_0 up_0, e = .returned (.tuple (List.toArray [.int .i64 r.1, .int .i64 r.2.1])) ∧ Cx (fun b => b ∈ fp0) S w S1 w1 ∧ Ob 29 (marigraphref08_Index.fs r.2.2) S1 w1 v0 us_0 up_0 ∧ (∀ b, b ∈ up_0 → b ∈ fp0 ∨ w.heap.size ≤ b) := by
  refine enter Tryz.func22 rfl (by kernel_rfl) rfl ?_
  have C := Cx.refl (F := (fun b => b ∈ fp0)) hS
  unfold marigraphref08_Index_Add at h
  have hs0 : ∀ b, b ∈ fp0 → b ∈ fp0 ∨ w.heap.size ≤ b := fun b hb => .inl hb
  have hl0 : ∀ b ∈ fp0, b < w.heap.size := fun b hb => (h0.lt b hb).1
  refine cw_seq fun K1 k2 => ?_
  refine cw_region (sv (asv (.int .i64 0) rfl) (sv (asv (.int .i64 0) rfl) (W.e (k2 _ _ ?_))))
  refine cw_seq fun K3 k4 => ?_
  refine cw_region (sv (mvv v1 rfl) ?_)
  obtain ⟨y5, h6, h⟩ := bnd_some h
  refine sc (dc_call (vs := [v1]) can57 rfl ?_)
  refine (marigraphref05_Sort_w C.sb h1 h6).mono ?_
  rintro _ w7 ⟨S8, v10, rfl, c9, h11⟩
  refine ⟨_, rfl, ?_⟩
  replace h0 := h0.cx c9
  replace C := C.trans c9
  refine sv (mvv (.tuple (List.toArray [v10, .int .i64 y5.2])) rfl) (sv (rv_extract rfl rfl) (sv (rv_extract rfl rfl) (sv (asv v10 rfl) (sv (asv (.int .i64 y5.2) rfl) (W.e (k4 _ _ ?_))))))
  refine cw_seq fun K12 k13 => ?_
  refine cw_seq fun K14 k15 => ?_
  refine cw_region (sv (mvv (.int .i64 y5.2) rfl) (sv (rv_neq rfl rfl) (W.e (k15 _ _ ?_))))
  rcases bif_some h with ⟨b16, h⟩ | ⟨b16, h⟩
  · refine cw_t rfl b16 ?_
    refine cw_seq fun K17 k18 => ?_
    refine cw_region (sv (mvv (.int .i64 y5.2) rfl) (sv (asv (.int .i64 0) rfl) (sv (asv (.int .i64 y5.2) rfl) (W.e (k18 _ _ (cw_ret ?_))))))
    obtain rfl := Option.some.inj h
    exact ⟨_, rfl, _, _, _, rfl, C, h0, hs0⟩
  · refine cw_f rfl b16 (cw_skip (k13 _ _ ?_))
    refine cw_seq fun K19 k20 => ?_
    refine cw_region (sv (mvv v0 rfl) (sv (mvv v10 rfl) ?_))
    obtain ⟨y21, h22, h⟩ := bnd_some h
    refine sc (dc_call (vs := [v0, v10]) can47 rfl ?_)
    refine (marigraphref08_Index_find_w C.sb h0 h11 h22).mono ?_
    rintro _ w23 ⟨S24, rfl, c25⟩
    refine ⟨_, rfl, ?_⟩
    replace h0 := h0.cx c25
    replace h11 := h11.cx c25
    replace C := C.trans c25
    refine sv (asv (.int .i64 y21) rfl) (W.e (k20 _ _ ?_))
    refine cw_seq fun K26 k27 => ?_
    refine cw_seq fun K28 k29 => ?_
    refine cw_region (sv (mvv (.int .i64 y21) rfl) (sv (rv_geq rfl rfl) (W.e (k29 _ _ ?_))))
    rcases bif_some h with ⟨b30, h⟩ | ⟨b30, h⟩
    · refine cw_t rfl b30 ?_
      refine cw_seq fun K31 k32 => ?_
      refine cw_region (sv (mvv v0 rfl) (sv (rv_nilcheck rfl h0.ptr) (sv (rv_fieldAddr (b := pb v0) (o := 0) st29 rfl h0.ptr) ?_)))
      obtain ⟨c33, h34, h35⟩ := h0.sl (i := 0) rfl
      refine sr (rw_ofield (i := 0) (c := c33) h0 ag27 h34 rfl) (sv (mvv (.int .i64 y21) rfl) ?_)
      obtain ⟨y36, h37, h⟩ := bnd_some h
      refine sv (rv_index el27 h35 rfl rfl h37) (sv (rv_fieldAddr st79 rfl rfl) ?_)
      obtain ⟨cs38, h39, h40⟩ := Sl.cells h35 h37
      obtain ⟨c41, rfl, g42⟩ := marigraphref08_Series.r.1 h39
      refine sr (rw_el1 (off := 0) ag3 (h40 _ (Sm.refl _ _)) rfl rfl) (sv (asv (.int .i64 y36.Id) rfl) (sv (asv (.int .i64 0) rfl) (W.e (k32 _ _ (cw_ret ?_)))))
      obtain rfl := Option.some.inj h
      exact ⟨_, rfl, _, _, _, rfl, C, h0, hs0⟩
    · refine cw_f rfl b30 (cw_skip (k27 _ _ ?_))
      obtain ⟨o43, h46, h⟩ := bnds_some h
      refine cw_seq' (fun ρ w1 => ∃ o43n, o43 = (.inl o43n) ∧ ∃ S1, Cx (fun b => b ∈ fp0) S w S1 w1 ∧ Has ρ [(0, v0), (6, v10)] ∧ Sl (kSl api_Label.k) S1 w1 v10 y5.1 ∧ Ob 29 (marigraphref08_Index.fs a0) S1 w1 v0 cs0 fp0) ?_ ?_
      · obtain ⟨o47, h50, h46⟩ := bnd_some h46
        refine cw_seq' (fun ρ w1 => ∃ S1, Cx (fun b => b ∈ fp0) S w S1 w1 ∧ Has ρ [(0, v0), (6, v10), (43, .bool o47)] ∧ Sl (kSl api_Label.k) S1 w1 v10 y5.1 ∧ Ob 29 (marigraphref08_Index.fs a0) S1 w1 v0 cs0 fp0) ?_ ?_
        · refine cw_region (sv (mvv v0 rfl) (sv (rv_nilcheck rfl h0.ptr) (sv (rv_fieldAddr (b := pb v0) (o := 0) st29 rfl h0.ptr) ?_)))
          obtain ⟨c51, h52, h53⟩ := h0.sl (i := 0) rfl
          refine sr (rw_ofield (i := 0) (c := c51) h0 ag27 h52 rfl) (sv (rv_lenS el27 h53 rfl) (sv (rv_geq rfl rfl) (sv (mvv (.bool (decide ((200 : Int) ≤ (a0.S.length : Int)))) rfl) ?_)))
          rcases bif_some h50 with ⟨b54, h50⟩ | ⟨b54, h50⟩
          · refine W.n (gn rfl rfl rfl b54) (W.n (gn rfl rfl rfl b54) (W.n (gn rfl rfl rfl b54) (W.n (gn rfl rfl rfl b54) (W.n (gn rfl rfl rfl b54) (sv (ptk (.bool true) rfl b54 rfl) (W.e ?_))))))
            obtain rfl := Option.some.inj h50
            exact ⟨_, C, ⟨rfl, rfl, rfl, trivial⟩, h11, h0⟩
          · refine W.v (gy rfl rfl rfl b54) (mvv v0 rfl) (W.v (gy rfl rfl rfl b54) (rv_nilcheck rfl h0.ptr) (W.v (gy rfl rfl rfl b54) (rv_fieldAddr (b := pb v0) (o := 0) st29 rfl h0.ptr) (W.r (gy rfl rfl rfl b54) (rw_ofield (i := 1) (c := .int .i64 a0.Given) h0 ag3 (h0.sc (i := 1) rfl) rfl) (W.v (gy rfl rfl rfl b54) (rv_geq rfl rfl) (sv (pfk (.bool (decide ((4096 : Int) ≤ a0.Given))) rfl b54 rfl) (W.e ?_))))))
            obtain rfl := Option.some.inj h50
            exact ⟨_, C, ⟨rfl, rfl, rfl, trivial⟩, h11, h0⟩
        · rintro ρ w56 ⟨S55, C, h57, h11, h0⟩
          refine h57.cw fun ρ => ?_
          clear h57
          rcases bif_some h46 with ⟨b58, h46⟩ | ⟨b58, h46⟩
          · refine cw_t rfl b58 ?_
            refine cw_seq fun K59 k60 => ?_
            refine cw_region (sv (asv (.int .i64 0) rfl) (sv (asv (.int .i64 4) rfl) (W.e (k60 _ _ (cw_ret ?_)))))
            obtain rfl := Option.some.inj h46
            replace h := h.2 _ rfl
            obtain rfl := Option.some.inj h
            exact ⟨_, rfl, _, _, _, rfl, C, h0, hs0⟩
          · refine cw_f rfl b58 (cw_skip ?_)
            obtain rfl := Option.some.inj h46
            exact ⟨_, rfl, ⟨_, C, ⟨rfl, rfl, trivial⟩, h11, h0⟩⟩
      · rintro ρ w62 ⟨o43n, rfl, ⟨S61, C, h63, h11, h0⟩⟩
        replace h := h.1 _ rfl
        refine h63.cw fun ρ => ?_
        clear h63
        refine cw_seq fun K64 k65 => ?_
        refine cw_region (sv (mvv v0 rfl) (sv (rv_nilcheck rfl h0.ptr) (sv (rv_fieldAddr (b := pb v0) (o := 0) st29 rfl h0.ptr) (sr (rw_ofield (i := 1) (c := .int .i64 a0.Given) h0 ag3 (h0.sc (i := 1) rfl) rfl) (sv (asv (.int .i64 a0.Given) rfl) (W.e (k65 _ _ ?_)))))))
        refine cw_seq fun K66 k67 => ?_
        refine cw_region (sv (mvv v0 rfl) ?_)
        refine sc (dc_lit (vs := []) (xs := ([] : List marigraphref08_Series)) (base := w.heap.size) el27 rfl rfl (.nil) (Nat.le_of_ble_eq_true rfl) C.up.size C.sb fun v68 w69 h70 h71 u72 => ?_)
        have p73 := ap_fresh h71 (fun b hb => (h0.lt b hb).1)
        replace h0 := h0.nw u72
        replace h11 := h11.nw u72
        replace C := C.new u72
        refine sv (mvv v0 rfl) (sv (rv_nilcheck rfl h0.ptr) (sv (rv_fieldAddr (b := pb v0) (o := 0) st29 rfl h0.ptr) ?_))
        obtain ⟨c74, h75, h76⟩ := h0.sl (i := 0) rfl
        refine sr (rw_ofield (i := 0) (c := c74) h0 ag27 h75 rfl) ?_
        obtain ⟨y77, h78, h⟩ := bnd_some h
        have h84 := h70
        refine sc (dc_append el27 (by decide) h84 (h76.src fun _ h => h) rfl rfl h78 C.up.size C.sb fun v79 w80 h81 u82 h83 => ?_)
        have p85 := ap_grow p73 h83 (fun b hb => (h0.lt b hb).1)
        replace h0 := h0.wr u82 h84.not (ap_symm p73)
        replace h11 := h11.wr u82 h84.not
        replace C := C.ow h84 u82
        refine sv (mvv (.int .i64 a0.Given) rfl) (sv (mvv v10 rfl) (sv (rv_build (r := [.int .i64 a0.Given, v10]) st79 zr79 (by obtain ⟨_, _, rfl⟩ := h11.len; rfl)) ?_))
        refine sc (dc_lit (vs := [.agg (List.toArray [.int .i64 a0.Given, v10])]) (xs := ([(marigraphref08_Series.mk a0.Given y5.1)] : List marigraphref08_Series)) (base := w.heap.size) el27 rfl rfl (.cons (marigraphref08_Series.o.2 ⟨_, rfl, h11⟩) (.nil)) (Nat.le_of_ble_eq_true rfl) C.up.size C.sb fun v86 w87 h88 h89 u90 => ?_)
        have p91 := ap_fresh h89 (fun b hb => (h0.lt b hb).1)
        have p92 := ap_fresh h89 (fun b hb => (h81.lt b hb).2)
        replace h0 := h0.nw u90
        replace h81 := h81.nw u90
        replace C := C.new u90
        obtain ⟨y93, h94, h⟩ := bnd_some h
        have h100 := h81
        refine sc (dc_append el27 (by decide) h100 h88.src rfl rfl h94 C.up.size C.sb fun v95 w96 h97 u98 h99 => ?_)
        have p101 := ap_grow p85 h99 (fun b hb => (h0.lt b hb).1)
        replace h0 := h0.wr u98 h100.not (ap_symm p85)
        replace C := C.ow h100 u98
        refine sv (rv_nilcheck rfl h0.ptr) (sv (rv_fieldAddr (b := pb v0) (o := 0) st29 rfl h0.ptr) ?_)
        replace h0 := h0.or (ap_symm p101)
        replace C := C.sealO h97
        replace h97 := h97.sealed
        obtain ⟨y102, h103, h⟩ := pur_some h
        have h108 : ∀ b, b ∈ fp0 → ¬ (Or S61 (Blk v95)) b := fun b hb => (h0.lt b hb).2
        refine sc (dc_ofield (i := 0) (k := (kSl marigraphref08_Series.k)) (h1 := rfl) (a' := y93) h0 rfl ag27 rfl rfl (rep_sl.2 ⟨_, rfl, h97⟩) fun w104 h105 u106 => ?_)
        replace h105 : Ob 29 (marigraphref08_Index.fs ({ a0 with S := y93 } : marigraphref08_Index)) (Or S61 (Blk v95)) w104 v0 (cs0.set 0 v95) fp0 := h105
        rw [h103] at h105
        obtain ⟨cs109, h110⟩ : ∃ cs, cs = cs0.set 0 v95 := ⟨_, rfl⟩
        rw [← h110] at h105
        have c107 := Cx.ofUp C.sb u106
        replace C := C.ofc c107 hs0
        refine W.e (k67 _ _ ?_)
        refine cw_seq fun K111 k112 => ?_
        refine cw_region (sv (mvv v0 rfl) (sv (rv_nilcheck rfl h105.ptr) (sv (rv_fieldAddr (b := pb v0) (o := 0) st29 rfl h105.ptr) (sr (rw_ofield (i := 1) (c := .int .i64 y102.Given) h105 ag3 (h105.sc (i := 1) rfl) rfl) ?_))))
        obtain ⟨y113, h114, h⟩ := pur_some h
        refine sv (rv_add rfl rfl h114) (sv (rv_nilcheck rfl h105.ptr) (sv (rv_fieldAddr (b := pb v0) (o := 0) st29 rfl h105.ptr) ?_))
        obtain ⟨y115, h116, h⟩ := pur_some h
        have h121 : ∀ b, b ∈ fp0 → ¬ (Or S61 (Blk v95)) b := fun b hb => (h105.lt b hb).2
        refine sc (dc_ofield (i := 1) (k := (kI .i64)) (h1 := rfl) (a' := y113) h105 rfl ag3 rfl rfl (rep_sc.2 rfl) fun w117 h118 u119 => ?_)
        replace h118 : Ob 29 (marigraphref08_Index.fs ({ y102 with Given := y113 } : marigraphref08_Index)) (Or S61 (Blk v95)) w117 v0 (cs109.set 1 (.int .i64 y113)) fp0 := h118
        rw [h116] at h118
        obtain ⟨cs122, h123⟩ : ∃ cs, cs = cs109.set 1 (.int .i64 y113) := ⟨_, rfl⟩
        rw [← h123] at h118
        have c120 := Cx.ofUp C.sb u119
        replace C := C.ofc c120 hs0
        refine W.e (k112 _ _ ?_)
        refine cw_seq fun K124 k125 => ?_
        refine cw_region (sv (mvv (.int .i64 a0.Given) rfl) (sv (asv (.int .i64 a0.Given) rfl) (sv (asv (.int .i64 0) rfl) (W.e (k125 _ _ (cw_ret ?_))))))
        obtain rfl := Option.some.inj h
        exact ⟨_, rfl, _, _, _, rfl, C, h118, hs0⟩

noncomputable def marigraphlaw08_does (a0 : Option index_Index) (a1 : marigraphref08_Index) (a2 : marigraphlaw08_Act) : Option (Bool × (Option index_Index) × marigraphref08_Index) :=
  (pur (Int.tmod a2.Kind (5 : Int)) fun y17 => (bif (y17 == (3 : Int)) then ((index_Index_Drop a0 a2.Id).bind fun y27 => ((marigraphref08_Index_Drop a1 a2.Id).bind fun y41 => some ((y27.1 == y41.1), y27.2, y41.2))) else (bif (y17 == (4 : Int)) then ((marigraphlaw08_some a2.A).bind fun y60 => ((index_Index_Find a0 y60).bind fun y67 => ((marigraphlaw08_some a2.A).bind fun y78 => ((marigraphref08_Index_Find a1 y78).bind fun y85 => (((marigraphref04_Ints y67.1 y85.1).bind fun y99 => (bif y99 then some (y67.2 == y85.2) else some false)).bind fun o95 => some (o95, a0, a1)))))) else ((marigraphlaw08_few a2.L).bind fun y111 => ((index_Index_Add a0 y111).bind fun y118 => ((marigraphlaw08_few a2.L).bind fun y132 => ((marigraphref08_Index_Add a1 y132).bind fun y139 => ((bif (y118.1 == y139.1) then some (y118.2.1 == y139.2.1) else some false).bind fun o151 => some (o151, y118.2.2, y139.2.2)))))))))
set_option maxRecDepth 100000 in
set_option maxHeartbeats 4000000 in
theorem marigraphlaw08_does_w {S : Nat → Prop} {w : World} {a0 : Option index_Index} {a1 : marigraphref08_Index} {a2 : marigraphlaw08_Act} {v0 v1 v2 : Value} {cs0 : List Value} {fp0 : List Nat} {cs1 : List Value} {fp1 : List Nat} {r : Bool × (Option index_Index) × marigraphref08_Index} (hS : Sb S w) (h0 : Obo 61 index_Index.fs S w v0 a0 cs0 fp0) (h1 : Ob 29 (marigraphref08_Index.fs a1) S w v1 cs1 fp1) (h2 : Sl marigraphlaw08_Act.k S w v2 a2) (hap0_1 : ∀ b, b ∈ fp0 → ¬ b ∈ fp1) (h : marigraphlaw08_does a0 a1 a2 = some r) :
    Calls Tryz.prog 8 (List.toArray [v0, v1, v2]) w fun e w1 => ∃ S1 us_0 up_0 us_1 up_1, e = .returned (.bool r.1) ∧ Cx (fun b => b ∈ fp0 ∨ b ∈ fp1) S w S1 w1 ∧ Obo 61 index_Index.fs S1 w1 v0 r.2.1 us_0 up_0 ∧ (∀ b, b ∈ up_0 → b ∈ fp0 ∨ w.heap.size ≤ b) ∧ Ob 29 (marigraphref08_Index.fs r.2.2) S1 w1 v1 us_1 up_1 ∧ (∀ b, b ∈ up_1 → b ∈ fp1 ∨ w.heap.size ≤ b) ∧ (∀ b, b ∈ up_0 → ¬ b ∈ up_1) := by
  refine enter Tryz.func8 rfl (by kernel_rfl) rfl ?_
  have C := Cx.refl (F := (fun b => b ∈ fp0 ∨ b ∈ fp1)) hS
  unfold marigraphlaw08_does at h
  have hs0 : ∀ b, b ∈ fp0 → b ∈ fp0 ∨ w.heap.size ≤ b := fun b hb => .inl hb
  have hl0 : ∀ b ∈ fp0, b < w.heap.size := fun b hb => (h0.lt b hb).1
  have hs1 : ∀ b, b ∈ fp1 → b ∈ fp1 ∨ w.heap.size ≤ b := fun b hb => .inl hb
  have hl1 : ∀ b ∈ fp1, b < w.heap.size := fun b hb => (h1.lt b hb).1
  obtain ⟨c1, c3, rfl, g2, g4⟩ := marigraphlaw08_Act.o.1 h2
  refine cw_seq fun K5 k6 => ?_
  refine cw_region ?_
  refine sc (dc_boxS C.sb rfl fun b7 S8 w9 c10 h11 => ?_)
  replace h0 := h0.cx c10
  replace h1 := h1.cx c10
  replace g2 := g2.cx c10
  replace g4 := g4.cx c10
  replace C := C.trans c10
  refine sv (asv (.bool false) rfl) (W.e (k6 _ _ ?_))
  refine cw_seq fun K13 k14 => ?_
  refine cw_seq fun K15 k16 => ?_
  refine cw_region (sv (rv_fieldAddr st34 rfl rfl) (sr (rw_bk ag5 h11.2 rfl rfl) ?_))
  obtain ⟨y17, h18, h⟩ := pur_some h
  refine sv (rv_rem rfl rfl (by decide) h18) (W.e (k16 _ _ (cw_block ?_)))
  refine cw_seq fun K19 k20 => ?_
  refine cw_region (sv (rv_eql rfl rfl) (sv (asv (.bool (y17 == (3 : Int))) rfl) (W.e (k20 _ _ ?_))))
  rcases bif_some h with ⟨b21, h⟩ | ⟨b21, h⟩
  · refine cw_t rfl b21 ?_
    refine cw_seq fun K22 k23 => ?_
    refine cw_drawU (.one 0 true (.one 1 true (.one 2 true (.one 4 true (.one 5 true (.one 6 true (.one 3 false (.one 7 false (.one 8 true (.one 9 true .done)))))))))) [(2, [0]), (6, [0])] [(3, [0]), (7, [0])] (fun c => bif Nat.beq c 0 then S8 else No) fol (by kernel_rfl) fun w24 u25 => ?_
    replace h0 := h0.nw u25
    replace h1 := h1.nw u25
    replace h11 := h11.nw u25
    replace g2 := g2.nw u25
    replace g4 := g4.nw u25
    replace C := C.new u25
    have h0d := h0
    have h1d := h1
    have h11d := h11
    have g2d := g2
    have g4d := g4
    have m26 := Sm.refl S8 w24
    refine mtv rfl rfl (mvv v0 rfl) (mtv rfl rfl (rv_fieldAddr st34 rfl rfl) (mtr rfl rfl ⟨m26, trivial⟩ (fun w' hq => rw_bk ag3 (h11.sm hq.1) rfl rfl) (mtv rfl rfl (mvv v1 rfl) (mtv rfl rfl (rv_fieldAddr st34 rfl rfl) (mtr rfl rfl ⟨m26, trivial⟩ (fun w' hq => rw_bk ag3 (h11.sm hq.1) rfl rfl) ?_)))))
    obtain ⟨y27, h28, h⟩ := bnd_some h
    refine mtc rfl rfl (dc_call (vs := [v0, .int .i64 a2.Id]) can16 rfl ?_)
    refine (index_Index_Drop_w C.sb h0 h28).mono ?_
    rintro _ w29 ⟨S30, cs32, fp33, rfl, c31, h34, h35⟩
    refine ⟨_, rfl, ?_⟩
    have h36 : ∀ b, b ∈ fp0 → ¬ S8 b := fun b hb => (h0.lt b hb).2
    have p37 := ap_grow hap0_1 h35 (fun b hb => (h1.lt b hb).1)
    have h38 : ∀ b, b ∈ fp33 → b ∈ fp0 ∨ w.heap.size ≤ b := fun b hb => (h35 b hb).elim (hs0 b) (fun hl => .inr (Nat.le_trans C.up.size hl))
    replace h1 := h1.cf c31 h36 (ap_symm hap0_1)
    replace C := C.ofc c31 (fun b hb => (hs0 b hb).imp (fun h => (.inl h)) id)
    have z39 := (c31.up).size
    have m40 := m26.wrC c31.up (by omega) h36
    refine ⟨⟨m40, trivial⟩, ?_⟩
    obtain ⟨y41, h42, h⟩ := bnd_some h
    refine mtc rfl rfl (dc_call (vs := [v1, .int .i64 a2.Id]) can18 rfl ?_)
    refine (marigraphref08_Index_Drop_w C.sb h1 h42).mono ?_
    rintro _ w43 ⟨S44, cs46, fp47, rfl, c45, h48, h49⟩
    refine ⟨_, rfl, ?_⟩
    have h50 : ∀ b, b ∈ fp1 → ¬ S30 b := fun b hb => (h1.lt b hb).2
    have p51 := ap_grow (ap_symm p37) h49 (fun b hb => (h34.lt b hb).1)
    have h52 : ∀ b, b ∈ fp47 → b ∈ fp1 ∨ w.heap.size ≤ b := fun b hb => (h49 b hb).elim (hs1 b) (fun hl => .inr (Nat.le_trans C.up.size hl))
    replace h34 := h34.cf c45 h50 p37
    replace C := C.ofc c45 (fun b hb => (hs1 b hb).imp (fun h => (.inr h)) id)
    have z53 := (c45.up).size
    have m54 := m40.wrC c45.up (by omega) (fun b hb hs => h50 b hb ((fun b h => c31.ge.le b h) b hs))
    refine ⟨⟨m54, trivial⟩, ?_⟩
    refine mtv rfl rfl (rv_eql rfl rfl) (mtv rfl rfl (asv (.bool (y27.1 == y41.1)) rfl) (MT.e (k23 _ _ (cw_ret ?_))))
    obtain rfl := Option.some.inj h
    exact ⟨_, rfl, _, _, _, _, _, rfl, C, h34, h38, h48, h52, (ap_symm p51)⟩
  · refine cw_f rfl b21 ?_
    refine cw_seq fun K55 k56 => ?_
    refine cw_region (sv (rv_eql rfl rfl) (sv (asv (.bool (y17 == (4 : Int))) rfl) (W.e (k56 _ _ ?_))))
    rcases bif_some h with ⟨b57, h⟩ | ⟨b57, h⟩
    · refine cw_t rfl b57 ?_
      refine cw_seq fun K58 k59 => ?_
      refine cw_region (sv (mvv v0 rfl) (sv (rv_fieldAddr st34 rfl rfl) (sr (rw_bk ag32 h11.2 rfl rfl) ?_)))
      obtain ⟨y60, h61, h⟩ := bnd_some h
      refine sc (dc_call (vs := [c3]) can19 rfl ?_)
      refine (marigraphlaw08_some_w C.sb g4 h61).mono ?_
      rintro _ w62 ⟨S63, v65, rfl, c64, h66⟩
      refine ⟨_, rfl, ?_⟩
      replace h0 := h0.cx c64
      replace h1 := h1.cx c64
      replace h11 := h11.cx c64
      replace g2 := g2.cx c64
      replace g4 := g4.cx c64
      replace C := C.trans c64
      obtain ⟨y67, h68, h⟩ := bnd_some h
      refine sc (dc_call (vs := [v0, v65]) can15 rfl ?_)
      refine (index_Index_Find_w C.sb h0 h66 h68).mono ?_
      rintro _ w69 ⟨S70, v72, rfl, c71, h73⟩
      refine ⟨_, rfl, ?_⟩
      have p74 := ap_fresh (fun b hb => (h73.lt b hb).1) (fun b hb => (h1.lt b hb).1)
      have p75 := ap_fresh (fun b hb => (h73.lt b hb).1) (fun b hb => (h0.lt b hb).1)
      replace h73 := h73.base C.up.size
      replace h1 := h1.cx c71
      replace h11 := h11.cx c71
      replace g2 := g2.cx c71
      replace g4 := g4.cx c71
      replace h0 := h0.cx c71
      replace C := C.trans c71
      refine sv (mvv (.tuple (List.toArray [v72, .int .i64 y67.2])) rfl) (sv (rv_extract rfl rfl) (sv (rv_extract rfl rfl) (sv (asv v72 rfl) (sv (asv (.int .i64 y67.2) rfl) (W.e (k59 _ _ ?_))))))
      refine cw_seq fun K76 k77 => ?_
      refine cw_region (sv (mvv v1 rfl) (sv (rv_fieldAddr st34 rfl rfl) (sr (rw_bk ag32 h11.2 rfl rfl) ?_)))
      obtain ⟨y78, h79, h⟩ := bnd_some h
      refine sc (dc_call (vs := [c3]) can19 rfl ?_)
      refine (marigraphlaw08_some_w C.sb g4 h79).mono ?_
      rintro _ w80 ⟨S81, v83, rfl, c82, h84⟩
      refine ⟨_, rfl, ?_⟩
      replace h73 := h73.cx c82
      replace h1 := h1.cx c82
      replace h0 := h0.cx c82
      replace C := C.trans c82
      obtain ⟨y85, h86, h⟩ := bnd_some h
      refine sc (dc_call (vs := [v1, v83]) can20 rfl ?_)
      refine (marigraphref08_Index_Find_w C.sb h1 h84 h86).mono ?_
      rintro _ w87 ⟨S88, v90, rfl, c89, h91⟩
      refine ⟨_, rfl, ?_⟩
      have p92 := ap_fresh (fun b hb => (h91.lt b hb).1) (fun b hb => (h73.lt b hb).2)
      have p93 := ap_fresh (fun b hb => (h91.lt b hb).1) (fun b hb => (h0.lt b hb).1)
      have p94 := ap_fresh (fun b hb => (h91.lt b hb).1) (fun b hb => (h1.lt b hb).1)
      replace h91 := h91.base C.up.size
      replace h73 := h73.cx c89
      replace h0 := h0.cx c89
      replace h1 := h1.cx c89
      replace C := C.trans c89
      refine sv (mvv (.tuple (List.toArray [v90, .int .i64 y85.2])) rfl) (sv (rv_extract rfl rfl) (sv (rv_extract rfl rfl) (sv (asv v90 rfl) (sv (asv (.int .i64 y85.2) rfl) (W.e (k77 _ _ ?_))))))
      obtain ⟨o95, h98, h⟩ := bnd_some h
      refine cw_seq' (fun ρ w1 => ∃ S1, Cx (fun b => b ∈ fp0 ∨ b ∈ fp1) S w S1 w1 ∧ Has ρ [(6, .bool o95)] ∧ Obo 61 index_Index.fs S1 w1 v0 a0 cs0 fp0 ∧ Ob 29 (marigraphref08_Index.fs a1) S1 w1 v1 cs1 fp1 ∧ (∀ b, b ∈ fp0 → ¬ b ∈ fp1)) ?_ ?_
      · refine cw_region (sv (mvv v72 rfl) (sv (mvv v90 rfl) ?_))
        replace h91 := h91.or p92
        replace h0 := h0.or (ap_symm p75)
        replace h1 := h1.or (ap_symm p74)
        replace C := C.sealO h73
        replace h73 := h73.sealed
        replace h73 := h73.or (T := Blk v90)
        replace h0 := h0.or (ap_symm p93)
        replace h1 := h1.or (ap_symm p94)
        replace C := C.sealO h91
        replace h91 := h91.sealed
        obtain ⟨y99, h100, h98⟩ := bnd_some h98
        refine sc (dc_call (vs := [v72, v90]) can17 rfl ?_)
        refine (marigraphref04_Ints_w C.sb h73 h91 h100).mono ?_
        rintro _ w101 ⟨S102, rfl, c103⟩
        refine ⟨_, rfl, ?_⟩
        replace h0 := h0.cx c103
        replace h1 := h1.cx c103
        replace C := C.trans c103
        refine sv (mvv (.bool y99) rfl) ?_
        rcases bif_some h98 with ⟨b104, h98⟩ | ⟨b104, h98⟩
        · refine W.v (gy rfl rfl rfl b104) (mvv (.int .i64 y67.2) rfl) (W.v (gy rfl rfl rfl b104) (mvv (.int .i64 y85.2) rfl) (W.v (gy rfl rfl rfl b104) (rv_eql rfl rfl) (sv (ptk (.bool (y67.2 == y85.2)) rfl b104 rfl) (sv (asv (.bool (y67.2 == y85.2)) rfl) (W.e ?_)))))
          obtain rfl := Option.some.inj h98
          exact ⟨_, C, ⟨rfl, trivial⟩, h0, h1, hap0_1⟩
        · refine W.n (gn rfl rfl rfl b104) (W.n (gn rfl rfl rfl b104) (W.n (gn rfl rfl rfl b104) (sv (pfk (.bool false) rfl b104 rfl) (sv (asv (.bool false) rfl) (W.e ?_)))))
          obtain rfl := Option.some.inj h98
          exact ⟨_, C, ⟨rfl, trivial⟩, h0, h1, hap0_1⟩
      · rintro ρ w106 ⟨S105, C, h108, h0, h1, p107⟩
        refine h108.cw fun ρ => ?_
        clear h108
        refine cw_ret ?_
        obtain rfl := Option.some.inj h
        exact ⟨_, rfl, _, _, _, _, _, rfl, C, h0, hs0, h1, hs1, p107⟩
    · refine cw_f rfl b57 (cw_skip (k14 _ _ ?_))
      refine cw_seq fun K109 k110 => ?_
      refine cw_region (sv (mvv v0 rfl) (sv (rv_fieldAddr st34 rfl rfl) (sr (rw_bk ag31 h11.2 rfl rfl) ?_)))
      obtain ⟨y111, h112, h⟩ := bnd_some h
      refine sc (dc_call (vs := [c1]) can21 rfl ?_)
      refine (marigraphlaw08_few_w C.sb g2 h112).mono ?_
      rintro _ w113 ⟨S114, v116, rfl, c115, h117⟩
      refine ⟨_, rfl, ?_⟩
      replace h1 := h1.cx c115
      replace h11 := h11.cx c115
      replace g2 := g2.cx c115
      replace g4 := g4.cx c115
      replace h0 := h0.cx c115
      replace C := C.trans c115
      obtain ⟨y118, h119, h⟩ := bnd_some h
      refine sc (dc_call (vs := [v0, v116]) can14 rfl ?_)
      refine (index_Index_Add_w C.sb h0 h117 h119).mono ?_
      rintro _ w120 ⟨S121, cs123, fp124, rfl, c122, h125, h126⟩
      refine ⟨_, rfl, ?_⟩
      have h127 : ∀ b, b ∈ fp0 → ¬ S114 b := fun b hb => (h0.lt b hb).2
      have p128 := ap_grow hap0_1 h126 (fun b hb => (h1.lt b hb).1)
      have h129 : ∀ b, b ∈ fp124 → b ∈ fp0 ∨ w.heap.size ≤ b := fun b hb => (h126 b hb).elim (hs0 b) (fun hl => .inr (Nat.le_trans C.up.size hl))
      replace h1 := h1.cf c122 h127 (ap_symm hap0_1)
      replace h11 := h11.cf c122 h127
      replace g2 := g2.cf c122 h127
      replace g4 := g4.cf c122 h127
      replace C := C.ofc c122 (fun b hb => (hs0 b hb).imp (fun h => (.inl h)) id)
      refine sv (mvv (.tuple (List.toArray [.int .i64 y118.1, .int .i64 y118.2.1])) rfl) (sv (rv_extract rfl rfl) (sv (rv_extract rfl rfl) (sv (asv (.int .i64 y118.1) rfl) (sv (asv (.int .i64 y118.2.1) rfl) (W.e (k110 _ _ ?_))))))
      refine cw_seq fun K130 k131 => ?_
      refine cw_region (sv (mvv v1 rfl) (sv (rv_fieldAddr st34 rfl rfl) (sr (rw_bk ag31 h11.2 rfl rfl) ?_)))
      obtain ⟨y132, h133, h⟩ := bnd_some h
      refine sc (dc_call (vs := [c1]) can21 rfl ?_)
      refine (marigraphlaw08_few_w C.sb g2 h133).mono ?_
      rintro _ w134 ⟨S135, v137, rfl, c136, h138⟩
      refine ⟨_, rfl, ?_⟩
      replace h1 := h1.cx c136
      replace h125 := h125.cx c136
      replace C := C.trans c136
      obtain ⟨y139, h140, h⟩ := bnd_some h
      refine sc (dc_call (vs := [v1, v137]) can22 rfl ?_)
      refine (marigraphref08_Index_Add_w C.sb h1 h138 h140).mono ?_
      rintro _ w141 ⟨S142, cs144, fp145, rfl, c143, h146, h147⟩
      refine ⟨_, rfl, ?_⟩
      have h148 : ∀ b, b ∈ fp1 → ¬ S135 b := fun b hb => (h1.lt b hb).2
      have p149 := ap_grow (ap_symm p128) h147 (fun b hb => (h125.lt b hb).1)
      have h150 : ∀ b, b ∈ fp145 → b ∈ fp1 ∨ w.heap.size ≤ b := fun b hb => (h147 b hb).elim (hs1 b) (fun hl => .inr (Nat.le_trans C.up.size hl))
      replace h125 := h125.cf c143 h148 p128
      replace C := C.ofc c143 (fun b hb => (hs1 b hb).imp (fun h => (.inr h)) id)
      refine sv (mvv (.tuple (List.toArray [.int .i64 y139.1, .int .i64 y139.2.1])) rfl) (sv (rv_extract rfl rfl) (sv (rv_extract rfl rfl) (sv (asv (.int .i64 y139.1) rfl) (sv (asv (.int .i64 y139.2.1) rfl) (W.e (k131 _ _ ?_))))))
      obtain ⟨o151, h154, h⟩ := bnd_some h
      refine cw_seq' (fun ρ w1 => ∃ S1, Cx (fun b => b ∈ fp0 ∨ b ∈ fp1) S w S1 w1 ∧ Has ρ [(6, .bool o151)] ∧ Obo 61 index_Index.fs S1 w1 v0 y118.2.2 cs123 fp124 ∧ Ob 29 (marigraphref08_Index.fs y139.2.2) S1 w1 v1 cs144 fp145 ∧ (∀ b, b ∈ fp124 → ¬ b ∈ fp145)) ?_ ?_
      · refine cw_region (sv (mvv (.int .i64 y118.1) rfl) (sv (mvv (.int .i64 y139.1) rfl) (sv (rv_eql rfl rfl) (sv (mvv (.bool (y118.1 == y139.1)) rfl) ?_))))
        rcases bif_some h154 with ⟨b155, h154⟩ | ⟨b155, h154⟩
        · refine W.v (gy rfl rfl rfl b155) (mvv (.int .i64 y118.2.1) rfl) (W.v (gy rfl rfl rfl b155) (mvv (.int .i64 y139.2.1) rfl) (W.v (gy rfl rfl rfl b155) (rv_eql rfl rfl) (sv (ptk (.bool (y118.2.1 == y139.2.1)) rfl b155 rfl) (sv (asv (.bool (y118.2.1 == y139.2.1)) rfl) (W.e ?_)))))
          obtain rfl := Option.some.inj h154
          exact ⟨_, C, ⟨rfl, trivial⟩, h125, h146, (ap_symm p149)⟩
        · refine W.n (gn rfl rfl rfl b155) (W.n (gn rfl rfl rfl b155) (W.n (gn rfl rfl rfl b155) (sv (pfk (.bool false) rfl b155 rfl) (sv (asv (.bool false) rfl) (W.e ?_)))))
          obtain rfl := Option.some.inj h154
          exact ⟨_, C, ⟨rfl, trivial⟩, h125, h146, (ap_symm p149)⟩
      · rintro ρ w157 ⟨S156, C, h159, h125, h146, p158⟩
        refine h159.cw fun ρ => ?_
        clear h159
        refine cw_ret ?_
        obtain rfl := Option.some.inj h
        exact ⟨_, rfl, _, _, _, _, _, rfl, C, h125, h129, h146, h150, p158⟩

noncomputable def index_Index_Id (a0 : Option index_Index) (a1 : List api_Label) : Option (Int × Bool) :=
  ((index_key a1).bind fun y5 => (((bif a0.isNone then some true else some (y5.2.2 != (0 : Int))).bind fun o16 => (bif o16 then some (.inr ((0 : Int), false)) else some (.inl ()))).bind (Sum.elim (fun o12n => ((a0).bind fun y32 => some (((mget y5.2.1 y32.ids).getD (0 : Int)), (mget y5.2.1 y32.ids).isSome))) (fun q => some q))))
set_option maxRecDepth 100000 in
set_option maxHeartbeats 4000000 in
theorem index_Index_Id_w {S : Nat → Prop} {w : World} {a0 : Option index_Index} {a1 : List api_Label} {v0 v1 : Value} {cs0 : List Value} {fp0 : List Nat} {r : Int × Bool} (hS : Sb S w) (h0 : Obo 61 index_Index.fs S w v0 a0 cs0 fp0) (h1 : Sl (kSl api_Label.k) S w v1 a1) (h : index_Index_Id a0 a1 = some r) :
    Calls Tryz.prog 23 (List.toArray [v0, v1]) w fun e w1 => ∃ S1, e = .returned (.tuple (List.toArray [.int .i64 r.1, .bool r.2])) ∧ Cx No S w S1 w1 := by
  refine enter Tryz.func23 rfl (by kernel_rfl) rfl ?_
  have C := Cx.refl (F := No) hS
  unfold index_Index_Id at h
  have hl0 : ∀ b ∈ fp0, b < w.heap.size := fun b hb => (h0.lt b hb).1
  refine cw_seq fun K1 k2 => ?_
  refine cw_region (sv (asv (.int .i64 0) rfl) (sv (asv (.bool false) rfl) (W.e (k2 _ _ ?_))))
  refine cw_seq fun K3 k4 => ?_
  refine cw_region (sv (mvv v1 rfl) ?_)
  obtain ⟨y5, h6, h⟩ := bnd_some h
  refine sc (dc_call (vs := [v1]) can43 rfl ?_)
  refine (index_key_w C.sb h1 h6).mono ?_
  rintro _ w7 ⟨S8, v10, rfl, c9, h11⟩
  refine ⟨_, rfl, ?_⟩
  replace h0 := h0.cx c9
  replace C := C.trans c9
  refine sv (mvv (.tuple (List.toArray [v10, .string y5.2.1, .int .i64 y5.2.2])) rfl) (sv (rv_extract rfl rfl) (sv (rv_extract rfl rfl) (sv (rv_extract rfl rfl) (sv (asv v10 rfl) (sv (asv (.string y5.2.1) rfl) (sv (asv (.int .i64 y5.2.2) rfl) (W.e (k4 _ _ ?_))))))))
  obtain ⟨o12, h15, h⟩ := bnds_some h
  refine cw_seq' (fun ρ w1 => ∃ o12n, o12 = (.inl o12n) ∧ ∃ S1, Cx No S w S1 w1 ∧ Has ρ [(0, v0), (7, .string y5.2.1)] ∧ Obo 61 index_Index.fs S1 w1 v0 a0 cs0 fp0) ?_ ?_
  · obtain ⟨o16, h19, h15⟩ := bnd_some h15
    refine cw_seq' (fun ρ w1 => ∃ S1, Cx No S w S1 w1 ∧ Has ρ [(0, v0), (7, .string y5.2.1), (22, .bool o16)] ∧ Obo 61 index_Index.fs S1 w1 v0 a0 cs0 fp0) ?_ ?_
    · refine cw_region (sv (mvv v0 rfl) (sv (rv_nileq Tryz.underlying24 rfl rfl h0.ne) (sv (mvv (.bool a0.isNone) rfl) ?_)))
      rcases bif_some h19 with ⟨b20, h19⟩ | ⟨b20, h19⟩
      · refine W.n (gn rfl rfl rfl b20) (W.n (gn rfl rfl rfl b20) (sv (ptk (.bool true) rfl b20 rfl) (W.e ?_)))
        obtain rfl := Option.some.inj h19
        exact ⟨_, C, ⟨rfl, rfl, rfl, trivial⟩, h0⟩
      · refine W.v (gy rfl rfl rfl b20) (mvv (.int .i64 y5.2.2) rfl) (W.v (gy rfl rfl rfl b20) (rv_neq rfl rfl) (sv (pfk (.bool (y5.2.2 != (0 : Int))) rfl b20 rfl) (W.e ?_)))
        obtain rfl := Option.some.inj h19
        exact ⟨_, C, ⟨rfl, rfl, rfl, trivial⟩, h0⟩
    · rintro ρ w22 ⟨S21, C, h23, h0⟩
      refine h23.cw fun ρ => ?_
      clear h23
      rcases bif_some h15 with ⟨b24, h15⟩ | ⟨b24, h15⟩
      · refine cw_t rfl b24 ?_
        refine cw_seq fun K25 k26 => ?_
        refine cw_region (sv (asv (.int .i64 0) rfl) (sv (asv (.bool false) rfl) (W.e (k26 _ _ (cw_ret ?_)))))
        obtain rfl := Option.some.inj h15
        replace h := h.2 _ rfl
        obtain rfl := Option.some.inj h
        exact ⟨_, rfl, _, rfl, C⟩
      · refine cw_f rfl b24 (cw_skip ?_)
        obtain rfl := Option.some.inj h15
        exact ⟨_, rfl, ⟨_, C, ⟨rfl, rfl, trivial⟩, h0⟩⟩
  · rintro ρ w28 ⟨o12n, rfl, ⟨S27, C, h29, h0⟩⟩
    replace h := h.1 _ rfl
    refine h29.cw fun ρ => ?_
    clear h29
    refine cw_seq fun K30 k31 => ?_
    refine cw_region (sv (mvv v0 rfl) ?_)
    obtain ⟨y32, h33, h⟩ := bnd_some h
    have h34 := h0
    rw [h33] at h34
    replace h34 : Ob 61 (index_Index.fs y32) _ _ _ _ _ := h34
    refine sv (rv_nilcheck rfl h34.ptr) (sv (rv_fieldAddr (b := pb v0) (o := 0) st61 rfl h34.ptr) ?_)
    obtain ⟨c35, h36⟩ := h34.at (i := 1) rfl
    refine sr (rw_ofield (i := 1) (c := c35) h34 ag57 h36 rfl) (sv (mvv (.string y5.2.1) rfl) ?_)
    obtain ⟨_, h37, h38⟩ := Ob.rep h34 (i := 1) rfl h36
    obtain ⟨v39, h40, h41⟩ := rep_look (P := Tryz.prog) (tm := 57) (te := 3) (y0 := (0 : Int)) h37 Tryz.underlying57 zv3 (sl_sc.2 rfl) y5.2.1
    obtain rfl := sl_sc.1 h40
    refine sr ((h41 (Sm.refl _ _) rfl rfl).2) (sv (mvv (.tuple (List.toArray [.int .i64 ((mget y5.2.1 y32.ids).getD (0 : Int)), .bool (mget y5.2.1 y32.ids).isSome])) rfl) (sv (rv_extract rfl rfl) (sv (rv_extract rfl rfl) (sv (asv (.int .i64 ((mget y5.2.1 y32.ids).getD (0 : Int))) rfl) (sv (asv (.bool (mget y5.2.1 y32.ids).isSome) rfl) (W.e (k31 _ _ ?_)))))))
    refine cw_seq fun K42 k43 => ?_
    refine cw_region (sv (mvv (.int .i64 ((mget y5.2.1 y32.ids).getD (0 : Int))) rfl) (sv (mvv (.bool (mget y5.2.1 y32.ids).isSome) rfl) (sv (asv (.int .i64 ((mget y5.2.1 y32.ids).getD (0 : Int))) rfl) (sv (asv (.bool (mget y5.2.1 y32.ids).isSome) rfl) (W.e (k43 _ _ (cw_ret ?_)))))))
    obtain rfl := Option.some.inj h
    exact ⟨_, rfl, _, rfl, C⟩

noncomputable def marigraphref08_Index_Id (a0 : marigraphref08_Index) (a1 : List api_Label) : Option (Int × Bool) :=
  ((marigraphref05_Sort a1).bind fun y5 => ((marigraphref08_Index_find a0 y5.1).bind fun y14 => (((bif (y5.2 != (0 : Int)) then some true else some (decide (y14 < (0 : Int)))).bind fun o23 => (bif o23 then some (.inr ((0 : Int), false)) else some (.inl ()))).bind (Sum.elim (fun o19n => ((at_ a0.S y14).bind fun y42 => some (y42.Id, true))) (fun q => some q)))))
set_option maxRecDepth 100000 in
set_option maxHeartbeats 4000000 in
theorem marigraphref08_Index_Id_w {S : Nat → Prop} {w : World} {a0 : marigraphref08_Index} {a1 : List api_Label} {v0 v1 : Value} {cs0 : List Value} {fp0 : List Nat} {r : Int × Bool} (hS : Sb S w) (h0 : Ob 29 (marigraphref08_Index.fs a0) S w v0 cs0 fp0) (h1 : Sl (kSl api_Label.k) S w v1 a1) (h : marigraphref08_Index_Id a0 a1 = some r) :
    Calls Tryz.prog 24 (List.toArray [v0, v1]) w fun e w1 => ∃ S1, e = .returned (.tuple (List.toArray [.int .i64 r.1, .bool r.2])) ∧ Cx No S w S1 w1 := by
  refine enter Tryz.func24 rfl (by kernel_rfl) rfl ?_
  have C := Cx.refl (F := No) hS
  unfold marigraphref08_Index_Id at h
  have hl0 : ∀ b ∈ fp0, b < w.heap.size := fun b hb => (h0.lt b hb).1
  refine cw_seq fun K1 k2 => ?_
  refine cw_region (sv (asv (.int .i64 0) rfl) (sv (asv (.bool false) rfl) (W.e (k2 _ _ ?_))))
  refine cw_seq fun K3 k4 => ?_
  refine cw_region (sv (mvv v1 rfl) ?_)
  obtain ⟨y5, h6, h⟩ := bnd_some h
  refine sc (dc_call (vs := [v1]) can57 rfl ?_)
  refine (marigraphref05_Sort_w C.sb h1 h6).mono ?_
  rintro _ w7 ⟨S8, v10, rfl, c9, h11⟩
  refine ⟨_, rfl, ?_⟩
  replace h0 := h0.cx c9
  replace C := C.trans c9
  refine sv (mvv (.tuple (List.toArray [v10, .int .i64 y5.2])) rfl) (sv (rv_extract rfl rfl) (sv (rv_extract rfl rfl) (sv (asv v10 rfl) (sv (asv (.int .i64 y5.2) rfl) (W.e (k4 _ _ ?_))))))
  refine cw_seq fun K12 k13 => ?_
  refine cw_region (sv (mvv v0 rfl) (sv (mvv v10 rfl) ?_))
  obtain ⟨y14, h15, h⟩ := bnd_some h
  refine sc (dc_call (vs := [v0, v10]) can47 rfl ?_)
  refine (marigraphref08_Index_find_w C.sb h0 h11 h15).mono ?_
  rintro _ w16 ⟨S17, rfl, c18⟩
  refine ⟨_, rfl, ?_⟩
  replace h0 := h0.cx c18
  replace C := C.trans c18
  refine sv (asv (.int .i64 y14) rfl) (W.e (k13 _ _ ?_))
  obtain ⟨o19, h22, h⟩ := bnds_some h
  refine cw_seq' (fun ρ w1 => ∃ o19n, o19 = (.inl o19n) ∧ ∃ S1, Cx No S w S1 w1 ∧ Has ρ [(0, v0), (8, .int .i64 y14)] ∧ Ob 29 (marigraphref08_Index.fs a0) S1 w1 v0 cs0 fp0) ?_ ?_
  · obtain ⟨o23, h26, h22⟩ := bnd_some h22
    refine cw_seq' (fun ρ w1 => ∃ S1, Cx No S w S1 w1 ∧ Has ρ [(0, v0), (8, .int .i64 y14), (22, .bool o23)] ∧ Ob 29 (marigraphref08_Index.fs a0) S1 w1 v0 cs0 fp0) ?_ ?_
    · refine cw_region (sv (mvv (.int .i64 y5.2) rfl) (sv (rv_neq rfl rfl) (sv (mvv (.bool (y5.2 != (0 : Int))) rfl) ?_)))
      rcases bif_some h26 with ⟨b27, h26⟩ | ⟨b27, h26⟩
      · refine W.n (gn rfl rfl rfl b27) (W.n (gn rfl rfl rfl b27) (sv (ptk (.bool true) rfl b27 rfl) (W.e ?_)))
        obtain rfl := Option.some.inj h26
        exact ⟨_, C, ⟨rfl, rfl, rfl, trivial⟩, h0⟩
      · refine W.v (gy rfl rfl rfl b27) (mvv (.int .i64 y14) rfl) (W.v (gy rfl rfl rfl b27) (rv_lss rfl rfl) (sv (pfk (.bool (decide (y14 < (0 : Int)))) rfl b27 rfl) (W.e ?_)))
        obtain rfl := Option.some.inj h26
        exact ⟨_, C, ⟨rfl, rfl, rfl, trivial⟩, h0⟩
    · rintro ρ w29 ⟨S28, C, h30, h0⟩
      refine h30.cw fun ρ => ?_
      clear h30
      rcases bif_some h22 with ⟨b31, h22⟩ | ⟨b31, h22⟩
      · refine cw_t rfl b31 ?_
        refine cw_seq fun K32 k33 => ?_
        refine cw_region (sv (asv (.int .i64 0) rfl) (sv (asv (.bool false) rfl) (W.e (k33 _ _ (cw_ret ?_)))))
        obtain rfl := Option.some.inj h22
        replace h := h.2 _ rfl
        obtain rfl := Option.some.inj h
        exact ⟨_, rfl, _, rfl, C⟩
      · refine cw_f rfl b31 (cw_skip ?_)
        obtain rfl := Option.some.inj h22
        exact ⟨_, rfl, ⟨_, C, ⟨rfl, rfl, trivial⟩, h0⟩⟩
  · rintro ρ w35 ⟨o19n, rfl, ⟨S34, C, h36, h0⟩⟩
    replace h := h.1 _ rfl
    refine h36.cw fun ρ => ?_
    clear h36
    refine cw_seq fun K37 k38 => ?_
    refine cw_region (sv (mvv v0 rfl) (sv (rv_nilcheck rfl h0.ptr) (sv (rv_fieldAddr (b := pb v0) (o := 0) st29 rfl h0.ptr) ?_)))
    obtain ⟨c39, h40, h41⟩ := h0.sl (i := 0) rfl
    refine sr (rw_ofield (i := 0) (c := c39) h0 ag27 h40 rfl) (sv (mvv (.int .i64 y14) rfl) ?_)
    obtain ⟨y42, h43, h⟩ := bnd_some h
    refine sv (rv_index el27 h41 rfl rfl h43) (sv (rv_fieldAddr st79 rfl rfl) ?_)
    obtain ⟨cs44, h45, h46⟩ := Sl.cells h41 h43
    obtain ⟨c47, rfl, g48⟩ := marigraphref08_Series.r.1 h45
    refine sr (rw_el1 (off := 0) ag3 (h46 _ (Sm.refl _ _)) rfl rfl) (sv (asv (.int .i64 y42.Id) rfl) (sv (asv (.bool true) rfl) (W.e (k38 _ _ (cw_ret ?_)))))
    obtain rfl := Option.some.inj h
    exact ⟨_, rfl, _, rfl, C⟩

noncomputable def marigraphref08_Index_Labels (a0 : marigraphref08_Index) (a1 : Int) : Option ((List api_Label) × Bool) :=
  ((marigraphref08_Index_at a0 a1).bind fun y5 => (bif (decide (y5 < (0 : Int))) then some (([] : List api_Label), false) else ((at_ a0.S y5).bind fun y22 => some (y22.L, true))))
set_option maxRecDepth 100000 in
set_option maxHeartbeats 4000000 in
theorem marigraphref08_Index_Labels_w {S : Nat → Prop} {w : World} {a0 : marigraphref08_Index} {a1 : Int} {v0 : Value} {cs0 : List Value} {fp0 : List Nat} {r : (List api_Label) × Bool} (hS : Sb S w) (h0 : Ob 29 (marigraphref08_Index.fs a0) S w v0 cs0 fp0) (h : marigraphref08_Index_Labels a0 a1 = some r) :
    Calls Tryz.prog 26 (List.toArray [v0, .int .i64 a1]) w fun e w1 => ∃ S1 u0, e = .returned (.tuple (List.toArray [u0, .bool r.2])) ∧ Cx No S w S1 w1 ∧ Sl (kSl api_Label.k) S1 w1 u0 r.1 := by
  refine enter Tryz.func26 rfl (by kernel_rfl) rfl ?_
  have C := Cx.refl (F := No) hS
  unfold marigraphref08_Index_Labels at h
  have hl0 : ∀ b ∈ fp0, b < w.heap.size := fun b hb => (h0.lt b hb).1
  refine cw_seq fun K1 k2 => ?_
  refine cw_region (sv (asv (.slice none 0 0) rfl) (sv (asv (.bool false) rfl) (W.e (k2 _ _ ?_))))
  refine cw_seq fun K3 k4 => ?_
  refine cw_region (sv (mvv v0 rfl) (sv (mvv (.int .i64 a1) rfl) ?_))
  obtain ⟨y5, h6, h⟩ := bnd_some h
  refine sc (dc_call (vs := [v0, .int .i64 a1]) can54 rfl ?_)
  refine (marigraphref08_Index_at_w C.sb h0 h6).mono ?_
  rintro _ w7 ⟨S8, rfl, c9⟩
  refine ⟨_, rfl, ?_⟩
  replace h0 := h0.cx c9
  replace C := C.trans c9
  refine sv (asv (.int .i64 y5) rfl) (W.e (k4 _ _ ?_))
  refine cw_seq fun K10 k11 => ?_
  refine cw_seq fun K12 k13 => ?_
  refine cw_region (sv (mvv (.int .i64 y5) rfl) (sv (rv_lss rfl rfl) (W.e (k13 _ _ ?_))))
  rcases bif_some h with ⟨b14, h⟩ | ⟨b14, h⟩
  · refine cw_t rfl b14 ?_
    refine cw_seq fun K15 k16 => ?_
    refine cw_region (sv (asv (.slice none 0 0) rfl) (sv (asv (.bool false) rfl) (W.e (k16 _ _ (cw_ret ?_)))))
    obtain rfl := Option.some.inj h
    exact ⟨_, rfl, _, _, rfl, C, (sl_nil _ _ _)⟩
  · refine cw_f rfl b14 (cw_skip (k11 _ _ ?_))
    refine cw_seq fun K17 k18 => ?_
    refine cw_region (sv (mvv v0 rfl) (sv (rv_nilcheck rfl h0.ptr) (sv (rv_fieldAddr (b := pb v0) (o := 0) st29 rfl h0.ptr) ?_)))
    obtain ⟨c19, h20, h21⟩ := h0.sl (i := 0) rfl
    refine sr (rw_ofield (i := 0) (c := c19) h0 ag27 h20 rfl) (sv (mvv (.int .i64 y5) rfl) ?_)
    obtain ⟨y22, h23, h⟩ := bnd_some h
    refine sv (rv_index el27 h21 rfl rfl h23) (sv (rv_fieldAddr st79 rfl rfl) ?_)
    obtain ⟨cs24, h25, h26⟩ := Sl.cells h21 h23
    obtain ⟨c27, rfl, g28⟩ := marigraphref08_Series.r.1 h25
    refine sr (rw_el1 (off := 1) ag31 (h26 _ (Sm.refl _ _)) rfl rfl) (sv (asv c27 rfl) (sv (asv (.bool true) rfl) (W.e (k18 _ _ (cw_ret ?_)))))
    obtain rfl := Option.some.inj h
    exact ⟨_, rfl, _, _, rfl, C, g28⟩

noncomputable def marigraphref08_Index_Vals.b5 (x17 : List ByteArray) (y45 : ByteArray × Bool) (x60 : Int) : Option ((Int) ⊕ (Int)) :=
  (((bif (decide (x60 < (x17.length : Int))) then ((at_ x17 x60).bind fun y72 => some (strLt y72 y45.1)) else some false).bind fun o67 => (bif o67 then some (.inl ()) else some (.inr (.inr x60)))).bind (Sum.elim (fun o63n => (pur (IntKind.i64.wrap (x60 + (1 : Int))) fun y82 => some (.inl y82))) (fun q => some q)))
noncomputable def marigraphref08_Index_Vals.b2 (a0 : marigraphref08_Index) (a1 : ByteArray) (x17 : List ByteArray) (x18 : Int) : Option (((List ByteArray) × Int) ⊕ ((List ByteArray))) :=
  (bif (decide (x18 < (a0.S.length : Int))) then (((at_ a0.S x18).bind fun y38 => ((marigraphref05_Get y38.L a1).bind fun y45 => ((iter (fun s : Int => marigraphref08_Index_Vals.b5 x17 y45 s) (0 : Int)).bind fun o52 => (((bif (!y45.2) then some true else (bif (decide (o52 < (x17.length : Int))) then ((at_ x17 o52).bind fun y97 => some (strEq y97 y45.1)) else some false)).bind fun o91 => (bif o91 then some (.inr x17) else some (.inl ()))).bind (Sum.elim (fun o87n => ((from_ x17 o52).bind fun y115 => ((app_ 16 ([] : List ByteArray) y115).bind fun y121 => ((upto_ x17 o52).bind fun y141 => ((app_ 16 ([] : List ByteArray) y141).bind fun y149 => ((app_ 16 y149 ([y45.1] : List ByteArray)).bind fun y167 => ((app_ 16 y167 y121).bind fun y177 => some y177))))))) (fun q => some q)))))).bind fun o29 => (pur (IntKind.i64.wrap (x18 + (1 : Int))) fun y191 => some (.inl (o29, y191)))) else some (.inr x17))
noncomputable def marigraphref08_Index_Vals (a0 : marigraphref08_Index) (a1 : ByteArray) : Option (List ByteArray) :=
  ((iter (fun s : (List ByteArray) × Int => marigraphref08_Index_Vals.b2 a0 a1 s.1 s.2) (([] : List ByteArray), (0 : Int))).bind fun o5 => some o5)
set_option maxRecDepth 100000 in
set_option maxHeartbeats 4000000 in
theorem marigraphref08_Index_Vals_w {S : Nat → Prop} {w : World} {a0 : marigraphref08_Index} {a1 : ByteArray} {v0 : Value} {cs0 : List Value} {fp0 : List Nat} {r : (List ByteArray)} (hS : Sb S w) (h0 : Ob 29 (marigraphref08_Index.fs a0) S w v0 cs0 fp0) (h : marigraphref08_Index_Vals a0 a1 = some r) :
    Calls Tryz.prog 31 (List.toArray [v0, .string a1]) w fun e w1 => ∃ S1 u0, e = .returned (u0) ∧ Cx No S w S1 w1 ∧ Ow kS 9 S1 w.heap.size w1 u0 r := by
  refine enter Tryz.func31 rfl (by kernel_rfl) rfl ?_
  have C := Cx.refl (F := No) hS
  unfold marigraphref08_Index_Vals at h
  have hl0 : ∀ b ∈ fp0, b < w.heap.size := fun b hb => (h0.lt b hb).1
  refine cw_seq fun K1 k2 => ?_
  refine cw_region (sv (asv (.slice none 0 0) rfl) (W.e (k2 _ _ ?_)))
  refine cw_seq fun K3 k4 => ?_
  refine cw_region (sv (asv (.slice none 0 0) rfl) (W.e (k4 _ _ ?_)))
  obtain ⟨o5, h8, h⟩ := bnd_some h
  refine cw_seq' (fun ρ w1 => ∃ S1 v196, Cx No S w S1 w1 ∧ Has ρ [(5, v196)] ∧ Ow kS 9 S1 w.heap.size w1 v196 o5) ?_ ?_
  · refine cw_seq fun K9 k10 => ?_
    refine cw_region (sv (asv (.int .i64 0) rfl) (W.e (k10 _ _ (cw_block ?_))))
    refine cw_iter h8 (fun s ρ w1 => ∃ S1 v14, Cx No S w S1 w1 ∧ Has ρ [(0, v0), (1, .string a1), (5, v14), (6, .int .i64 s.2)] ∧ Ow kS 9 S1 w.heap.size w1 v14 s.1 ∧ Ob 29 (marigraphref08_Index.fs a0) S1 w1 v0 cs0 fp0) ⟨_, _, C, ⟨rfl, rfl, rfl, rfl, trivial⟩, Ow.nil _ _ _ _ _, h0⟩ ?_
    rintro ⟨x17, x18⟩ q11 ρ w13 ⟨S12, v14, C, h16, h15, h0⟩ h20 h19
    refine h16.cw fun ρ => ?_
    clear h16
    replace h20 : marigraphref08_Index_Vals.b2 a0 a1 x17 x18 = some q11 := h20
    unfold marigraphref08_Index_Vals.b2 at h20
    refine cw_seq fun K21 k22 => ?_
    refine cw_seq fun K23 k24 => ?_
    refine cw_region (sv (mvv (.int .i64 x18) rfl) (sv (mvv v0 rfl) (sv (rv_nilcheck rfl h0.ptr) (sv (rv_fieldAddr (b := pb v0) (o := 0) st29 rfl h0.ptr) ?_))))
    obtain ⟨c25, h26, h27⟩ := h0.sl (i := 0) rfl
    refine sr (rw_ofield (i := 0) (c := c25) h0 ag27 h26 rfl) (sv (rv_lenS el27 h27 rfl) (sv (rv_lss rfl rfl) (W.e (k24 _ _ ?_))))
    rcases bif_some h20 with ⟨b28, h20⟩ | ⟨b28, h20⟩
    · refine cw_t rfl b28 (cw_skip (k22 _ _ ?_))
      obtain ⟨o29, h32, h20⟩ := bnd_some h20
      refine cw_seq' (fun ρ w1 => ∃ S1 v188, Cx No S w S1 w1 ∧ Has ρ [(0, v0), (1, .string a1), (5, v188), (6, .int .i64 x18)] ∧ Ow kS 9 S1 w.heap.size w1 v188 o29 ∧ Ob 29 (marigraphref08_Index.fs a0) S1 w1 v0 cs0 fp0) ?_ ?_
      · refine cw_block ?_
        refine cw_seq fun K33 k34 => ?_
        refine cw_region (sv (mvv v0 rfl) (sv (rv_nilcheck rfl h0.ptr) (sv (rv_fieldAddr (b := pb v0) (o := 0) st29 rfl h0.ptr) ?_)))
        obtain ⟨c35, h36, h37⟩ := h0.sl (i := 0) rfl
        refine sr (rw_ofield (i := 0) (c := c35) h0 ag27 h36 rfl) (sv (mvv (.int .i64 x18) rfl) ?_)
        obtain ⟨y38, h39, h32⟩ := bnd_some h32
        refine sv (rv_index el27 h37 rfl rfl h39) (sv (rv_fieldAddr st79 rfl rfl) ?_)
        obtain ⟨cs40, h41, h42⟩ := Sl.cells h37 h39
        obtain ⟨c43, rfl, g44⟩ := marigraphref08_Series.r.1 h41
        refine sr (rw_el1 (off := 1) ag31 (h42 _ (Sm.refl _ _)) rfl rfl) (sv (mvv (.string a1) rfl) ?_)
        obtain ⟨y45, h46, h32⟩ := bnd_some h32
        refine sc (dc_call (vs := [c43, .string a1]) can60 rfl ?_)
        refine (marigraphref05_Get_w C.sb g44 h46).mono ?_
        rintro _ w47 ⟨S48, rfl, c49⟩
        refine ⟨_, rfl, ?_⟩
        replace h0 := h0.cx c49
        replace h15 := h15.cx c49
        replace C := C.trans c49
        refine sv (mvv (.tuple (List.toArray [.string y45.1, .bool y45.2])) rfl) (sv (rv_extract rfl rfl) (sv (rv_extract rfl rfl) (sv (asv (.string y45.1) rfl) (sv (asv (.bool y45.2) rfl) (W.e (k34 _ _ ?_))))))
        refine cw_seq fun K50 k51 => ?_
        refine cw_region (sv (asv (.int .i64 0) rfl) (W.e (k51 _ _ ?_)))
        obtain ⟨o52, h55, h32⟩ := bnd_some h32
        refine cw_seq' (fun ρ w1 => ∃ S1, Cx No S w S1 w1 ∧ Has ρ [(0, v0), (1, .string a1), (5, v14), (6, .int .i64 x18), (7, .string y45.1), (8, .bool y45.2), (9, .int .i64 o52)] ∧ Ow kS 9 S1 w.heap.size w1 v14 x17 ∧ Ob 29 (marigraphref08_Index.fs a0) S1 w1 v0 cs0 fp0) ?_ ?_
        · refine cw_block ?_
          refine cw_iter h55 (fun s ρ w1 => ∃ S1, Cx No S w S1 w1 ∧ Has ρ [(0, v0), (1, .string a1), (5, v14), (6, .int .i64 x18), (7, .string y45.1), (8, .bool y45.2), (9, .int .i64 s)] ∧ Ow kS 9 S1 w.heap.size w1 v14 x17 ∧ Ob 29 (marigraphref08_Index.fs a0) S1 w1 v0 cs0 fp0) ⟨_, C, ⟨rfl, rfl, rfl, rfl, rfl, rfl, rfl, trivial⟩, h15, h0⟩ ?_
          rintro x60 q56 ρ w58 ⟨S57, C, h59, h15, h0⟩ h62 h61
          refine h59.cw fun ρ => ?_
          clear h59
          replace h62 : marigraphref08_Index_Vals.b5 x17 y45 x60 = some q56 := h62
          unfold marigraphref08_Index_Vals.b5 at h62
          obtain ⟨o63, h66, h62⟩ := bnds_some h62
          refine cw_seq' (fun ρ w1 => ∃ o63n, o63 = (.inl o63n) ∧ ∃ S1, Cx No S w S1 w1 ∧ Has ρ [(0, v0), (1, .string a1), (5, v14), (6, .int .i64 x18), (7, .string y45.1), (8, .bool y45.2), (9, .int .i64 x60)] ∧ Ow kS 9 S1 w.heap.size w1 v14 x17 ∧ Ob 29 (marigraphref08_Index.fs a0) S1 w1 v0 cs0 fp0) ?_ ?_
          · obtain ⟨o67, h70, h66⟩ := bnd_some h66
            refine cw_seq' (fun ρ w1 => ∃ S1, Cx No S w S1 w1 ∧ Has ρ [(0, v0), (1, .string a1), (5, v14), (6, .int .i64 x18), (7, .string y45.1), (8, .bool y45.2), (9, .int .i64 x60), (44, .bool o67)] ∧ Ow kS 9 S1 w.heap.size w1 v14 x17 ∧ Ob 29 (marigraphref08_Index.fs a0) S1 w1 v0 cs0 fp0) ?_ ?_
            · refine cw_region (sv (mvv (.int .i64 x60) rfl) (sv (mvv v14 rfl) (sv (rv_lenS el70 h15.sealed rfl) (sv (rv_lss rfl rfl) (sv (mvv (.bool (decide (x60 < (x17.length : Int)))) rfl) ?_)))))
              rcases bif_some h70 with ⟨b71, h70⟩ | ⟨b71, h70⟩
              · refine W.v (gy rfl rfl rfl b71) (mvv v14 rfl) (W.v (gy rfl rfl rfl b71) (mvv (.int .i64 x60) rfl) ?_)
                obtain ⟨y72, h73, h70⟩ := bnd_some h70
                refine W.v (gy rfl rfl rfl b71) (rv_index el70 h15.sealed rfl rfl h73) (W.r (gy rfl rfl rfl b71) (rw_loadC el70 h15.sealed h73 rfl _ (Sm.refl _ _)) (W.v (gy rfl rfl rfl b71) (mvv (.string y45.1) rfl) (W.v (gy rfl rfl rfl b71) (rv_slss rfl rfl) (sv (ptk (.bool (strLt y72 y45.1)) rfl b71 rfl) (W.e ?_)))))
                obtain rfl := Option.some.inj h70
                exact ⟨_, C, ⟨rfl, rfl, rfl, rfl, rfl, rfl, rfl, rfl, trivial⟩, h15, h0⟩
              · refine W.n (gn rfl rfl rfl b71) (W.n (gn rfl rfl rfl b71) (W.n (gn rfl rfl rfl b71) (W.n (gn rfl rfl rfl b71) (W.n (gn rfl rfl rfl b71) (W.n (gn rfl rfl rfl b71) (sv (pfk (.bool false) rfl b71 rfl) (W.e ?_)))))))
                obtain rfl := Option.some.inj h70
                exact ⟨_, C, ⟨rfl, rfl, rfl, rfl, rfl, rfl, rfl, rfl, trivial⟩, h15, h0⟩
            · rintro ρ w75 ⟨S74, C, h76, h15, h0⟩
              refine h76.cw fun ρ => ?_
              clear h76
              rcases bif_some h66 with ⟨b77, h66⟩ | ⟨b77, h66⟩
              · refine cw_t rfl b77 (cw_skip ?_)
                obtain rfl := Option.some.inj h66
                exact ⟨_, rfl, ⟨_, C, ⟨rfl, rfl, rfl, rfl, rfl, rfl, rfl, trivial⟩, h15, h0⟩⟩
              · refine cw_f rfl b77 (cw_exit ?_)
                obtain rfl := Option.some.inj h66
                replace h62 := h62.2 _ rfl
                obtain rfl := Option.some.inj h62
                have h78 := congrArg some h61
                obtain rfl := Option.some.inj h78
                exact ⟨_, C, ⟨rfl, rfl, rfl, rfl, rfl, rfl, rfl, trivial⟩, h15, h0⟩
          · rintro ρ w80 ⟨o63n, rfl, ⟨S79, C, h81, h15, h0⟩⟩
            replace h62 := h62.1 _ rfl
            refine h81.cw fun ρ => ?_
            clear h81
            refine cw_block (cw_region (sv (mvv (.int .i64 x60) rfl) ?_))
            obtain ⟨y82, h83, h62⟩ := pur_some h62
            refine sv (rv_add rfl rfl h83) (sv (asv (.int .i64 y82) rfl) (W.e ?_))
            obtain rfl := Option.some.inj h62
            exact ⟨_, rfl, ⟨_, C, ⟨rfl, rfl, rfl, rfl, rfl, rfl, rfl, trivial⟩, h15, h0⟩⟩
        · rintro ρ w85 ⟨S84, C, h86, h15, h0⟩
          refine h86.cw fun ρ => ?_
          clear h86
          obtain ⟨o87, h90, h32⟩ := bnds_some h32
          refine cw_seq' (fun ρ w1 => ∃ o87n, o87 = (.inl o87n) ∧ ∃ S1, Cx No S w S1 w1 ∧ Has ρ [(0, v0), (1, .string a1), (5, v14), (6, .int .i64 x18), (7, .string y45.1), (9, .int .i64 o52)] ∧ Ow kS 9 S1 w.heap.size w1 v14 x17 ∧ Ob 29 (marigraphref08_Index.fs a0) S1 w1 v0 cs0 fp0) ?_ ?_
          · obtain ⟨o91, h94, h90⟩ := bnd_some h90
            refine cw_seq' (fun ρ w1 => ∃ S1, Cx No S w S1 w1 ∧ Has ρ [(0, v0), (1, .string a1), (5, v14), (6, .int .i64 x18), (7, .string y45.1), (9, .int .i64 o52), (62, .bool o91)] ∧ Ow kS 9 S1 w.heap.size w1 v14 x17 ∧ Ob 29 (marigraphref08_Index.fs a0) S1 w1 v0 cs0 fp0) ?_ ?_
            · refine cw_region (sv (mvv (.bool y45.2) rfl) (sv (rv_not rfl) (sv (mvv (.bool (!y45.2)) rfl) ?_)))
              rcases bif_some h94 with ⟨b95, h94⟩ | ⟨b95, h94⟩
              · refine W.n (gn rfl rfl rfl b95) (W.n (gn rfl rfl rfl b95) (W.n (gn rfl rfl rfl b95) (W.n (gn rfl rfl rfl b95) (W.n (gn rfl rfl rfl b95) (W.n (gu rfl rfl rfl) (W.n (gu rfl rfl rfl) (W.n (gu rfl rfl rfl) (W.n (gu rfl rfl rfl) (W.n (gu rfl rfl rfl) (W.n (gu rfl rfl rfl) (W.n (gn rfl rfl rfl b95) ?_)))))))))))
                refine sv (ptk (.bool true) rfl b95 rfl) (W.e ?_)
                obtain rfl := Option.some.inj h94
                exact ⟨_, C, ⟨rfl, rfl, rfl, rfl, rfl, rfl, rfl, trivial⟩, h15, h0⟩
              · refine W.v (gy rfl rfl rfl b95) (mvv (.int .i64 o52) rfl) (W.v (gy rfl rfl rfl b95) (mvv v14 rfl) (W.v (gy rfl rfl rfl b95) (rv_lenS el70 h15.sealed rfl) (W.v (gy rfl rfl rfl b95) (rv_lss rfl rfl) (W.v (gy rfl rfl rfl b95) (mvv (.bool (decide (o52 < (x17.length : Int)))) rfl) ?_))))
                rcases bif_some h94 with ⟨b96, h94⟩ | ⟨b96, h94⟩
                · refine W.v (gy rfl rfl rfl b96) (mvv v14 rfl) (W.v (gy rfl rfl rfl b96) (mvv (.int .i64 o52) rfl) ?_)
                  obtain ⟨y97, h98, h94⟩ := bnd_some h94
                  refine W.v (gy rfl rfl rfl b96) (rv_index el70 h15.sealed rfl rfl h98) (W.r (gy rfl rfl rfl b96) (rw_loadC el70 h15.sealed h98 rfl _ (Sm.refl _ _)) (W.v (gy rfl rfl rfl b96) (mvv (.string y45.1) rfl) (W.v (gy rfl rfl rfl b96) (rv_seql rfl rfl) (W.v (gy rfl rfl rfl b95) (ptk (.bool (strEq y97 y45.1)) rfl b96 rfl) (sv (pfk (.bool (strEq y97 y45.1)) rfl b95 rfl) (W.e ?_))))))
                  obtain rfl := Option.some.inj h94
                  exact ⟨_, C, ⟨rfl, rfl, rfl, rfl, rfl, rfl, rfl, trivial⟩, h15, h0⟩
                · refine W.n (gn rfl rfl rfl b96) (W.n (gn rfl rfl rfl b96) (W.n (gn rfl rfl rfl b96) (W.n (gn rfl rfl rfl b96) (W.n (gn rfl rfl rfl b96) (W.n (gn rfl rfl rfl b96) (W.v (gy rfl rfl rfl b95) (pfk (.bool false) rfl b96 rfl) (sv (pfk (.bool false) rfl b95 rfl) (W.e ?_))))))))
                  obtain rfl := Option.some.inj h94
                  exact ⟨_, C, ⟨rfl, rfl, rfl, rfl, rfl, rfl, rfl, trivial⟩, h15, h0⟩
            · rintro ρ w100 ⟨S99, C, h101, h15, h0⟩
              refine h101.cw fun ρ => ?_
              clear h101
              rcases bif_some h90 with ⟨b102, h90⟩ | ⟨b102, h90⟩
              · refine cw_t rfl b102 (cw_exit ?_)
                obtain rfl := Option.some.inj h90
                replace h32 := h32.2 _ rfl
                obtain rfl := Option.some.inj h32
                exact ⟨_, _, C, ⟨rfl, rfl, rfl, rfl, trivial⟩, h15, h0⟩
              · refine cw_f rfl b102 (cw_skip ?_)
                obtain rfl := Option.some.inj h90
                exact ⟨_, rfl, ⟨_, C, ⟨rfl, rfl, rfl, rfl, rfl, rfl, trivial⟩, h15, h0⟩⟩
          · rintro ρ w104 ⟨o87n, rfl, ⟨S103, C, h105, h15, h0⟩⟩
            replace h32 := h32.1 _ rfl
            refine h105.cw fun ρ => ?_
            clear h105
            refine cw_seq fun K106 k107 => ?_
            refine cw_region ?_
            refine sc (dc_lit (vs := []) (xs := ([] : List ByteArray)) (base := w.heap.size) el70 rfl rfl (.nil) (Nat.le_of_ble_eq_true rfl) C.up.size C.sb fun v108 w109 h110 h111 u112 => ?_)
            have p113 := ap_fresh h111 (fun b hb => (h0.lt b hb).1)
            have p114 := ap_fresh h111 (fun b hb => (h15.lt b hb).2)
            replace h0 := h0.nw u112
            replace h15 := h15.nw u112
            replace C := C.new u112
            refine sv (mvv v14 rfl) (sv (mvv (.int .i64 o52) rfl) ?_)
            obtain ⟨y115, h116, h32⟩ := bnd_some h32
            obtain ⟨v117, h118, h119, h120⟩ := Ow.fromO (P := Tryz.prog) h15 h116 el70
            refine sv (h120 rfl rfl) ?_
            obtain ⟨y121, h122, h32⟩ := bnd_some h32
            have h128 := h110
            refine sc (dc_append el70 (by decide) h128 h119 rfl rfl h122 C.up.size C.sb fun v123 w124 h125 u126 h127 => ?_)
            have p129 := ap_grow p113 h127 (fun b hb => (h0.lt b hb).1)
            have p130 := ap_grow p114 h127 (fun b hb => (h15.lt b hb).2)
            replace h0 := h0.wr u126 h128.not (ap_symm p113)
            replace h15 := h15.wr u126 h128.not (ap_symm p114)
            replace C := C.ow h128 u126
            refine sv (asv v123 rfl) (W.e (k107 _ _ ?_))
            refine cw_seq fun K131 k132 => ?_
            refine cw_region ?_
            refine sc (dc_lit (vs := []) (xs := ([] : List ByteArray)) (base := w.heap.size) el70 rfl rfl (.nil) (Nat.le_of_ble_eq_true rfl) C.up.size C.sb fun v133 w134 h135 h136 u137 => ?_)
            have p138 := ap_fresh h136 (fun b hb => (h0.lt b hb).1)
            have p139 := ap_fresh h136 (fun b hb => (h15.lt b hb).2)
            have p140 := ap_fresh h136 (fun b hb => (h125.lt b hb).2)
            replace h0 := h0.nw u137
            replace h15 := h15.nw u137
            replace h125 := h125.nw u137
            replace C := C.new u137
            refine sv (mvv v14 rfl) (sv (mvv (.int .i64 o52) rfl) ?_)
            obtain ⟨y141, h142, h32⟩ := bnd_some h32
            obtain ⟨v143, h144, h145, h146⟩ := Ow.upto (P := Tryz.prog) h15 h142 el70
            have p147 : Ap v143 v133 := fun b hq => (ap_symm p139) b (h145 b hq)
            have p148 : Ap v143 v123 := fun b hq => (ap_symm p130) b (h145 b hq)
            refine sv (h146 rfl rfl) ?_
            obtain ⟨y149, h150, h32⟩ := bnd_some h32
            have h156 := h135
            refine sc (dc_append el70 (by decide) h156 h144.src rfl rfl h150 C.up.size C.sb fun v151 w152 h153 u154 h155 => ?_)
            have p157 := ap_grow p138 h155 (fun b hb => (h0.lt b hb).1)
            have p158 := ap_grow p140 h155 (fun b hb => (h125.lt b hb).2)
            replace h0 := h0.wr u154 h156.not (ap_symm p138)
            replace h125 := h125.wr u154 h156.not (ap_symm p140)
            replace C := C.ow h156 u154
            refine sv (mvv (.string y45.1) rfl) ?_
            refine sc (dc_lit (vs := [.string y45.1]) (xs := ([y45.1] : List ByteArray)) (base := w.heap.size) el70 rfl rfl (.cons (sl_sc.2 rfl) (.nil)) (Nat.le_of_ble_eq_true rfl) C.up.size C.sb fun v159 w160 h161 h162 u163 => ?_)
            have p164 := ap_fresh h162 (fun b hb => (h0.lt b hb).1)
            have p165 := ap_fresh h162 (fun b hb => (h153.lt b hb).2)
            have p166 := ap_fresh h162 (fun b hb => (h125.lt b hb).2)
            replace h0 := h0.nw u163
            replace h153 := h153.nw u163
            replace h125 := h125.nw u163
            replace C := C.new u163
            obtain ⟨y167, h168, h32⟩ := bnd_some h32
            have h174 := h153
            refine sc (dc_append el70 (by decide) h174 h161.src rfl rfl h168 C.up.size C.sb fun v169 w170 h171 u172 h173 => ?_)
            have p175 := ap_grow p157 h173 (fun b hb => (h0.lt b hb).1)
            have p176 := ap_grow p158 h173 (fun b hb => (h125.lt b hb).2)
            replace h0 := h0.wr u172 h174.not (ap_symm p157)
            replace h125 := h125.wr u172 h174.not (ap_symm p158)
            replace C := C.ow h174 u172
            refine sv (asv v169 rfl) (W.e (k132 _ _ (cw_region (sv (mvv v169 rfl) (sv (mvv v123 rfl) ?_)))))
            obtain ⟨y177, h178, h32⟩ := bnd_some h32
            have h184 := h171
            refine sc (dc_append el70 (by decide) h184 h125.src rfl rfl h178 C.up.size C.sb fun v179 w180 h181 u182 h183 => ?_)
            have p185 := ap_grow p175 h183 (fun b hb => (h0.lt b hb).1)
            replace h0 := h0.wr u182 h184.not (ap_symm p175)
            replace C := C.ow h184 u182
            refine sv (asv v179 rfl) (W.e ?_)
            obtain rfl := Option.some.inj h32
            exact ⟨_, _, C, ⟨rfl, rfl, rfl, rfl, trivial⟩, h181, h0⟩
      · rintro ρ w187 ⟨S186, v188, C, h190, h189, h0⟩
        refine h190.cw fun ρ => ?_
        clear h190
        refine cw_region (sv (mvv (.int .i64 x18) rfl) ?_)
        obtain ⟨y191, h192, h20⟩ := pur_some h20
        refine sv (rv_add rfl rfl h192) (sv (asv (.int .i64 y191) rfl) (W.e ?_))
        obtain rfl := Option.some.inj h20
        exact ⟨_, rfl, ⟨_, _, C, ⟨rfl, rfl, rfl, rfl, trivial⟩, h189, h0⟩⟩
    · refine cw_f rfl b28 (cw_exit ?_)
      obtain rfl := Option.some.inj h20
      have h193 := congrArg some h19
      obtain rfl := Option.some.inj h193
      exact ⟨_, _, C, ⟨rfl, trivial⟩, h15⟩
  · rintro ρ w195 ⟨S194, v196, C, h198, h197⟩
    refine h198.cw fun ρ => ?_
    clear h198
    refine cw_seq fun K199 k200 => ?_
    refine cw_region (sv (mvv v196 rfl) (sv (asv v196 rfl) (W.e (k200 _ _ (cw_ret ?_)))))
    obtain rfl := Option.some.inj h
    exact ⟨_, rfl, _, _, rfl, C, h197⟩

noncomputable def marigraphref08_Strings.b2 (a0 : List ByteArray) (a1 : List ByteArray) (x20 : Int) : Option ((Int) ⊕ ((Unit) ⊕ (Bool))) :=
  (bif (decide (x20 < (a0.length : Int))) then ((at_ a0 x20).bind fun y35 => ((at_ a1 x20).bind fun y37 => (bif (!strEq y35 y37) then some (.inr (.inr false)) else (pur (IntKind.i64.wrap (x20 + (1 : Int))) fun y43 => some (.inl y43))))) else some (.inr (.inl ())))
noncomputable def marigraphref08_Strings (a0 : List ByteArray) (a1 : List ByteArray) : Option Bool :=
  (bif ((a0.length : Int) != (a1.length : Int)) then some false else ((iter (fun s : Int => marigraphref08_Strings.b2 a0 a1 s) (0 : Int)).bind (Sum.elim (fun o10n => some true) (fun q => some q))))
set_option maxRecDepth 100000 in
set_option maxHeartbeats 4000000 in
theorem marigraphref08_Strings_w {S : Nat → Prop} {w : World} {a0 : List ByteArray} {a1 : List ByteArray} {v0 v1 : Value} {r : Bool} (hS : Sb S w) (h0 : Sl (kSl kS) S w v0 a0) (h1 : Sl (kSl kS) S w v1 a1) (h : marigraphref08_Strings a0 a1 = some r) :
    Calls Tryz.prog 29 (List.toArray [v0, v1]) w fun e w1 => ∃ S1, e = .returned (.bool r) ∧ Cx No S w S1 w1 := by
  refine enter Tryz.func29 rfl (by kernel_rfl) rfl ?_
  have C := Cx.refl (F := No) hS
  unfold marigraphref08_Strings at h
  refine cw_seq fun K1 k2 => ?_
  refine cw_region (sv (asv (.bool false) rfl) (W.e (k2 _ _ ?_)))
  refine cw_seq fun K3 k4 => ?_
  refine cw_seq fun K5 k6 => ?_
  refine cw_region (sv (mvv v0 rfl) (sv (rv_lenS el70 h0 rfl) (sv (mvv v1 rfl) (sv (rv_lenS el70 h1 rfl) (sv (rv_neq rfl rfl) (W.e (k6 _ _ ?_)))))))
  rcases bif_some h with ⟨b7, h⟩ | ⟨b7, h⟩
  · refine cw_t rfl b7 ?_
    refine cw_seq fun K8 k9 => ?_
    refine cw_region (sv (asv (.bool false) rfl) (W.e (k9 _ _ (cw_ret ?_))))
    obtain rfl := Option.some.inj h
    exact ⟨_, rfl, _, rfl, C⟩
  · refine cw_f rfl b7 (cw_skip (k4 _ _ ?_))
    obtain ⟨o10, h13, h⟩ := bnds_some h
    refine cw_seq' (fun ρ w1 => ∃ o10n, o10 = (.inl o10n) ∧ ∃ S1, Cx No S w S1 w1 ∧ Has ρ []) ?_ ?_
    · refine cw_seq fun K14 k15 => ?_
      refine cw_region (sv (asv (.int .i64 0) rfl) (W.e (k15 _ _ (cw_block ?_))))
      refine cw_iter h13 (fun s ρ w1 => ∃ S1, Cx No S w S1 w1 ∧ Has ρ [(0, v0), (1, v1), (5, .int .i64 s)] ∧ Sl (kSl kS) S1 w1 v0 a0 ∧ Sl (kSl kS) S1 w1 v1 a1) ⟨_, C, ⟨rfl, rfl, rfl, trivial⟩, h0, h1⟩ ?_
      rintro x20 q16 ρ w18 ⟨S17, C, h19, h0, h1⟩ h22 h21
      refine h19.cw fun ρ => ?_
      clear h19
      replace h22 : marigraphref08_Strings.b2 a0 a1 x20 = some q16 := h22
      unfold marigraphref08_Strings.b2 at h22
      refine cw_seq fun K23 k24 => ?_
      refine cw_seq fun K25 k26 => ?_
      refine cw_region (sv (mvv (.int .i64 x20) rfl) (sv (mvv v0 rfl) (sv (rv_lenS el70 h0 rfl) (sv (rv_lss rfl rfl) (W.e (k26 _ _ ?_))))))
      rcases bif_some h22 with ⟨b27, h22⟩ | ⟨b27, h22⟩
      · refine cw_t rfl b27 (cw_skip (k24 _ _ ?_))
        refine cw_seq fun K28 k29 => ?_
        refine cw_block ?_
        refine cw_seq fun K30 k31 => ?_
        refine cw_drawU (.one 0 true (.one 1 true (.one 2 true (.one 3 true (.one 4 true (.one 5 true (.one 6 true (.one 7 true (.one 8 true .done))))))))) [(3, [9]), (7, [9])] [] (fun c => bif Nat.beq c 9 then (fun _ => True) else No) fol (by kernel_rfl) fun w32 u33 => ?_
        replace h0 := h0.nw u33
        replace h1 := h1.nw u33
        replace C := C.new u33
        have m34 := Sm.refl (fun _ => True) w32
        refine mtv rfl rfl (mvv v0 rfl) (mtv rfl rfl (mvv (.int .i64 x20) rfl) ?_)
        obtain ⟨y35, h36, h22⟩ := bnd_some h22
        refine mtv rfl rfl (rv_index el70 h0 rfl rfl h36) (mtr rfl rfl ⟨m34, trivial⟩ (fun w' hq => rw_loadC el70 h0 h36 rfl w' (hq.1.mono fun _ _ => trivial)) (mtv rfl rfl (mvv v1 rfl) (mtv rfl rfl (mvv (.int .i64 x20) rfl) ?_)))
        obtain ⟨y37, h38, h22⟩ := bnd_some h22
        refine mtv rfl rfl (rv_index el70 h1 rfl rfl h38) (mtr rfl rfl ⟨m34, trivial⟩ (fun w' hq => rw_loadC el70 h1 h38 rfl w' (hq.1.mono fun _ _ => trivial)) (mtv rfl rfl (rv_sneq rfl rfl) (MT.e (k31 _ _ ?_))))
        rcases bif_some h22 with ⟨b39, h22⟩ | ⟨b39, h22⟩
        · refine cw_t rfl b39 ?_
          refine cw_seq fun K40 k41 => ?_
          refine cw_region (sv (asv (.bool false) rfl) (W.e (k41 _ _ (cw_ret ?_))))
          obtain rfl := Option.some.inj h22
          have h42 := congrArg some h21
          obtain rfl := Option.some.inj h42
          replace h := h.2 _ rfl
          obtain rfl := Option.some.inj h
          exact ⟨_, rfl, _, rfl, C⟩
        · refine cw_f rfl b39 (cw_skip (k29 _ _ (cw_region (sv (mvv (.int .i64 x20) rfl) ?_))))
          obtain ⟨y43, h44, h22⟩ := pur_some h22
          refine sv (rv_add rfl rfl h44) (sv (asv (.int .i64 y43) rfl) (W.e ?_))
          obtain rfl := Option.some.inj h22
          exact ⟨_, rfl, ⟨_, C, ⟨rfl, rfl, rfl, trivial⟩, h0, h1⟩⟩
      · refine cw_f rfl b27 (cw_exit ?_)
        obtain rfl := Option.some.inj h22
        have h45 := congrArg some h21
        obtain rfl := Option.some.inj h45
        exact ⟨_, rfl, ⟨_, C, trivial⟩⟩
    · rintro ρ w47 ⟨o10n, rfl, ⟨S46, C, h48⟩⟩
      replace h := h.1 _ rfl
      refine h48.cw fun ρ => ?_
      clear h48
      refine cw_seq fun K49 k50 => ?_
      refine cw_region (sv (asv (.bool true) rfl) (W.e (k50 _ _ (cw_ret ?_))))
      obtain rfl := Option.some.inj h
      exact ⟨_, rfl, _, rfl, C⟩

noncomputable def index_Index_Post (a0 : Option index_Index) (a1 : api_Label) : Option (List Int) :=
  (bif a0.isNone then some ([] : List Int) else ((a0).bind fun y21 => ((slices_Clone_int_int ((mget a1 y21.posts).getD ([] : List Int))).bind fun y31 => some y31)))
set_option maxRecDepth 100000 in
set_option maxHeartbeats 4000000 in
theorem index_Index_Post_w {S : Nat → Prop} {w : World} {a0 : Option index_Index} {a1 : api_Label} {v0 v1 : Value} {cs0 : List Value} {fp0 : List Nat} {r : (List Int)} (hS : Sb S w) (h0 : Obo 61 index_Index.fs S w v0 a0 cs0 fp0) (h1 : Sl api_Label.k S w v1 a1) (h : index_Index_Post a0 a1 = some r) :
    Calls Tryz.prog 27 (List.toArray [v0, v1]) w fun e w1 => ∃ S1 u0, e = .returned (u0) ∧ Cx No S w S1 w1 ∧ Ow (kI .i64) 3 S1 w.heap.size w1 u0 r := by
  refine enter Tryz.func27 rfl (by kernel_rfl) rfl ?_
  have C := Cx.refl (F := No) hS
  unfold index_Index_Post at h
  have hl0 : ∀ b ∈ fp0, b < w.heap.size := fun b hb => (h0.lt b hb).1
  obtain rfl := api_Label.o.1 h1
  refine cw_seq fun K1 k2 => ?_
  refine cw_region ?_
  refine sc (dc_boxS C.sb rfl fun b3 S4 w5 c6 h7 => ?_)
  replace h0 := h0.cx c6
  replace C := C.trans c6
  refine sv (asv (.slice none 0 0) rfl) (W.e (k2 _ _ ?_))
  refine cw_seq fun K9 k10 => ?_
  refine cw_seq fun K11 k12 => ?_
  refine cw_region (sv (mvv v0 rfl) (sv (rv_nileq Tryz.underlying24 rfl rfl h0.ne) (W.e (k12 _ _ ?_))))
  rcases bif_some h with ⟨b13, h⟩ | ⟨b13, h⟩
  · refine cw_t rfl b13 ?_
    refine cw_seq fun K14 k15 => ?_
    refine cw_region (sv (asv (.slice none 0 0) rfl) (W.e (k15 _ _ (cw_ret ?_))))
    obtain rfl := Option.some.inj h
    exact ⟨_, rfl, _, _, rfl, C, Ow.nil _ _ _ _ _⟩
  · refine cw_f rfl b13 (cw_skip (k10 _ _ ?_))
    refine cw_seq fun K16 k17 => ?_
    refine cw_drawU (.one 0 true (.one 1 true (.one 2 true (.one 3 true (.one 4 true (.one 5 true (.one 6 false (.one 7 true .done)))))))) [(3, [9]), (4, [9]), (5, [9])] [(6, [9])] (fun c => bif Nat.beq c 9 then (fun _ => True) else No) fol (by kernel_rfl) fun w18 u19 => ?_
    replace h0 := h0.nw u19
    replace h7 := h7.nw u19
    replace C := C.new u19
    have h0d := h0
    have h7d := h7
    have m20 := Sm.refl (fun _ => True) w18
    refine mtv rfl rfl (mvv v0 rfl) ?_
    obtain ⟨y21, h22, h⟩ := bnd_some h
    have h23 := h0
    rw [h22] at h23
    replace h23 : Ob 61 (index_Index.fs y21) _ _ _ _ _ := h23
    have h23d := h23
    refine mtv rfl rfl (rv_nilcheck rfl h23.ptr) (mtv rfl rfl (rv_fieldAddr (b := pb v0) (o := 0) st61 rfl h23.ptr) ?_)
    obtain ⟨c24, h25⟩ := h23.at (i := 2) rfl
    refine mtr rfl rfl ⟨m20, trivial⟩ (fun w' hq => rw_ofieldU (i := 2) (c := c24) h23 (hq.1.mono fun _ _ => trivial) ag58 h25 rfl) (mtr rfl rfl ⟨m20, trivial⟩ (fun w' hq => rw_bkA ag46 (h7.sm (hq.1.mono fun _ _ => trivial)) rfl rfl rfl) ?_)
    obtain ⟨_, h26, h27⟩ := Ob.rep h23 (i := 2) rfl h25
    obtain ⟨v28, h29, h30⟩ := rep_look (P := Tryz.prog) (tm := 58) (te := 49) (y0 := ([] : List Int)) h26 Tryz.underlying58 zv49 (sl_nil _ _ _) a1
    refine mtr rfl rfl ⟨m20, trivial⟩ (fun w' hq => (h30 (hq.1.mono fun _ _ => trivial) rfl rfl).1) ?_
    obtain ⟨y31, h32, h⟩ := bnd_some h
    refine mtc rfl rfl (dc_call (vs := [v28]) can52 rfl ?_)
    refine (slices_Clone_int_int_w C.sb h29 h32).mono ?_
    rintro _ w33 ⟨S34, v36, rfl, c35, h37⟩
    refine ⟨_, rfl, ?_⟩
    replace h37 := h37.base C.up.size
    replace C := C.trans c35
    have z38 := (c35.up).size
    have m39 := m20.nx c35.up (by omega)
    refine ⟨⟨m39, trivial⟩, ?_⟩
    refine mtv rfl rfl (asv v36 rfl) (MT.e (k17 _ _ (cw_ret ?_)))
    obtain rfl := Option.some.inj h
    exact ⟨_, rfl, _, _, rfl, C, h37⟩

noncomputable def marigraphref08_Index_Post.b4 (a0 : marigraphref08_Index) (a1 : api_Label) (x24 : Int) (x47 : List Int) (x48 : Int) : Option (((List Int) × Int) ⊕ ((List Int))) :=
  ((at_ a0.S x24).bind fun y58 => (bif (decide (x48 < (y58.L.length : Int))) then (((at_ a0.S x24).bind fun y78 => ((at_ y78.L x48).bind fun y85 => (bif ((y85.Name == a1.Name) && ((y85.Val == a1.Val) && true)) then ((at_ a0.S x24).bind fun y94 => ((app_ 8 x47 ([y94.Id] : List Int)).bind fun y108 => some y108)) else some x47))).bind fun o66 => (pur (IntKind.i64.wrap (x48 + (1 : Int))) fun y122 => some (.inl (o66, y122)))) else some (.inr x47)))
noncomputable def marigraphref08_Index_Post.b2 (a0 : marigraphref08_Index) (a1 : api_Label) (x23 : List Int) (x24 : Int) : Option (((List Int) × Int) ⊕ ((List Int))) :=
  (bif (decide (x24 < (a0.S.length : Int))) then ((iter (fun s : (List Int) × Int => marigraphref08_Index_Post.b4 a0 a1 x24 s.1 s.2) (x23, (0 : Int))).bind fun o35 => (pur (IntKind.i64.wrap (x24 + (1 : Int))) fun y130 => some (.inl (o35, y130)))) else some (.inr x23))
noncomputable def marigraphref08_Index_Post (a0 : marigraphref08_Index) (a1 : api_Label) : Option (List Int) :=
  ((iter (fun s : (List Int) × Int => marigraphref08_Index_Post.b2 a0 a1 s.1 s.2) (([] : List Int), (0 : Int))).bind fun o11 => some o11)
set_option maxRecDepth 100000 in
set_option maxHeartbeats 4000000 in
theorem marigraphref08_Index_Post_w {S : Nat → Prop} {w : World} {a0 : marigraphref08_Index} {a1 : api_Label} {v0 v1 : Value} {cs0 : List Value} {fp0 : List Nat} {r : (List Int)} (hS : Sb S w) (h0 : Ob 29 (marigraphref08_Index.fs a0) S w v0 cs0 fp0) (h1 : Sl api_Label.k S w v1 a1) (h : marigraphref08_Index_Post a0 a1 = some r) :
    Calls Tryz.prog 28 (List.toArray [v0, v1]) w fun e w1 => ∃ S1 u0, e = .returned (u0) ∧ Cx No S w S1 w1 ∧ Ow (kI .i64) 3 S1 w.heap.size w1 u0 r := by
  refine enter Tryz.func28 rfl (by kernel_rfl) rfl ?_
  have C := Cx.refl (F := No) hS
  unfold marigraphref08_Index_Post at h
  have hl0 : ∀ b ∈ fp0, b < w.heap.size := fun b hb => (h0.lt b hb).1
  obtain rfl := api_Label.o.1 h1
  refine cw_seq fun K1 k2 => ?_
  refine cw_region ?_
  refine sc (dc_boxS C.sb rfl fun b3 S4 w5 c6 h7 => ?_)
  replace h0 := h0.cx c6
  replace C := C.trans c6
  refine sv (asv (.slice none 0 0) rfl) (W.e (k2 _ _ ?_))
  refine cw_seq fun K9 k10 => ?_
  refine cw_region (sv (asv (.slice none 0 0) rfl) (W.e (k10 _ _ ?_)))
  obtain ⟨o11, h14, h⟩ := bnd_some h
  refine cw_seq' (fun ρ w1 => ∃ S1 v135, Cx No S w S1 w1 ∧ Has ρ [(5, v135)] ∧ Ow (kI .i64) 3 S1 w.heap.size w1 v135 o11) ?_ ?_
  · refine cw_seq fun K15 k16 => ?_
    refine cw_region (sv (asv (.int .i64 0) rfl) (W.e (k16 _ _ (cw_block ?_))))
    refine cw_iter h14 (fun s ρ w1 => ∃ S1 v20, Cx No S w S1 w1 ∧ Has ρ [(0, v0), (3, .pointer (some ⟨b3, 0, none⟩)), (5, v20), (6, .int .i64 s.2)] ∧ Bs S1 w1 b3 [.string a1.Name, .string a1.Val] 46 ∧ Ow (kI .i64) 3 S1 w.heap.size w1 v20 s.1 ∧ Ob 29 (marigraphref08_Index.fs a0) S1 w1 v0 cs0 fp0) ⟨_, _, C, ⟨rfl, rfl, rfl, rfl, trivial⟩, h7, Ow.nil _ _ _ _ _, h0⟩ ?_
    rintro ⟨x23, x24⟩ q17 ρ w19 ⟨S18, v20, C, h22, h7, h21, h0⟩ h26 h25
    refine h22.cw fun ρ => ?_
    clear h22
    replace h26 : marigraphref08_Index_Post.b2 a0 a1 x23 x24 = some q17 := h26
    unfold marigraphref08_Index_Post.b2 at h26
    refine cw_seq fun K27 k28 => ?_
    refine cw_seq fun K29 k30 => ?_
    refine cw_region (sv (mvv (.int .i64 x24) rfl) (sv (mvv v0 rfl) (sv (rv_nilcheck rfl h0.ptr) (sv (rv_fieldAddr (b := pb v0) (o := 0) st29 rfl h0.ptr) ?_))))
    obtain ⟨c31, h32, h33⟩ := h0.sl (i := 0) rfl
    refine sr (rw_ofield (i := 0) (c := c31) h0 ag27 h32 rfl) (sv (rv_lenS el27 h33 rfl) (sv (rv_lss rfl rfl) (W.e (k30 _ _ ?_))))
    rcases bif_some h26 with ⟨b34, h26⟩ | ⟨b34, h26⟩
    · refine cw_t rfl b34 (cw_skip (k28 _ _ ?_))
      obtain ⟨o35, h38, h26⟩ := bnd_some h26
      refine cw_seq' (fun ρ w1 => ∃ S1 v127, Cx No S w S1 w1 ∧ Has ρ [(0, v0), (3, .pointer (some ⟨b3, 0, none⟩)), (5, v127), (6, .int .i64 x24)] ∧ Bs S1 w1 b3 [.string a1.Name, .string a1.Val] 46 ∧ Ow (kI .i64) 3 S1 w.heap.size w1 v127 o35 ∧ Ob 29 (marigraphref08_Index.fs a0) S1 w1 v0 cs0 fp0) ?_ ?_
      · refine cw_block ?_
        refine cw_seq fun K39 k40 => ?_
        refine cw_region (sv (asv (.int .i64 0) rfl) (W.e (k40 _ _ (cw_block ?_))))
        refine cw_iter h38 (fun s ρ w1 => ∃ S1 v44, Cx No S w S1 w1 ∧ Has ρ [(0, v0), (3, .pointer (some ⟨b3, 0, none⟩)), (5, v44), (6, .int .i64 x24), (7, .int .i64 s.2)] ∧ Bs S1 w1 b3 [.string a1.Name, .string a1.Val] 46 ∧ Ow (kI .i64) 3 S1 w.heap.size w1 v44 s.1 ∧ Ob 29 (marigraphref08_Index.fs a0) S1 w1 v0 cs0 fp0) ⟨_, _, C, ⟨rfl, rfl, rfl, rfl, rfl, trivial⟩, h7, h21, h0⟩ ?_
        rintro ⟨x47, x48⟩ q41 ρ w43 ⟨S42, v44, C, h46, h7, h45, h0⟩ h50 h49
        refine h46.cw fun ρ => ?_
        clear h46
        replace h50 : marigraphref08_Index_Post.b4 a0 a1 x24 x47 x48 = some q41 := h50
        unfold marigraphref08_Index_Post.b4 at h50
        refine cw_seq fun K51 k52 => ?_
        refine cw_seq fun K53 k54 => ?_
        refine cw_region (sv (mvv (.int .i64 x48) rfl) (sv (mvv v0 rfl) (sv (rv_nilcheck rfl h0.ptr) (sv (rv_fieldAddr (b := pb v0) (o := 0) st29 rfl h0.ptr) ?_))))
        obtain ⟨c55, h56, h57⟩ := h0.sl (i := 0) rfl
        refine sr (rw_ofield (i := 0) (c := c55) h0 ag27 h56 rfl) (sv (mvv (.int .i64 x24) rfl) ?_)
        obtain ⟨y58, h59, h50⟩ := bnd_some h50
        refine sv (rv_index el27 h57 rfl rfl h59) (sv (rv_fieldAddr st79 rfl rfl) ?_)
        obtain ⟨cs60, h61, h62⟩ := Sl.cells h57 h59
        obtain ⟨c63, rfl, g64⟩ := marigraphref08_Series.r.1 h61
        refine sr (rw_el1 (off := 1) ag31 (h62 _ (Sm.refl _ _)) rfl rfl) (sv (rv_lenS el31 g64 rfl) (sv (rv_lss rfl rfl) (W.e (k54 _ _ ?_))))
        rcases bif_some h50 with ⟨b65, h50⟩ | ⟨b65, h50⟩
        · refine cw_t rfl b65 (cw_skip (k52 _ _ ?_))
          obtain ⟨o66, h69, h50⟩ := bnd_some h50
          refine cw_seq' (fun ρ w1 => ∃ S1 v119, Cx No S w S1 w1 ∧ Has ρ [(0, v0), (3, .pointer (some ⟨b3, 0, none⟩)), (5, v119), (6, .int .i64 x24), (7, .int .i64 x48)] ∧ Bs S1 w1 b3 [.string a1.Name, .string a1.Val] 46 ∧ Ow (kI .i64) 3 S1 w.heap.size w1 v119 o66 ∧ Ob 29 (marigraphref08_Index.fs a0) S1 w1 v0 cs0 fp0) ?_ ?_
          · refine cw_block ?_
            refine cw_seq fun K70 k71 => ?_
            refine cw_drawU (.one 0 true (.one 1 true (.one 2 true (.one 3 true (.one 4 true (.one 5 true (.one 6 true (.one 7 true (.one 8 true (.one 9 true (.one 10 true (.one 11 true (.one 12 true .done))))))))))))) [(3, [9]), (7, [9]), (10, [9]), (11, [9])] [] (fun c => bif Nat.beq c 9 then (fun _ => True) else No) fol (by kernel_rfl) fun w72 u73 => ?_
            replace h0 := h0.nw u73
            replace h7 := h7.nw u73
            replace h45 := h45.nw u73
            replace C := C.new u73
            have m74 := Sm.refl (fun _ => True) w72
            refine mtv rfl rfl (mvv v0 rfl) (mtv rfl rfl (rv_nilcheck rfl h0.ptr) (mtv rfl rfl (rv_fieldAddr (b := pb v0) (o := 0) st29 rfl h0.ptr) ?_))
            obtain ⟨c75, h76, h77⟩ := h0.sl (i := 0) rfl
            refine mtr rfl rfl ⟨m74, trivial⟩ (fun w' hq => rw_ofieldU (i := 0) (c := c75) h0 (hq.1.mono fun _ _ => trivial) ag27 h76 rfl) (mtv rfl rfl (mvv (.int .i64 x24) rfl) ?_)
            obtain ⟨y78, h79, h69⟩ := bnd_some h69
            refine mtv rfl rfl (rv_index el27 h77 rfl rfl h79) (mtv rfl rfl (rv_fieldAddr st79 rfl rfl) ?_)
            obtain ⟨cs80, h81, h82⟩ := Sl.cells h77 h79
            obtain ⟨c83, rfl, g84⟩ := marigraphref08_Series.r.1 h81
            refine mtr rfl rfl ⟨m74, trivial⟩ (fun w' hq => rw_el1 (off := 1) ag31 (h82 w' (hq.1.mono fun _ _ => trivial)) rfl rfl) (mtv rfl rfl (mvv (.int .i64 x48) rfl) ?_)
            obtain ⟨y85, h86, h69⟩ := bnd_some h69
            refine mtv rfl rfl (rv_index el31 g84 rfl rfl h86) ?_
            obtain ⟨v87, h88, h89⟩ := rw_loadA (P := Tryz.prog) el31 g84 h86
            obtain rfl := api_Label.o.1 h88
            refine mtr rfl rfl ⟨m74, trivial⟩ (fun w' hq => h89 w' (hq.1.mono fun _ _ => trivial) rfl) (mtr rfl rfl ⟨m74, trivial⟩ (fun w' hq => rw_bkA ag46 (h7.sm (hq.1.mono fun _ _ => trivial)) rfl rfl rfl) (mtv rfl rfl (rv_aeql eqg46 rfl rfl (eqs46 y85.Name y85.Val a1.Name a1.Val)) (MT.e (k71 _ _ ?_))))
            rcases bif_some h69 with ⟨b90, h69⟩ | ⟨b90, h69⟩
            · refine cw_t rfl b90 (cw_region (sv (mvv v44 rfl) (sv (mvv v0 rfl) (sv (rv_nilcheck rfl h0.ptr) (sv (rv_fieldAddr (b := pb v0) (o := 0) st29 rfl h0.ptr) ?_)))))
              obtain ⟨c91, h92, h93⟩ := h0.sl (i := 0) rfl
              refine sr (rw_ofield (i := 0) (c := c91) h0 ag27 h92 rfl) (sv (mvv (.int .i64 x24) rfl) ?_)
              obtain ⟨y94, h95, h69⟩ := bnd_some h69
              refine sv (rv_index el27 h93 rfl rfl h95) (sv (rv_fieldAddr st79 rfl rfl) ?_)
              obtain ⟨cs96, h97, h98⟩ := Sl.cells h93 h95
              obtain ⟨c99, rfl, g100⟩ := marigraphref08_Series.r.1 h97
              refine sr (rw_el1 (off := 0) ag3 (h98 _ (Sm.refl _ _)) rfl rfl) ?_
              refine sc (dc_lit (vs := [.int .i64 y94.Id]) (xs := ([y94.Id] : List Int)) (base := w.heap.size) el49 rfl rfl (.cons (sl_sc.2 rfl) (.nil)) (Nat.le_of_ble_eq_true rfl) C.up.size C.sb fun v101 w102 h103 h104 u105 => ?_)
              have p106 := ap_fresh h104 (fun b hb => (h0.lt b hb).1)
              have p107 := ap_fresh h104 (fun b hb => (h45.lt b hb).2)
              replace h0 := h0.nw u105
              replace h7 := h7.nw u105
              replace h45 := h45.nw u105
              replace C := C.new u105
              obtain ⟨y108, h109, h69⟩ := bnd_some h69
              have h115 := h45
              refine sc (dc_append el49 (by decide) h115 h103.src rfl rfl h109 C.up.size C.sb fun v110 w111 h112 u113 h114 => ?_)
              have p116 := ap_grow (ap_symm (fun b hq hb => absurd (h45.lt b hb).1 (Nat.not_le_of_lt (hl0 b hq)))) h114 (fun b hb => (h0.lt b hb).1)
              replace h0 := h0.wr u113 h115.not (fun b hq hb => absurd (h115.lt b hb).1 (Nat.not_le_of_lt (hl0 b hq)))
              replace h7 := h7.wr u113 h115.not
              replace C := C.ow h115 u113
              refine sv (asv v110 rfl) (W.e ?_)
              obtain rfl := Option.some.inj h69
              exact ⟨_, _, C, ⟨rfl, rfl, rfl, rfl, rfl, trivial⟩, h7, h112, h0⟩
            · refine cw_f rfl b90 (cw_skip ?_)
              obtain rfl := Option.some.inj h69
              exact ⟨_, _, C, ⟨rfl, rfl, rfl, rfl, rfl, trivial⟩, h7, h45, h0⟩
          · rintro ρ w118 ⟨S117, v119, C, h121, h7, h120, h0⟩
            refine h121.cw fun ρ => ?_
            clear h121
            refine cw_region (sv (mvv (.int .i64 x48) rfl) ?_)
            obtain ⟨y122, h123, h50⟩ := pur_some h50
            refine sv (rv_add rfl rfl h123) (sv (asv (.int .i64 y122) rfl) (W.e ?_))
            obtain rfl := Option.some.inj h50
            exact ⟨_, rfl, ⟨_, _, C, ⟨rfl, rfl, rfl, rfl, rfl, trivial⟩, h7, h120, h0⟩⟩
        · refine cw_f rfl b65 (cw_exit ?_)
          obtain rfl := Option.some.inj h50
          have h124 := congrArg some h49
          obtain rfl := Option.some.inj h124
          exact ⟨_, _, C, ⟨rfl, rfl, rfl, rfl, trivial⟩, h7, h45, h0⟩
      · rintro ρ w126 ⟨S125, v127, C, h129, h7, h128, h0⟩
        refine h129.cw fun ρ => ?_
        clear h129
        refine cw_region (sv (mvv (.int .i64 x24) rfl) ?_)
        obtain ⟨y130, h131, h26⟩ := pur_some h26
        refine sv (rv_add rfl rfl h131) (sv (asv (.int .i64 y130) rfl) (W.e ?_))
        obtain rfl := Option.some.inj h26
        exact ⟨_, rfl, ⟨_, _, C, ⟨rfl, rfl, rfl, rfl, trivial⟩, h7, h128, h0⟩⟩
    · refine cw_f rfl b34 (cw_exit ?_)
      obtain rfl := Option.some.inj h26
      have h132 := congrArg some h25
      obtain rfl := Option.some.inj h132
      exact ⟨_, _, C, ⟨rfl, trivial⟩, h21⟩
  · rintro ρ w134 ⟨S133, v135, C, h137, h136⟩
    refine h137.cw fun ρ => ?_
    clear h137
    refine cw_seq fun K138 k139 => ?_
    refine cw_region (sv (mvv v135 rfl) (sv (asv v135 rfl) (W.e (k139 _ _ (cw_ret ?_)))))
    obtain rfl := Option.some.inj h
    exact ⟨_, rfl, _, _, rfl, C, h136⟩


noncomputable def index_Index_Vals (a0 : Option index_Index) (a1 : ByteArray) : Option (List ByteArray) := match a0 with
  | none => some []
  | some x => if x.posts.length * 16 ≤ lim then some (strSort (((x.posts.map (·.1)).filter fun y => y.Name == a1).map (·.Val))) else none
set_option maxRecDepth 100000 in
set_option maxHeartbeats 4000000 in
theorem index_Index_Vals_w {S : Nat → Prop} {w : World} {a0 : Option index_Index} {a1 : ByteArray} {v0 : Value} {cs0 : List Value} {fp0 : List Nat} {r : List ByteArray} (hS : Sb S w) (h0 : Obo 61 index_Index.fs S w v0 a0 cs0 fp0) (h : index_Index_Vals a0 a1 = some r) :
    Calls Tryz.prog 30 (List.toArray [v0, .string a1]) w fun e w1 => ∃ S1 u0, e = .returned (u0) ∧ Cx No S w S1 w1 ∧ Ow kS 9 S1 w.heap.size w1 u0 r := by
  refine enter Tryz.func30 rfl (by kernel_rfl) rfl ?_
  have C := Cx.refl (F := No) hS
  unfold index_Index_Vals at h
  refine cw_seq fun K1 k1 => cw_region (sv (asv (.slice none 0 0) rfl) (W.e (k1 _ _ ?_)))
  refine cw_seq fun K2 k2 => cw_seq fun K3 k3 => cw_region (sv (mvv v0 rfl) (sv (rv_nileq Tryz.underlying24 rfl rfl h0.ne) (W.e (k3 _ _ ?_))))
  cases a0 with
  | none =>
    refine cw_t rfl rfl (cw_seq fun K4 k4 => cw_region (sv (asv (.slice none 0 0) rfl) (W.e (k4 _ _ (cw_ret ?_)))))
    obtain rfl := Option.some.inj h
    exact ⟨_, rfl, S, _, rfl, C, Ow.nil _ _ _ _ _⟩
  | some x =>
  dsimp only at h
  split at h
  case isFalse => cases h
  rename_i hlen
  have hr := Option.some.inj h
  refine cw_f rfl rfl (cw_skip (k2 _ _ ?_))
  have hq : Ob 61 (index_Index.fs x) S w v0 cs0 fp0 := h0
  refine cw_seq fun K5 k5 => cw_region (sv (asv (.slice none 0 0) rfl) (W.e (k5 _ _ ?_)))
  obtain ⟨c, hc⟩ := hq.at (i := 2) rfl
  obtain ⟨fi, hrep, hsub⟩ := Ob.rep hq (i := 2) rfl hc
  obtain ⟨b, L, cl, rfl, hfi, hSb, hM, hR⟩ := hrep
  have hbf : b ∈ fp0 := hsub b (by rw [hfi]; simp)
  have hlt : ∀ q ∈ fp0, q < w.heap.size := fun q hq2 => (hq.lt q hq2).1
  have hk : L.map (·.1) = x.posts.map (·.1) := hR.keys
  refine cw_seq' (fun ρ w2 => ∃ u, ∃ ks : List api_Label, Cx No S w S w2 ∧ Has ρ [(5, u)] ∧ Ow kS 9 S w.heap.size w2 u ((ks.filter fun y => y.Name == a1).map (·.Val)) ∧ ks.Perm (L.map (·.1))) ?_ ?_
  · refine cw_seq fun K6 k6 => ?_
    refine cw_region (sv (mvv v0 rfl) ?_)
    refine sv (rv_nilcheck rfl hq.ptr) (sv (rv_fieldAddr (b := pb v0) (o := 0) st61 rfl hq.ptr) (sr (rw_ofield (i := 2) (c := .map (some b)) hq ag58 hc rfl) ?_))
    refine sc (dc_range hM Tryz.underlying58 rfl fun rb w1 hrb hrl hI up => ?_)
    replace C := C.new up
    replace hM := hM.to (up.block b hM.lt fun h => h)
    refine W.e (k6 _ _ ?_)
    refine cw_block (cw_loop (fun n ρ w2 => ∃ rem lst u, ∃ ks : List api_Label, n = rem.length ∧ Cx No S w S w2 ∧ Has ρ [(1, .string a1), (5, u), (13, .pointer (some ⟨rb, 0, none⟩))] ∧ Mp ky_api_Label w2 b L cl ∧ It w2 rb b L cl rem lst ∧ Ow kS 9 S w.heap.size w2 u ((ks.filter fun y => y.Name == a1).map (·.Val)) ∧ (ks ++ rem.map (·.1)).Perm (L.map (·.1)) ∧ ¬ Blk u rb) _ ⟨L, none, _, [], rfl, C, ⟨rfl, rfl, rfl, trivial⟩, hM, hI, Ow.nil _ _ _ _ _, List.Perm.refl _, fun hb => ap_nil (B := fun _ => True) _ hb trivial⟩ ?_)
    clear C hM hI
    rintro n ρ w2 ⟨rem, lst, u, ks, rfl, C, hh, hM, hI, hO, hP, hrb2⟩
    refine hh.cw fun ρ => ?_
    clear hh
    have hbw : b < w.heap.size := hlt b hbf
    refine cw_seq fun K7 k7 => ?_
    refine cw_region (sc (dc_next hM hI rfl ?_ ?_))
    · rintro rfl
      refine sv (rv_extract rfl rfl) (W.e (k7 _ _ ?_))
      refine cw_seq fun K8 k8 => cw_f rfl rfl (cw_exit ⟨u, ks, C, ⟨rfl, trivial⟩, hO, by simpa using hP⟩)
    · intro e w3 he hI2 up2
      refine sv (rv_extract rfl rfl) (W.e (k7 _ _ ?_))
      refine cw_seq fun K8 k8 => cw_t rfl rfl (cw_skip (k8 _ _ ?_))
      replace C := C.ofp up2 (fun q hq => .inr (by have hq : q = rb := hq; omega))
      have hrS : ∀ q, One rb q → ¬ S q := fun q hq hs => by have hq : q = rb := hq; have := hS q hs; omega
      replace hO := hO.wr up2 hrS (fun q h1 h2 => by have h2 : q = rb := h2; rw [h2] at h1; exact hrb2 h1)
      replace hM := hM.to (up2.block b hM.lt fun hq => by have hq : b = rb := hq; omega)
      have heL : e ∈ L := hI.sub.subset he
      refine cw_block (cw_seq fun K10 k10 => ?_)
      refine cw_region (sr (rw_entry hM hI2 heL rfl) (sv (rv_extract rfl rfl) ?_))
      refine sc (dc_alloc zr46 fun lb w4 hl1 hl2 u4 k4 => ?_)
      refine sc (dc_store (vs := [.string e.1.Name, .string e.1.Val]) ag46 k4 rfl rfl (by intro c hc; simp only [List.mem_cons, List.not_mem_nil, or_false] at hc; rcases hc with rfl | rfl <;> rfl) rfl rfl rfl fun w5 u5 hz5 k5 => ?_)
      have u45 := u4.fresh hl1 u5
      replace C := C.new u45
      replace hO := hO.nw u45
      replace hM := hM.to (u45.block b hM.lt fun h => h)
      replace hI2 := hI2.to (u45.block rb hI2.lt fun h => h)
      refine W.e (k10 _ _ ?_)
      have hp1 : (ks ++ [e.1] ++ (rem.filter fun z => !decide (e.2.2 = z.2.2)).map (·.1)).Perm (L.map (·.1)) := (keys_step he (hI.born hM)).trans hP
      refine cw_seq fun K11 k11 => ?_
      refine cw_region (sv (rv_fieldAddr st46 rfl rfl) (sr (rw_bk ag9 k5 rfl rfl) (sv (mvv (.string a1) rfl) (sv (rv_seql rfl rfl) (W.e (k11 _ _ ?_))))))
      have hse : strEq e.1.Name a1 = (e.1.Name == a1) := by unfold strEq; rw [beq_toListBytes]
      cases hb : (e.1.Name == a1) with
      | false =>
        refine cw_f rfl (hse.trans hb) (cw_skip ?_)
        refine ⟨_, rest_lt he, _, some e, u, ks ++ [e.1], rfl, C, ⟨rfl, rfl, rfl, trivial⟩, hM, hI2, ?_, hp1, hrb2⟩
        rw [List.filter_append, List.filter_cons, if_neg (by rw [hb]; simp), List.filter_nil, List.append_nil]
        exact hO
      | true =>
        refine cw_t rfl (hse.trans hb) ?_
        refine cw_region (sv (mvv u rfl) (sv (rv_fieldAddr st46 rfl rfl) (sr (rw_bk ag9 k5 rfl rfl) (sc (dc_lit (vs := [.string e.1.Val]) (xs := [e.1.Val]) (base := w.heap.size) el70 rfl rfl (.cons (sl_sc.2 rfl) .nil) (Nat.le_of_ble_eq_true rfl) C.up.size C.sb fun u2 w6 hO2 hb2 up6 => ?_)))))
        replace C := C.new up6
        replace hO := hO.nw up6
        replace hM := hM.to (up6.block b hM.lt fun h => h)
        replace hI2 := hI2.to (up6.block rb hI2.lt fun h => h)
        have happ : app_ 16 ((ks.filter fun y => y.Name == a1).map (·.Val)) [e.1.Val] = some ((ks.filter fun y => y.Name == a1).map (·.Val) ++ [e.1.Val]) := by
          have h1 := hp1.length_eq
          simp only [List.length_append, List.length_map, List.length_cons, List.length_nil] at h1
          have hk2 := congrArg List.length hk
          simp only [List.length_map] at hk2 hlen
          have h3 := List.length_filter_le (fun y : api_Label => y.Name == a1) ks
          unfold app_
          rw [if_pos (by simp only [List.length_map, List.length_cons, List.length_nil]; omega)]
        refine sc (dc_append el70 (by decide) hO hO2.src rfl rfl happ C.up.size C.sb fun u3 w7 hO3 up7 hb3 => ?_)
        have hbu : ∀ q, q < w.heap.size → ¬ Blk u q := fun q hq hb => by have := (hO.lt q hb).1; omega
        have hrl2 := hI2.lt
        replace C := C.ow hO up7
        replace hM := hM.to (up7.block b hM.lt (hbu b hbw))
        have hI3 := hI2.to (up7.block rb hrl2 hrb2)
        refine sv (asv u3 rfl) (W.e ?_)
        refine ⟨_, rest_lt he, _, some e, u3, ks ++ [e.1], rfl, C, ⟨rfl, rfl, rfl, trivial⟩, hM, hI3, ?_, hp1, fun hb => (hb3 rb hb).elim hrb2 (fun hl => by omega)⟩
        rw [List.filter_append, List.filter_cons, if_pos hb, List.filter_nil, List.map_append]
        exact hO3
  · rintro ρ w2 ⟨u, ks, C, hh, hO, hP⟩
    refine hh.cw fun ρ => ?_
    clear hh
    refine cw_seq fun K11 k11 => cw_region (sv (mvv u rfl) (sc (dc_call (vs := [u]) can59 rfl ?_)))
    have he : strSort ((ks.filter fun y => y.Name == a1).map (·.Val)) = r := by
      rw [← hr, ← hk]
      exact sort_str_perm ((hP.filter _).map _)
    refine (sortS_w Tryz.slices_Sort_string Tryz.slices_Sort_string_none C.sb hO he).mono ?_
    rintro _ w3 ⟨rfl, up3, hO3⟩
    refine ⟨_, rfl, W.e (k11 _ _ ?_)⟩
    replace C := C.ow hO up3
    refine cw_seq fun K12 k12 => cw_region (sv (mvv u rfl) (sv (asv u rfl) (W.e (k12 _ _ (cw_ret ?_)))))
    exact ⟨_, rfl, S, u, rfl, C, hO3⟩

noncomputable def marigraphlaw08_seen.b2 (a0 : Option index_Index) (a1 : marigraphref08_Index) (y67 : (List api_Label)) (x78 : Int) : Option ((Int) ⊕ ((Unit) ⊕ (Bool))) :=
  (bif (decide (x78 < (y67.length : Int))) then (((at_ y67 x78).bind fun y92 => (pur y92 fun y105 => (((index_Index_Post a0 y105).bind fun y124 => ((marigraphref08_Index_Post a1 y105).bind fun y137 => ((marigraphref04_Ints y124 y137).bind fun y151 => (bif (!y151) then some true else ((index_Index_Vals a0 y105.Name).bind fun y165 => ((marigraphref08_Index_Vals a1 y105.Name).bind fun y177 => ((marigraphref08_Strings y165 y177).bind fun y190 => some (!y190)))))))).bind fun o111 => (bif o111 then some (.inr (.inr (.inr false))) else some (.inl ()))))).bind (Sum.elim (fun o86n => (pur (IntKind.i64.wrap (x78 + (1 : Int))) fun y207 => some (.inl y207))) (fun q => some q))) else some (.inr (.inl ())))
noncomputable def marigraphlaw08_seen (a0 : Option index_Index) (a1 : marigraphref08_Index) (a2 : marigraphlaw08_Act) : Option Bool :=
  ((marigraphlaw08_few a2.L).bind fun y15 => ((index_Index_Id a0 y15).bind fun y22 => ((marigraphlaw08_few a2.L).bind fun y29 => ((marigraphref08_Index_Id a1 y29).bind fun y36 => ((index_Index_Labels a0 a2.Id).bind fun y43 => ((marigraphref08_Index_Labels a1 a2.Id).bind fun y54 => (((marigraphlaw08_few a2.L).bind fun y67 => (iter (fun s : Int => marigraphlaw08_seen.b2 a0 a1 y67 s) (0 : Int))).bind (Sum.elim (fun o61n => ((bif (y22.1 == y36.1) then (bif (y22.2 == y36.2) then ((marigraphref05_Same y43.1 y54.1).bind fun y219 => (bif y219 then some (y43.2 == y54.2) else some false)) else some false) else some false).bind fun o213 => some o213)) (fun q => some q)))))))))
set_option maxRecDepth 100000 in
set_option maxHeartbeats 4000000 in
theorem marigraphlaw08_seen_w {S : Nat → Prop} {w : World} {a0 : Option index_Index} {a1 : marigraphref08_Index} {a2 : marigraphlaw08_Act} {v0 v1 v2 : Value} {cs0 : List Value} {fp0 : List Nat} {cs1 : List Value} {fp1 : List Nat} {r : Bool} (hS : Sb S w) (h0 : Obo 61 index_Index.fs S w v0 a0 cs0 fp0) (h1 : Ob 29 (marigraphref08_Index.fs a1) S w v1 cs1 fp1) (h2 : Sl marigraphlaw08_Act.k S w v2 a2) (h : marigraphlaw08_seen a0 a1 a2 = some r) :
    Calls Tryz.prog 9 (List.toArray [v0, v1, v2]) w fun e w1 => ∃ S1, e = .returned (.bool r) ∧ Cx No S w S1 w1 := by
  refine enter Tryz.func9 rfl (by kernel_rfl) rfl ?_
  have C := Cx.refl (F := No) hS
  unfold marigraphlaw08_seen at h
  have hl0 : ∀ b ∈ fp0, b < w.heap.size := fun b hb => (h0.lt b hb).1
  have hl1 : ∀ b ∈ fp1, b < w.heap.size := fun b hb => (h1.lt b hb).1
  obtain ⟨c1, c3, rfl, g2, g4⟩ := marigraphlaw08_Act.o.1 h2
  refine cw_seq fun K5 k6 => ?_
  refine cw_region ?_
  refine sc (dc_boxS C.sb rfl fun b7 S8 w9 c10 h11 => ?_)
  replace h0 := h0.cx c10
  replace h1 := h1.cx c10
  replace g2 := g2.cx c10
  replace g4 := g4.cx c10
  replace C := C.trans c10
  refine sv (asv (.bool false) rfl) (W.e (k6 _ _ ?_))
  refine cw_seq fun K13 k14 => ?_
  refine cw_region (sv (mvv v0 rfl) (sv (rv_fieldAddr st34 rfl rfl) (sr (rw_bk ag31 h11.2 rfl rfl) ?_)))
  obtain ⟨y15, h16, h⟩ := bnd_some h
  refine sc (dc_call (vs := [c1]) can21 rfl ?_)
  refine (marigraphlaw08_few_w C.sb g2 h16).mono ?_
  rintro _ w17 ⟨S18, v20, rfl, c19, h21⟩
  refine ⟨_, rfl, ?_⟩
  replace h0 := h0.cx c19
  replace h1 := h1.cx c19
  replace h11 := h11.cx c19
  replace g2 := g2.cx c19
  replace g4 := g4.cx c19
  replace C := C.trans c19
  obtain ⟨y22, h23, h⟩ := bnd_some h
  refine sc (dc_call (vs := [v0, v20]) can23 rfl ?_)
  refine (index_Index_Id_w C.sb h0 h21 h23).mono ?_
  rintro _ w24 ⟨S25, rfl, c26⟩
  refine ⟨_, rfl, ?_⟩
  replace h0 := h0.cx c26
  replace h1 := h1.cx c26
  replace h11 := h11.cx c26
  replace g2 := g2.cx c26
  replace g4 := g4.cx c26
  replace C := C.trans c26
  refine sv (mvv (.tuple (List.toArray [.int .i64 y22.1, .bool y22.2])) rfl) (sv (rv_extract rfl rfl) (sv (rv_extract rfl rfl) (sv (asv (.int .i64 y22.1) rfl) (sv (asv (.bool y22.2) rfl) (W.e (k14 _ _ ?_))))))
  refine cw_seq fun K27 k28 => ?_
  refine cw_region (sv (mvv v1 rfl) (sv (rv_fieldAddr st34 rfl rfl) (sr (rw_bk ag31 h11.2 rfl rfl) ?_)))
  obtain ⟨y29, h30, h⟩ := bnd_some h
  refine sc (dc_call (vs := [c1]) can21 rfl ?_)
  refine (marigraphlaw08_few_w C.sb g2 h30).mono ?_
  rintro _ w31 ⟨S32, v34, rfl, c33, h35⟩
  refine ⟨_, rfl, ?_⟩
  replace h0 := h0.cx c33
  replace h1 := h1.cx c33
  replace h11 := h11.cx c33
  replace g2 := g2.cx c33
  replace g4 := g4.cx c33
  replace C := C.trans c33
  obtain ⟨y36, h37, h⟩ := bnd_some h
  refine sc (dc_call (vs := [v1, v34]) can24 rfl ?_)
  refine (marigraphref08_Index_Id_w C.sb h1 h35 h37).mono ?_
  rintro _ w38 ⟨S39, rfl, c40⟩
  refine ⟨_, rfl, ?_⟩
  replace h0 := h0.cx c40
  replace h1 := h1.cx c40
  replace h11 := h11.cx c40
  replace g2 := g2.cx c40
  replace g4 := g4.cx c40
  replace C := C.trans c40
  refine sv (mvv (.tuple (List.toArray [.int .i64 y36.1, .bool y36.2])) rfl) (sv (rv_extract rfl rfl) (sv (rv_extract rfl rfl) (sv (asv (.int .i64 y36.1) rfl) (sv (asv (.bool y36.2) rfl) (W.e (k28 _ _ ?_))))))
  refine cw_seq fun K41 k42 => ?_
  refine cw_region (sv (mvv v0 rfl) (sv (rv_fieldAddr st34 rfl rfl) (sr (rw_bk ag3 h11.2 rfl rfl) ?_)))
  obtain ⟨y43, h44, h⟩ := bnd_some h
  refine sc (dc_call (vs := [v0, .int .i64 a2.Id]) can25 rfl ?_)
  refine (index_Index_Labels_w C.sb h0 h44).mono ?_
  rintro _ w45 ⟨S46, v48, rfl, c47, h49⟩
  refine ⟨_, rfl, ?_⟩
  have p50 := ap_fresh (fun b hb => (h49.lt b hb).1) (fun b hb => (h0.lt b hb).1)
  have p51 := ap_fresh (fun b hb => (h49.lt b hb).1) (fun b hb => (h1.lt b hb).1)
  replace h49 := h49.base C.up.size
  replace h0 := h0.cx c47
  replace h1 := h1.cx c47
  replace h11 := h11.cx c47
  replace g2 := g2.cx c47
  replace g4 := g4.cx c47
  replace C := C.trans c47
  refine sv (mvv (.tuple (List.toArray [v48, .bool y43.2])) rfl) (sv (rv_extract rfl rfl) (sv (rv_extract rfl rfl) (sv (asv v48 rfl) (sv (asv (.bool y43.2) rfl) (W.e (k42 _ _ ?_))))))
  refine cw_seq fun K52 k53 => ?_
  refine cw_region (sv (mvv v1 rfl) (sv (rv_fieldAddr st34 rfl rfl) (sr (rw_bk ag3 h11.2 rfl rfl) ?_)))
  obtain ⟨y54, h55, h⟩ := bnd_some h
  refine sc (dc_call (vs := [v1, .int .i64 a2.Id]) can26 rfl ?_)
  refine (marigraphref08_Index_Labels_w C.sb h1 h55).mono ?_
  rintro _ w56 ⟨S57, v59, rfl, c58, h60⟩
  refine ⟨_, rfl, ?_⟩
  replace h0 := h0.cx c58
  replace h1 := h1.cx c58
  replace h11 := h11.cx c58
  replace g2 := g2.cx c58
  replace g4 := g4.cx c58
  replace h49 := h49.cx c58
  replace C := C.trans c58
  refine sv (mvv (.tuple (List.toArray [v59, .bool y54.2])) rfl) (sv (rv_extract rfl rfl) (sv (rv_extract rfl rfl) (sv (asv v59 rfl) (sv (asv (.bool y54.2) rfl) (W.e (k53 _ _ ?_))))))
  obtain ⟨o61, h64, h⟩ := bnds_some h
  refine cw_seq' (fun ρ w1 => ∃ o61n, o61 = (.inl o61n) ∧ ∃ S1, Cx No S w S1 w1 ∧ Has ρ [(7, .int .i64 y22.1), (8, .bool y22.2), (9, .int .i64 y36.1), (10, .bool y36.2), (11, v48), (12, .bool y43.2), (13, v59), (14, .bool y54.2)] ∧ Ow api_Label.k 46 S1 w.heap.size w1 v48 y43.1 ∧ Sl (kSl api_Label.k) S1 w1 v59 y54.1) ?_ ?_
  · refine cw_seq fun K65 k66 => ?_
    refine cw_region (sv (rv_fieldAddr st34 rfl rfl) (sr (rw_bk ag31 h11.2 rfl rfl) ?_))
    obtain ⟨y67, h68, h64⟩ := bnd_some h64
    refine sc (dc_call (vs := [c1]) can21 rfl ?_)
    refine (marigraphlaw08_few_w C.sb g2 h68).mono ?_
    rintro _ w69 ⟨S70, v72, rfl, c71, h73⟩
    refine ⟨_, rfl, ?_⟩
    replace h0 := h0.cx c71
    replace h1 := h1.cx c71
    replace h49 := h49.cx c71
    replace h60 := h60.cx c71
    replace C := C.trans c71
    refine sv (rv_lenS el31 h73 rfl) (sv (mvv (.int .i64 0) rfl) (W.e (k66 _ _ (cw_block ?_))))
    refine cw_iter h64 (fun s ρ w1 => ∃ S1, Cx No S w S1 w1 ∧ Has ρ [(0, v0), (1, v1), (7, .int .i64 y22.1), (8, .bool y22.2), (9, .int .i64 y36.1), (10, .bool y36.2), (11, v48), (12, .bool y43.2), (13, v59), (14, .bool y54.2), (49, v72), (50, .int .i64 (y67.length : Int)), (51, .int .i64 s)] ∧ Ow api_Label.k 46 S1 w.heap.size w1 v48 y43.1 ∧ Sl (kSl api_Label.k) S1 w1 v59 y54.1 ∧ Sl (kSl api_Label.k) S1 w1 v72 y67 ∧ Obo 61 index_Index.fs S1 w1 v0 a0 cs0 fp0 ∧ Ob 29 (marigraphref08_Index.fs a1) S1 w1 v1 cs1 fp1) ⟨_, C, ⟨rfl, rfl, rfl, rfl, rfl, rfl, rfl, rfl, rfl, rfl, rfl, rfl, rfl, trivial⟩, h49, h60, h73, h0, h1⟩ ?_
    rintro x78 q74 ρ w76 ⟨S75, C, h77, h49, h60, h73, h0, h1⟩ h80 h79
    refine h77.cw fun ρ => ?_
    clear h77
    replace h80 : marigraphlaw08_seen.b2 a0 a1 y67 x78 = some q74 := h80
    unfold marigraphlaw08_seen.b2 at h80
    refine cw_seq fun K81 k82 => ?_
    refine cw_region (sv (rv_lss rfl rfl) (W.e (k82 _ _ ?_)))
    refine cw_seq fun K83 k84 => ?_
    rcases bif_some h80 with ⟨b85, h80⟩ | ⟨b85, h80⟩
    · refine cw_t rfl b85 (cw_skip (k84 _ _ ?_))
      obtain ⟨o86, h89, h80⟩ := bnds_some h80
      refine cw_seq' (fun ρ w1 => ∃ o86n, o86 = (.inl o86n) ∧ ∃ S1, Cx No S w S1 w1 ∧ Has ρ [(0, v0), (1, v1), (7, .int .i64 y22.1), (8, .bool y22.2), (9, .int .i64 y36.1), (10, .bool y36.2), (11, v48), (12, .bool y43.2), (13, v59), (14, .bool y54.2), (49, v72), (50, .int .i64 (y67.length : Int)), (51, .int .i64 x78)] ∧ Ow api_Label.k 46 S1 w.heap.size w1 v48 y43.1 ∧ Sl (kSl api_Label.k) S1 w1 v59 y54.1 ∧ Sl (kSl api_Label.k) S1 w1 v72 y67 ∧ Obo 61 index_Index.fs S1 w1 v0 a0 cs0 fp0 ∧ Ob 29 (marigraphref08_Index.fs a1) S1 w1 v1 cs1 fp1) ?_ ?_
      · refine cw_block ?_
        refine cw_seq fun K90 k91 => ?_
        refine cw_region ?_
        obtain ⟨y92, h93, h89⟩ := bnd_some h89
        refine sv (rv_index el31 h73 rfl rfl h93) ?_
        obtain ⟨v94, h95, h96⟩ := rw_loadA (P := Tryz.prog) el31 h73 h93
        obtain rfl := api_Label.o.1 h95
        refine sr (h96 _ (Sm.refl _ _) rfl) ?_
        refine sc (dc_allocO (x0 := (api_Label.mk ByteArray.empty ByteArray.empty)) (base := w.heap.size) el31 zr46 (fun _ => api_Label.r.2 rfl) C.up.size C.sb fun b97 w98 h99 h100 u101 => ?_)
        have p102 := ap_fresh h100 (fun b hb => (h0.lt b hb).1)
        have p103 := ap_fresh h100 (fun b hb => (h1.lt b hb).1)
        have p104 := ap_fresh h100 (fun b hb => (h49.lt b hb).2)
        replace h0 := h0.nw u101
        replace h1 := h1.nw u101
        replace h49 := h49.nw u101
        replace h60 := h60.nw u101
        replace h73 := h73.nw u101
        replace C := C.new u101
        obtain ⟨y105, h106, h89⟩ := pur_some h89
        have h110 := h99
        refine sc (dc_storeO el31 h110 (show at_ [(api_Label.mk ByteArray.empty ByteArray.empty)] (0 : Int) = some (api_Label.mk ByteArray.empty ByteArray.empty) from rfl) rfl rfl (((api_Label.o (x := y92)).2 rfl)) fun w107 h108 u109 => ?_)
        replace h108 : Ow api_Label.k 46 S75 w.heap.size w107 (.slice (some ⟨b97, 0, none⟩) 1 1) [y92] := h108
        rw [h106] at h108
        replace h0 := h0.wr u109 h110.not (ap_symm p102)
        replace h1 := h1.wr u109 h110.not (ap_symm p103)
        replace h49 := h49.wr u109 h110.not (ap_symm p104)
        replace h60 := h60.wr u109 h110.not
        replace h73 := h73.wr u109 h110.not
        replace C := C.ow h110 u109
        refine W.e (k91 _ _ ?_)
        obtain ⟨o111, h114, h89⟩ := bnd_some h89
        refine cw_seq' (fun ρ w1 => ∃ S1, Cx No S w S1 w1 ∧ Has ρ [(0, v0), (1, v1), (7, .int .i64 y22.1), (8, .bool y22.2), (9, .int .i64 y36.1), (10, .bool y36.2), (11, v48), (12, .bool y43.2), (13, v59), (14, .bool y54.2), (49, v72), (50, .int .i64 (y67.length : Int)), (51, .int .i64 x78), (74, .bool o111)] ∧ Ow api_Label.k 46 S1 w.heap.size w1 v48 y43.1 ∧ Sl (kSl api_Label.k) S1 w1 v59 y54.1 ∧ Sl (kSl api_Label.k) S1 w1 v72 y67 ∧ Obo 61 index_Index.fs S1 w1 v0 a0 cs0 fp0 ∧ Ob 29 (marigraphref08_Index.fs a1) S1 w1 v1 cs1 fp1) ?_ ?_
        · refine cw_drawU (.one 0 true (.one 1 true (.one 3 true (.one 4 true (.one 2 false (.one 5 false (.one 6 false (.one 7 true (.one 8 true (.one 9 true (.one 10 true (.one 11 true (.one 13 true (.one 14 true (.one 15 true (.one 12 false (.one 16 false (.one 17 false (.one 18 true (.one 19 true .done)))))))))))))))))))) [(1, [9]), (4, [9]), (11, [9]), (15, [9])] [(2, [9]), (5, [9]), (6, [9]), (12, [9]), (16, [9]), (17, [9])] (fun c => bif Nat.beq c 9 then (fun _ => True) else No) fol (by kernel_rfl) fun w115 u116 => ?_
          replace h0 := h0.nw u116
          replace h1 := h1.nw u116
          replace h49 := h49.nw u116
          replace h60 := h60.nw u116
          replace h108 := h108.nw u116
          replace h73 := h73.nw u116
          replace C := C.new u116
          have h0d := h0
          have h1d := h1
          have h49d := h49
          have h60d := h60
          have h108d := h108
          have h73d := h73
          have m117 := Sm.refl (fun _ => True) w115
          refine mtv rfl rfl (mvv v0 rfl) ?_
          obtain ⟨v118, h119, h120⟩ := rw_loadO (P := Tryz.prog) el31 h108 (show at_ [y105] (0 : Int) = some y105 from rfl)
          obtain rfl := api_Label.o.1 h119
          refine mtr rfl rfl ⟨m117, trivial⟩ (fun w' hq => h120 w' (hq.1.mono fun _ _ => trivial) rfl) (mtv rfl rfl (mvv v1 rfl) ?_)
          obtain ⟨v121, h122, h123⟩ := rw_loadO (P := Tryz.prog) el31 h108 (show at_ [y105] (0 : Int) = some y105 from rfl)
          obtain rfl := api_Label.o.1 h122
          refine mtr rfl rfl ⟨m117, trivial⟩ (fun w' hq => h123 w' (hq.1.mono fun _ _ => trivial) rfl) ?_
          obtain ⟨y124, h125, h114⟩ := bnd_some h114
          refine mtc rfl rfl (dc_call (vs := [v0, .agg (List.toArray [.string y105.Name, .string y105.Val])]) can27 rfl ?_)
          refine (index_Index_Post_w C.sb h0 ((api_Label.o (x := y105)).2 rfl) h125).mono ?_
          rintro _ w126 ⟨S127, v129, rfl, c128, h130⟩
          refine ⟨_, rfl, ?_⟩
          have p131 := ap_fresh (fun b hb => (h130.lt b hb).1) (fun b hb => (h0.lt b hb).1)
          have p132 := ap_fresh (fun b hb => (h130.lt b hb).1) (fun b hb => (h1.lt b hb).1)
          have p133 := ap_fresh (fun b hb => (h130.lt b hb).1) (fun b hb => (h49.lt b hb).2)
          have p134 := ap_fresh (fun b hb => (h130.lt b hb).1) (fun b hb => (h108.lt b hb).2)
          replace h130 := h130.base C.up.size
          replace h0 := h0.cx c128
          replace h1 := h1.cx c128
          replace h49 := h49.cx c128
          replace h60 := h60.cx c128
          replace h108 := h108.cx c128
          replace h73 := h73.cx c128
          replace C := C.trans c128
          have z135 := (c128.up).size
          have m136 := m117.nx c128.up (by omega)
          refine ⟨⟨m136, trivial⟩, ?_⟩
          obtain ⟨y137, h138, h114⟩ := bnd_some h114
          refine mtc rfl rfl (dc_call (vs := [v1, .agg (List.toArray [.string y105.Name, .string y105.Val])]) can28 rfl ?_)
          refine (marigraphref08_Index_Post_w C.sb h1 ((api_Label.o (x := y105)).2 rfl) h138).mono ?_
          rintro _ w139 ⟨S140, v142, rfl, c141, h143⟩
          refine ⟨_, rfl, ?_⟩
          have p144 := ap_fresh (fun b hb => (h143.lt b hb).1) (fun b hb => (h0.lt b hb).1)
          have p145 := ap_fresh (fun b hb => (h143.lt b hb).1) (fun b hb => (h1.lt b hb).1)
          have p146 := ap_fresh (fun b hb => (h143.lt b hb).1) (fun b hb => (h49.lt b hb).2)
          have p147 := ap_fresh (fun b hb => (h143.lt b hb).1) (fun b hb => (h108.lt b hb).2)
          have p148 := ap_fresh (fun b hb => (h143.lt b hb).1) (fun b hb => (h130.lt b hb).2)
          replace h143 := h143.base C.up.size
          replace h0 := h0.cx c141
          replace h1 := h1.cx c141
          replace h49 := h49.cx c141
          replace h60 := h60.cx c141
          replace h108 := h108.cx c141
          replace h73 := h73.cx c141
          replace h130 := h130.cx c141
          replace C := C.trans c141
          have z149 := (c141.up).size
          have m150 := m136.nx c141.up (by omega)
          refine ⟨⟨m150, trivial⟩, ?_⟩
          replace h0 := h0.or (ap_symm p131)
          replace h1 := h1.or (ap_symm p132)
          replace h49 := h49.or (ap_symm p133)
          replace h60 := h60.or (T := Blk v129)
          replace h108 := h108.or (ap_symm p134)
          replace h73 := h73.or (T := Blk v129)
          replace h143 := h143.or p148
          replace C := C.sealO h130
          replace h130 := h130.sealed
          replace h0 := h0.or (ap_symm p144)
          replace h1 := h1.or (ap_symm p145)
          replace h49 := h49.or (ap_symm p146)
          replace h60 := h60.or (T := Blk v142)
          replace h108 := h108.or (ap_symm p147)
          replace h73 := h73.or (T := Blk v142)
          replace h130 := h130.or (T := Blk v142)
          replace C := C.sealO h143
          replace h143 := h143.sealed
          obtain ⟨y151, h152, h114⟩ := bnd_some h114
          refine mtc rfl rfl (dc_call (vs := [v129, v142]) can17 rfl ?_)
          refine (marigraphref04_Ints_w C.sb h130 h143 h152).mono ?_
          rintro _ w153 ⟨S154, rfl, c155⟩
          refine ⟨_, rfl, ?_⟩
          replace h0 := h0.cx c155
          replace h1 := h1.cx c155
          replace h49 := h49.cx c155
          replace h60 := h60.cx c155
          replace h108 := h108.cx c155
          replace h73 := h73.cx c155
          replace C := C.trans c155
          have z156 := (c155.up).size
          have m157 := m150.nx c155.up (by omega)
          refine ⟨⟨m157, trivial⟩, ?_⟩
          refine mtv rfl rfl (rv_not rfl) (mtv rfl rfl (mvv (.bool (!y151)) rfl) ?_)
          rcases bif_some h114 with ⟨b158, h114⟩ | ⟨b158, h114⟩
          · refine MT.n rfl rfl (gn rfl rfl rfl b158) trivial (MT.n rfl rfl (gn rfl rfl rfl b158) trivial (MT.n rfl rfl (gn rfl rfl rfl b158) ⟨m157, trivial⟩ (MT.n rfl rfl (gn rfl rfl rfl b158) trivial (MT.n rfl rfl (gn rfl rfl rfl b158) trivial (MT.n rfl rfl (gn rfl rfl rfl b158) ⟨m157, trivial⟩ (MT.m rfl rfl (gn rfl rfl rfl b158) ⟨m157, trivial⟩ (MT.m rfl rfl (gn rfl rfl rfl b158) ⟨m157, trivial⟩ (MT.m rfl rfl (gn rfl rfl rfl b158) ⟨m157, trivial⟩ (MT.n rfl rfl (gn rfl rfl rfl b158) trivial (mtv rfl rfl (ptk (.bool true) rfl b158 rfl) (MT.e ?_)))))))))))
            obtain rfl := Option.some.inj h114
            exact ⟨_, C, ⟨rfl, rfl, rfl, rfl, rfl, rfl, rfl, rfl, rfl, rfl, rfl, rfl, rfl, rfl, trivial⟩, h49, h60, h73, h0, h1⟩
          · refine MT.vv rfl rfl (gy rfl rfl rfl b158) (mvv v0 rfl) (MT.vv rfl rfl (gy rfl rfl rfl b158) (rv_fieldAddr st46 rfl rfl) ?_)
            obtain ⟨cs159, h160, h161⟩ := Ow.cellsO h108d (show at_ [y105] (0 : Int) = some y105 from rfl)
            obtain rfl := api_Label.r.1 h160
            refine MT.r rfl rfl (gy rfl rfl rfl b158) ⟨m157, trivial⟩ (fun w' hq => rw_el1 (off := 0) ag9 (h161 w' (hq.1.mono fun _ _ => trivial)) rfl rfl) (MT.vv rfl rfl (gy rfl rfl rfl b158) (mvv v1 rfl) (MT.vv rfl rfl (gy rfl rfl rfl b158) (rv_fieldAddr st46 rfl rfl) ?_))
            obtain ⟨cs162, h163, h164⟩ := Ow.cellsO h108d (show at_ [y105] (0 : Int) = some y105 from rfl)
            obtain rfl := api_Label.r.1 h163
            refine MT.r rfl rfl (gy rfl rfl rfl b158) ⟨m157, trivial⟩ (fun w' hq => rw_el1 (off := 0) ag9 (h164 w' (hq.1.mono fun _ _ => trivial)) rfl rfl) ?_
            obtain ⟨y165, h166, h114⟩ := bnd_some h114
            refine MT.c rfl rfl (gy rfl rfl rfl b158) (dc_call (vs := [v0, .string y105.Name]) can30 rfl ?_)
            refine (index_Index_Vals_w C.sb h0 h166).mono ?_
            rintro _ w167 ⟨S168, v170, rfl, c169, h171⟩
            refine ⟨_, rfl, ?_⟩
            have p172 := ap_fresh (fun b hb => (h171.lt b hb).1) (fun b hb => (h0.lt b hb).1)
            have p173 := ap_fresh (fun b hb => (h171.lt b hb).1) (fun b hb => (h1.lt b hb).1)
            have p174 := ap_fresh (fun b hb => (h171.lt b hb).1) (fun b hb => (h49.lt b hb).2)
            replace h171 := h171.base C.up.size
            replace h0 := h0.cx c169
            replace h1 := h1.cx c169
            replace h49 := h49.cx c169
            replace h60 := h60.cx c169
            replace h73 := h73.cx c169
            replace C := C.trans c169
            have z175 := (c169.up).size
            have m176 := m157.nx c169.up (by omega)
            refine ⟨⟨m176, trivial⟩, ?_⟩
            obtain ⟨y177, h178, h114⟩ := bnd_some h114
            refine MT.c rfl rfl (gy rfl rfl rfl b158) (dc_call (vs := [v1, .string y105.Name]) can31 rfl ?_)
            refine (marigraphref08_Index_Vals_w C.sb h1 h178).mono ?_
            rintro _ w179 ⟨S180, v182, rfl, c181, h183⟩
            refine ⟨_, rfl, ?_⟩
            have p184 := ap_fresh (fun b hb => (h183.lt b hb).1) (fun b hb => (h0.lt b hb).1)
            have p185 := ap_fresh (fun b hb => (h183.lt b hb).1) (fun b hb => (h1.lt b hb).1)
            have p186 := ap_fresh (fun b hb => (h183.lt b hb).1) (fun b hb => (h171.lt b hb).2)
            have p187 := ap_fresh (fun b hb => (h183.lt b hb).1) (fun b hb => (h49.lt b hb).2)
            replace h183 := h183.base C.up.size
            replace h0 := h0.cx c181
            replace h1 := h1.cx c181
            replace h171 := h171.cx c181
            replace h49 := h49.cx c181
            replace h60 := h60.cx c181
            replace h73 := h73.cx c181
            replace C := C.trans c181
            have z188 := (c181.up).size
            have m189 := m176.nx c181.up (by omega)
            refine ⟨⟨m189, trivial⟩, ?_⟩
            replace h0 := h0.or (ap_symm p172)
            replace h1 := h1.or (ap_symm p173)
            replace h49 := h49.or (ap_symm p174)
            replace h60 := h60.or (T := Blk v170)
            replace h183 := h183.or p186
            replace h73 := h73.or (T := Blk v170)
            replace C := C.sealO h171
            replace h171 := h171.sealed
            replace h0 := h0.or (ap_symm p184)
            replace h1 := h1.or (ap_symm p185)
            replace h171 := h171.or (T := Blk v182)
            replace h49 := h49.or (ap_symm p187)
            replace h60 := h60.or (T := Blk v182)
            replace h73 := h73.or (T := Blk v182)
            replace C := C.sealO h183
            replace h183 := h183.sealed
            obtain ⟨y190, h191, h114⟩ := bnd_some h114
            refine MT.c rfl rfl (gy rfl rfl rfl b158) (dc_call (vs := [v170, v182]) can29 rfl ?_)
            refine (marigraphref08_Strings_w C.sb h171 h183 h191).mono ?_
            rintro _ w192 ⟨S193, rfl, c194⟩
            refine ⟨_, rfl, ?_⟩
            replace h0 := h0.cx c194
            replace h1 := h1.cx c194
            replace h49 := h49.cx c194
            replace h60 := h60.cx c194
            replace h73 := h73.cx c194
            replace C := C.trans c194
            have z195 := (c194.up).size
            have m196 := m189.nx c194.up (by omega)
            refine ⟨⟨m196, trivial⟩, ?_⟩
            refine MT.vv rfl rfl (gy rfl rfl rfl b158) (rv_not rfl) (mtv rfl rfl (pfk (.bool (!y190)) rfl b158 rfl) (MT.e ?_))
            obtain rfl := Option.some.inj h114
            exact ⟨_, C, ⟨rfl, rfl, rfl, rfl, rfl, rfl, rfl, rfl, rfl, rfl, rfl, rfl, rfl, rfl, trivial⟩, h49, h60, h73, h0, h1⟩
        · rintro ρ w198 ⟨S197, C, h199, h49, h60, h73, h0, h1⟩
          refine h199.cw fun ρ => ?_
          clear h199
          rcases bif_some h89 with ⟨b200, h89⟩ | ⟨b200, h89⟩
          · refine cw_t rfl b200 ?_
            refine cw_seq fun K201 k202 => ?_
            refine cw_region (sv (asv (.bool false) rfl) (W.e (k202 _ _ (cw_ret ?_))))
            obtain rfl := Option.some.inj h89
            replace h80 := h80.2 _ rfl
            obtain rfl := Option.some.inj h80
            have h203 := congrArg some h79
            obtain rfl := Option.some.inj h203
            replace h := h.2 _ rfl
            obtain rfl := Option.some.inj h
            exact ⟨_, rfl, _, rfl, C⟩
          · refine cw_f rfl b200 (cw_skip ?_)
            obtain rfl := Option.some.inj h89
            exact ⟨_, rfl, ⟨_, C, ⟨rfl, rfl, rfl, rfl, rfl, rfl, rfl, rfl, rfl, rfl, rfl, rfl, rfl, trivial⟩, h49, h60, h73, h0, h1⟩⟩
      · rintro ρ w205 ⟨o86n, rfl, ⟨S204, C, h206, h49, h60, h73, h0, h1⟩⟩
        replace h80 := h80.1 _ rfl
        refine h206.cw fun ρ => ?_
        clear h206
        refine cw_region ?_
        obtain ⟨y207, h208, h80⟩ := pur_some h80
        refine sv (rv_add rfl rfl h208) (sv (mvv (.int .i64 y207) rfl) (W.e ?_))
        obtain rfl := Option.some.inj h80
        exact ⟨_, rfl, ⟨_, C, ⟨rfl, rfl, rfl, rfl, rfl, rfl, rfl, rfl, rfl, rfl, rfl, rfl, rfl, trivial⟩, h49, h60, h73, h0, h1⟩⟩
    · refine cw_f rfl b85 (cw_exit ?_)
      obtain rfl := Option.some.inj h80
      have h209 := congrArg some h79
      obtain rfl := Option.some.inj h209
      exact ⟨_, rfl, ⟨_, C, ⟨rfl, rfl, rfl, rfl, rfl, rfl, rfl, rfl, trivial⟩, h49, h60⟩⟩
  · rintro ρ w211 ⟨o61n, rfl, ⟨S210, C, h212, h49, h60⟩⟩
    replace h := h.1 _ rfl
    refine h212.cw fun ρ => ?_
    clear h212
    obtain ⟨o213, h216, h⟩ := bnd_some h
    refine cw_seq' (fun ρ w1 => ∃ S1, Cx No S w S1 w1 ∧ Has ρ [(6, .bool o213)]) ?_ ?_
    · refine cw_region (sv (mvv (.int .i64 y22.1) rfl) (sv (mvv (.int .i64 y36.1) rfl) (sv (rv_eql rfl rfl) (sv (mvv (.bool (y22.1 == y36.1)) rfl) ?_))))
      rcases bif_some h216 with ⟨b217, h216⟩ | ⟨b217, h216⟩
      · refine W.v (gy rfl rfl rfl b217) (mvv (.bool y22.2) rfl) (W.v (gy rfl rfl rfl b217) (mvv (.bool y36.2) rfl) (W.v (gy rfl rfl rfl b217) (rv_beql Tryz.underlying4 rfl rfl) (sv (ptk (.bool (y22.2 == y36.2)) rfl b217 rfl) (sv (mvv (.bool (y22.2 == y36.2)) rfl) ?_))))
        rcases bif_some h216 with ⟨b218, h216⟩ | ⟨b218, h216⟩
        · refine W.v (gy rfl rfl rfl b218) (mvv v48 rfl) (W.v (gy rfl rfl rfl b218) (mvv v59 rfl) ?_)
          replace h60 := h60.or (T := Blk v48)
          replace C := C.sealO h49
          replace h49 := h49.sealed
          obtain ⟨y219, h220, h216⟩ := bnd_some h216
          refine W.c (gy rfl rfl rfl b218) (dc_call (vs := [v48, v59]) can32 rfl ?_)
          refine (marigraphref05_Same_w C.sb h49 h60 h220).mono ?_
          rintro _ w221 ⟨S222, rfl, c223⟩
          refine ⟨_, rfl, ?_⟩
          replace C := C.trans c223
          refine sv (ptk (.bool y219) rfl b218 rfl) (sv (mvv (.bool y219) rfl) ?_)
          rcases bif_some h216 with ⟨b224, h216⟩ | ⟨b224, h216⟩
          · refine W.v (gy rfl rfl rfl b224) (mvv (.bool y43.2) rfl) (W.v (gy rfl rfl rfl b224) (mvv (.bool y54.2) rfl) (W.v (gy rfl rfl rfl b224) (rv_beql Tryz.underlying4 rfl rfl) (sv (ptk (.bool (y43.2 == y54.2)) rfl b224 rfl) (sv (asv (.bool (y43.2 == y54.2)) rfl) (W.e ?_)))))
            obtain rfl := Option.some.inj h216
            exact ⟨_, C, ⟨rfl, trivial⟩⟩
          · refine W.n (gn rfl rfl rfl b224) (W.n (gn rfl rfl rfl b224) (W.n (gn rfl rfl rfl b224) (sv (pfk (.bool false) rfl b224 rfl) (sv (asv (.bool false) rfl) (W.e ?_)))))
            obtain rfl := Option.some.inj h216
            exact ⟨_, C, ⟨rfl, trivial⟩⟩
        · refine W.n (gn rfl rfl rfl b218) (W.n (gn rfl rfl rfl b218) (W.n (gn rfl rfl rfl b218) (sv (pfk (.bool false) rfl b218 rfl) (sv (mvv (.bool false) rfl) (W.n (gn rfl rfl rfl rfl) (W.n (gn rfl rfl rfl rfl) (W.n (gn rfl rfl rfl rfl) (sv (pfk (.bool false) rfl rfl rfl) (sv (asv (.bool false) rfl) (W.e ?_))))))))))
          obtain rfl := Option.some.inj h216
          exact ⟨_, C, ⟨rfl, trivial⟩⟩
      · refine W.n (gn rfl rfl rfl b217) (W.n (gn rfl rfl rfl b217) (W.n (gn rfl rfl rfl b217) (sv (pfk (.bool false) rfl b217 rfl) (sv (mvv (.bool false) rfl) (W.n (gn rfl rfl rfl rfl) (W.n (gn rfl rfl rfl rfl) (W.n (gn rfl rfl rfl rfl) (sv (pfk (.bool false) rfl rfl rfl) (sv (mvv (.bool false) rfl) (W.n (gn rfl rfl rfl rfl) (W.n (gn rfl rfl rfl rfl) ?_)))))))))))
        refine W.n (gn rfl rfl rfl rfl) (sv (pfk (.bool false) rfl rfl rfl) (sv (asv (.bool false) rfl) (W.e ?_)))
        obtain rfl := Option.some.inj h216
        exact ⟨_, C, ⟨rfl, trivial⟩⟩
    · rintro ρ w226 ⟨S225, C, h227⟩
      refine h227.cw fun ρ => ?_
      clear h227
      refine cw_ret ?_
      obtain rfl := Option.some.inj h
      exact ⟨_, rfl, _, rfl, C⟩

noncomputable def index_Index_Bytes.b2 (y15 : index_Index) (y52 : (List Int)) (x68 : List Int) (x69 : Int) : Option (((List Int) × Int) ⊕ ((List Int))) :=
  (bif (decide (x69 < (y52.length : Int))) then ((at_ y52 x69).bind fun y81 => ((label_Put ((mget y81 y15.series).getD ([] : List api_Label))).bind fun y90 => (pur (IntKind.u64.wrap y81) fun y100 => ((octs_Put x68 y100).bind fun y102 => ((app_ 1 y102 y90.1).bind fun y112 => (pur (IntKind.i64.wrap (x69 + (1 : Int))) fun y122 => some (.inl (y112, y122)))))))) else some (.inr x68))
noncomputable def index_Index_Bytes (a0 : Option index_Index) : Option (List Int) :=
  (bif a0.isNone then some ([] : List Int) else ((a0).bind fun y15 => (pur (IntKind.u64.wrap y15.given) fun y18 => ((octs_Put ([] : List Int) y18).bind fun y22 => (pur (IntKind.u64.wrap (y15.series.length : Int)) fun y34 => ((octs_Put y22 y34).bind fun y36 => (((index_Index_all y15).bind fun y52 => (iter (fun s : (List Int) × Int => index_Index_Bytes.b2 y15 y52 s.1 s.2) (y36, (0 : Int)))).bind fun o46 => some o46)))))))
set_option maxRecDepth 100000 in
set_option maxHeartbeats 4000000 in
theorem index_Index_Bytes_w {S : Nat → Prop} {w : World} {a0 : Option index_Index} {v0 : Value} {cs0 : List Value} {fp0 : List Nat} {r : (List Int)} (hS : Sb S w) (h0 : Obo 61 index_Index.fs S w v0 a0 cs0 fp0) (h : index_Index_Bytes a0 = some r) :
    Calls Tryz.prog 10 (List.toArray [v0]) w fun e w1 => ∃ S1 u0, e = .returned (u0) ∧ Cx No S w S1 w1 ∧ Ow (kI .u8) 5 S1 w.heap.size w1 u0 r := by
  refine enter Tryz.func10 rfl (by kernel_rfl) rfl ?_
  have C := Cx.refl (F := No) hS
  unfold index_Index_Bytes at h
  have hl0 : ∀ b ∈ fp0, b < w.heap.size := fun b hb => (h0.lt b hb).1
  refine cw_seq fun K1 k2 => ?_
  refine cw_region (sv (asv (.slice none 0 0) rfl) (W.e (k2 _ _ ?_)))
  refine cw_seq fun K3 k4 => ?_
  refine cw_seq fun K5 k6 => ?_
  refine cw_region (sv (mvv v0 rfl) (sv (rv_nileq Tryz.underlying24 rfl rfl h0.ne) (W.e (k6 _ _ ?_))))
  rcases bif_some h with ⟨b7, h⟩ | ⟨b7, h⟩
  · refine cw_t rfl b7 ?_
    refine cw_seq fun K8 k9 => ?_
    refine cw_region (sv (asv (.slice none 0 0) rfl) (W.e (k9 _ _ (cw_ret ?_))))
    obtain rfl := Option.some.inj h
    exact ⟨_, rfl, _, _, rfl, C, Ow.nil _ _ _ _ _⟩
  · refine cw_f rfl b7 (cw_skip (k4 _ _ ?_))
    refine cw_seq fun K10 k11 => ?_
    refine cw_drawU (.one 0 true (.one 1 true (.one 2 true (.one 3 true (.one 4 true (.one 6 true (.one 7 true (.one 8 true (.one 9 true (.one 5 false (.one 10 false (.one 11 true (.one 12 false (.one 13 true .done)))))))))))))) [(3, [10]), (9, [10])] [(5, [10]), (10, [10]), (12, [10])] (fun c => bif Nat.beq c 10 then (One (pb v0)) else No) fol (by kernel_rfl) fun w12 u13 => ?_
    replace h0 := h0.nw u13
    replace C := C.new u13
    have h0d := h0
    have m14 := Sm.refl (One (pb v0)) w12
    refine mtv rfl rfl (mvv v0 rfl) ?_
    obtain ⟨y15, h16, h⟩ := bnd_some h
    have h17 := h0
    rw [h16] at h17
    replace h17 : Ob 61 (index_Index.fs y15) _ _ _ _ _ := h17
    have h17d := h17
    refine mtv rfl rfl (rv_nilcheck rfl h17.ptr) (mtv rfl rfl (rv_fieldAddr (b := pb v0) (o := 0) st61 rfl h17.ptr) (mtr rfl rfl ⟨m14, trivial⟩ (fun w' hq => rw_ofieldU (i := 4) (c := .int .i64 y15.given) h17 hq.1 ag3 (h17.sc (i := 4) rfl) rfl) ?_))
    obtain ⟨y18, h19, h⟩ := pur_some h
    refine mtv rfl rfl (rv_conv Tryz.underlying3 Tryz.underlying74 rfl h19) (mtv rfl rfl (mvv v0 rfl) (mtv rfl rfl (rv_nilcheck rfl h17.ptr) (mtv rfl rfl (rv_fieldAddr (b := pb v0) (o := 0) st61 rfl h17.ptr) ?_)))
    obtain ⟨c20, h21⟩ := h17.at (i := 0) rfl
    refine mtr rfl rfl ⟨m14, trivial⟩ (fun w' hq => rw_ofieldU (i := 0) (c := c20) h17 hq.1 ag56 h21 rfl) ?_
    obtain ⟨y22, h23, h⟩ := bnd_some h
    refine mtc rfl rfl (dc_call (vs := [.slice none 0 0, .int .u64 y18]) can33 rfl ?_)
    refine (octs_Put_w C.sb (sl_nil _ _ _) h23).mono ?_
    rintro _ w24 ⟨S25, v27, rfl, c26, h28⟩
    refine ⟨_, rfl, ?_⟩
    have p29 := ap_fresh (fun b hb => (h28.lt b hb).1) (fun b hb => (h17.lt b hb).1)
    replace h28 := h28.base C.up.size
    replace h17 := h17.cx c26
    replace h0 := h0.cx c26
    replace C := C.trans c26
    have z30 := (c26.up).size
    have m31 := m14.nx c26.up (by omega)
    refine ⟨⟨m31, trivial⟩, ?_⟩
    obtain ⟨_, h32, h33⟩ := Ob.rep h17 (i := 0) rfl h21
    refine mtc rfl rfl (Rw.does (rep_mlen h32 Tryz.underlying56 (Sm.refl _ _) rfl) ⟨⟨m31, trivial⟩, ?_⟩)
    obtain ⟨y34, h35, h⟩ := pur_some h
    refine mtv rfl rfl (rv_conv Tryz.underlying3 Tryz.underlying74 rfl h35) ?_
    replace h17 := h17.or (ap_symm p29)
    replace h0 := h0.or (ap_symm p29)
    replace C := C.sealO h28
    replace h28 := h28.sealed
    obtain ⟨y36, h37, h⟩ := bnd_some h
    refine mtc rfl rfl (dc_call (vs := [v27, .int .u64 y34]) can33 rfl ?_)
    refine (octs_Put_w C.sb h28 h37).mono ?_
    rintro _ w38 ⟨S39, v41, rfl, c40, h42⟩
    refine ⟨_, rfl, ?_⟩
    have p43 := ap_fresh (fun b hb => (h42.lt b hb).1) (fun b hb => (h17.lt b hb).1)
    replace h42 := h42.base C.up.size
    replace h17 := h17.cx c40
    replace h0 := h0.cx c40
    replace C := C.trans c40
    have z44 := (c40.up).size
    have m45 := m31.nx c40.up (by omega)
    refine ⟨⟨m45, trivial⟩, ?_⟩
    refine mtv rfl rfl (asv v41 rfl) (MT.e (k11 _ _ ?_))
    obtain ⟨o46, h49, h⟩ := bnd_some h
    refine cw_seq' (fun ρ w1 => ∃ S1 v127, Cx No S w S1 w1 ∧ Has ρ [(3, v127)] ∧ Ow (kI .u8) 5 S1 w.heap.size w1 v127 o46) ?_ ?_
    · refine cw_seq fun K50 k51 => ?_
      refine cw_region (sv (mvv v0 rfl) ?_)
      obtain ⟨y52, h53, h49⟩ := bnd_some h49
      refine sc (dc_call (vs := [v0]) can34 rfl ?_)
      refine (index_Index_all_w C.sb h17 h53).mono ?_
      rintro _ w54 ⟨S55, v57, rfl, c56, h58⟩
      refine ⟨_, rfl, ?_⟩
      have p59 := ap_fresh (fun b hb => (h58.lt b hb).1) (fun b hb => (h17.lt b hb).1)
      have p60 := ap_fresh (fun b hb => (h58.lt b hb).1) (fun b hb => (h42.lt b hb).2)
      replace h58 := h58.base C.up.size
      replace h17 := h17.cx c56
      replace h0 := h0.cx c56
      replace h42 := h42.cx c56
      replace C := C.trans c56
      refine sv (rv_lenS el49 h58.sealed rfl) (sv (mvv (.int .i64 0) rfl) (W.e (k51 _ _ (cw_block ?_))))
      refine cw_iter h49 (fun s ρ w1 => ∃ S1 v64, Cx No S w S1 w1 ∧ Has ρ [(0, v0), (3, v64), (24, v57), (25, .int .i64 (y52.length : Int)), (26, .int .i64 s.2)] ∧ Ow (kI .u8) 5 S1 w.heap.size w1 v64 s.1 ∧ Ow (kI .i64) 3 S1 w.heap.size w1 v57 y52 ∧ Obo 61 index_Index.fs S1 w1 v0 a0 cs0 fp0 ∧ Ob 61 (index_Index.fs y15) S1 w1 v0 cs0 fp0 ∧ Ap v64 v57) ⟨_, _, C, ⟨rfl, rfl, rfl, rfl, rfl, trivial⟩, h42, h58, h0, h17, (ap_symm p60)⟩ ?_
      rintro ⟨x68, x69⟩ q61 ρ w63 ⟨S62, v64, C, h67, h65, h58, h0, h17, p66⟩ h71 h70
      refine h67.cw fun ρ => ?_
      clear h67
      replace h71 : index_Index_Bytes.b2 y15 y52 x68 x69 = some q61 := h71
      unfold index_Index_Bytes.b2 at h71
      refine cw_seq fun K72 k73 => ?_
      refine cw_region (sv (rv_lss rfl rfl) (W.e (k73 _ _ ?_)))
      refine cw_seq fun K74 k75 => ?_
      rcases bif_some h71 with ⟨b76, h71⟩ | ⟨b76, h71⟩
      · refine cw_t rfl b76 (cw_skip (k75 _ _ ?_))
        refine cw_seq fun K77 k78 => ?_
        refine cw_block ?_
        refine cw_seq fun K79 k80 => ?_
        refine cw_region ?_
        obtain ⟨y81, h82, h71⟩ := bnd_some h71
        refine sv (rv_index el49 h58.sealed rfl rfl h82) (sr (rw_loadC el49 h58.sealed h82 rfl _ (Sm.refl _ _)) (sv (asv (.int .i64 y81) rfl) (W.e (k80 _ _ ?_))))
        refine cw_seq fun K83 k84 => ?_
        refine cw_region (sv (mvv v0 rfl) (sv (rv_nilcheck rfl h17.ptr) (sv (rv_fieldAddr (b := pb v0) (o := 0) st61 rfl h17.ptr) (sr (rw_ofield (i := 0) (c := c20) h17 ag56 h21 rfl) (sv (mvv (.int .i64 y81) rfl) ?_)))))
        obtain ⟨_, h85, h86⟩ := Ob.rep h17 (i := 0) rfl h21
        obtain ⟨v87, h88, h89⟩ := rep_look (P := Tryz.prog) (tm := 56) (te := 31) (y0 := ([] : List api_Label)) h85 Tryz.underlying56 zv31 (sl_nil _ _ _) y81
        refine sr ((h89 (Sm.refl _ _) rfl rfl).1) ?_
        obtain ⟨y90, h91, h71⟩ := bnd_some h71
        refine sc (dc_call (vs := [v87]) can35 rfl ?_)
        refine (label_Put_w C.sb h88 h91).mono ?_
        rintro _ w92 ⟨S93, v95, rfl, c94, h96⟩
        refine ⟨_, rfl, ?_⟩
        have p97 := ap_fresh (fun b hb => (h96.lt b hb).1) (fun b hb => (h17.lt b hb).1)
        have p98 := ap_fresh (fun b hb => (h96.lt b hb).1) (fun b hb => (h65.lt b hb).2)
        have p99 := ap_fresh (fun b hb => (h96.lt b hb).1) (fun b hb => (h58.lt b hb).2)
        replace h96 := h96.base C.up.size
        replace h17 := h17.cx c94
        replace h0 := h0.cx c94
        replace h65 := h65.cx c94
        replace h58 := h58.cx c94
        replace C := C.trans c94
        refine sv (mvv (.tuple (List.toArray [v95, .int .i64 y90.2])) rfl) (sv (rv_extract rfl rfl) (sv (rv_extract rfl rfl) (sv (asv v95 rfl) (sv (asv (.int .i64 y90.2) rfl) (W.e (k84 _ _ (cw_region (sv (mvv v64 rfl) (sv (mvv (.int .i64 y81) rfl) ?_)))))))))
        obtain ⟨y100, h101, h71⟩ := pur_some h71
        refine sv (rv_conv Tryz.underlying3 Tryz.underlying74 rfl h101) ?_
        replace h17 := h17.or (fun b hq hb => absurd (h65.lt b hb).1 (Nat.not_le_of_lt (hl0 b hq)))
        replace h0 := h0.or (fun b hq hb => absurd (h65.lt b hb).1 (Nat.not_le_of_lt (hl0 b hq)))
        replace h96 := h96.or p98
        replace h58 := h58.or (ap_symm p66)
        replace C := C.sealO h65
        replace h65 := h65.sealed
        obtain ⟨y102, h103, h71⟩ := bnd_some h71
        refine sc (dc_call (vs := [v64, .int .u64 y100]) can33 rfl ?_)
        refine (octs_Put_w C.sb h65 h103).mono ?_
        rintro _ w104 ⟨S105, v107, rfl, c106, h108⟩
        refine ⟨_, rfl, ?_⟩
        have p109 := ap_fresh (fun b hb => (h108.lt b hb).1) (fun b hb => (h17.lt b hb).1)
        have p110 := ap_fresh (fun b hb => (h108.lt b hb).1) (fun b hb => (h96.lt b hb).2)
        have p111 := ap_fresh (fun b hb => (h108.lt b hb).1) (fun b hb => (h58.lt b hb).2)
        replace h108 := h108.base C.up.size
        replace h17 := h17.cx c106
        replace h0 := h0.cx c106
        replace h96 := h96.cx c106
        replace h58 := h58.cx c106
        replace C := C.trans c106
        refine sv (mvv v95 rfl) ?_
        obtain ⟨y112, h113, h71⟩ := bnd_some h71
        have h119 := h108
        refine sc (dc_append el36 (by decide) h119 h96.src rfl rfl h113 C.up.size C.sb fun v114 w115 h116 u117 h118 => ?_)
        have p120 := ap_grow p109 h118 (fun b hb => (h17.lt b hb).1)
        have p121 := ap_grow p111 h118 (fun b hb => (h58.lt b hb).2)
        replace h17 := h17.wr u117 h119.not (ap_symm p109)
        replace h0 := h0.wr u117 h119.not (ap_symm p109)
        replace h58 := h58.wr u117 h119.not (ap_symm p111)
        replace C := C.ow h119 u117
        refine sv (asv v114 rfl) (W.e (k78 _ _ (cw_region ?_)))
        obtain ⟨y122, h123, h71⟩ := pur_some h71
        refine sv (rv_add rfl rfl h123) (sv (mvv (.int .i64 y122) rfl) (W.e ?_))
        obtain rfl := Option.some.inj h71
        exact ⟨_, rfl, ⟨_, _, C, ⟨rfl, rfl, rfl, rfl, rfl, trivial⟩, h116, h58, h0, h17, p121⟩⟩
      · refine cw_f rfl b76 (cw_exit ?_)
        obtain rfl := Option.some.inj h71
        have h124 := congrArg some h70
        obtain rfl := Option.some.inj h124
        exact ⟨_, _, C, ⟨rfl, trivial⟩, h65⟩
    · rintro ρ w126 ⟨S125, v127, C, h129, h128⟩
      refine h129.cw fun ρ => ?_
      clear h129
      refine cw_seq fun K130 k131 => ?_
      refine cw_region (sv (mvv v127 rfl) (sv (asv v127 rfl) (W.e (k131 _ _ (cw_ret ?_)))))
      obtain rfl := Option.some.inj h
      exact ⟨_, rfl, _, _, rfl, C, h128⟩

noncomputable def marigraphref01_Put.b2 (x28 : Int) (x29 : List Int) : Option ((Int × (List Int)) ⊕ (Int × (List Int))) :=
  (bif (decide ((127 : Int) < x28)) then (pur (Int.tmod x28 (128 : Int)) fun y39 => (pur (IntKind.u64.wrap (y39 + (128 : Int))) fun y41 => (pur (IntKind.u8.wrap y41) fun y43 => ((app_ 1 x29 ([y43] : List Int)).bind fun y51 => (pur (IntKind.u64.wrap (Int.tdiv x28 (128 : Int))) fun y59 => some (.inl (y59, y51))))))) else some (.inr (x28, x29)))
noncomputable def marigraphref01_Put (a0 : List Int) (a1 : Int) : Option (List Int) :=
  ((app_ 1 ([] : List Int) a0).bind fun y10 => ((iter (fun s : Int × (List Int) => marigraphref01_Put.b2 s.1 s.2) (a1, y10)).bind fun o18 => (pur (IntKind.u8.wrap o18.1) fun y69 => ((app_ 1 o18.2 ([y69] : List Int)).bind fun y77 => some y77))))
set_option maxRecDepth 100000 in
set_option maxHeartbeats 4000000 in
theorem marigraphref01_Put_w {S : Nat → Prop} {w : World} {a0 : List Int} {a1 : Int} {v0 : Value} {r : (List Int)} (hS : Sb S w) (h0 : Sl (kSl (kI .u8)) S w v0 a0) (h : marigraphref01_Put a0 a1 = some r) :
    Calls Tryz.prog 36 (List.toArray [v0, .int .u64 a1]) w fun e w1 => ∃ S1 u0, e = .returned (u0) ∧ Cx No S w S1 w1 ∧ Ow (kI .u8) 5 S1 w.heap.size w1 u0 r := by
  refine enter Tryz.func36 rfl (by kernel_rfl) rfl ?_
  have C := Cx.refl (F := No) hS
  unfold marigraphref01_Put at h
  refine cw_seq fun K1 k2 => ?_
  refine cw_region (sv (asv (.slice none 0 0) rfl) (W.e (k2 _ _ ?_)))
  refine cw_seq fun K3 k4 => ?_
  refine cw_region ?_
  refine sc (dc_lit (vs := []) (xs := ([] : List Int)) (base := w.heap.size) el36 rfl rfl (.nil) (Nat.le_of_ble_eq_true rfl) C.up.size C.sb fun v5 w6 h7 h8 u9 => ?_)
  replace h0 := h0.nw u9
  replace C := C.new u9
  refine sv (mvv v0 rfl) ?_
  obtain ⟨y10, h11, h⟩ := bnd_some h
  have h17 := h7
  refine sc (dc_append el36 (by decide) h17 (h0.src fun _ h => h) rfl rfl h11 C.up.size C.sb fun v12 w13 h14 u15 h16 => ?_)
  replace C := C.ow h17 u15
  refine sv (asv v12 rfl) (W.e (k4 _ _ ?_))
  obtain ⟨o18, h21, h⟩ := bnd_some h
  refine cw_seq' (fun ρ w1 => ∃ S1 v64, Cx No S w S1 w1 ∧ Has ρ [(1, .int .u64 o18.1), (5, v64)] ∧ Ow (kI .u8) 5 S1 w.heap.size w1 v64 o18.2) ?_ ?_
  · refine cw_block ?_
    refine cw_iter h21 (fun s ρ w1 => ∃ S1 v25, Cx No S w S1 w1 ∧ Has ρ [(1, .int .u64 s.1), (5, v25)] ∧ Ow (kI .u8) 5 S1 w.heap.size w1 v25 s.2) ⟨_, _, C, ⟨rfl, rfl, trivial⟩, h14⟩ ?_
    rintro ⟨x28, x29⟩ q22 ρ w24 ⟨S23, v25, C, h27, h26⟩ h31 h30
    refine h27.cw fun ρ => ?_
    clear h27
    replace h31 : marigraphref01_Put.b2 x28 x29 = some q22 := h31
    unfold marigraphref01_Put.b2 at h31
    refine cw_seq fun K32 k33 => ?_
    refine cw_seq fun K34 k35 => ?_
    refine cw_region (sv (mvv (.int .u64 x28) rfl) (sv (rv_gtr rfl rfl) (W.e (k35 _ _ ?_))))
    rcases bif_some h31 with ⟨b36, h31⟩ | ⟨b36, h31⟩
    · refine cw_t rfl b36 (cw_skip (k33 _ _ (cw_block ?_)))
      refine cw_seq fun K37 k38 => ?_
      refine cw_region (sv (mvv v25 rfl) (sv (mvv (.int .u64 x28) rfl) ?_))
      obtain ⟨y39, h40, h31⟩ := pur_some h31
      refine sv (rv_rem rfl rfl (by decide) h40) ?_
      obtain ⟨y41, h42, h31⟩ := pur_some h31
      refine sv (rv_add rfl rfl h42) ?_
      obtain ⟨y43, h44, h31⟩ := pur_some h31
      refine sv (rv_conv Tryz.underlying74 Tryz.underlying5 rfl h44) ?_
      refine sc (dc_lit (vs := [.int .u8 y43]) (xs := ([y43] : List Int)) (base := w.heap.size) el36 rfl rfl (.cons (sl_sc.2 rfl) (.nil)) (Nat.le_of_ble_eq_true rfl) C.up.size C.sb fun v45 w46 h47 h48 u49 => ?_)
      have p50 := ap_fresh h48 (fun b hb => (h26.lt b hb).2)
      replace h26 := h26.nw u49
      replace C := C.new u49
      obtain ⟨y51, h52, h31⟩ := bnd_some h31
      have h58 := h26
      refine sc (dc_append el36 (by decide) h58 h47.src rfl rfl h52 C.up.size C.sb fun v53 w54 h55 u56 h57 => ?_)
      replace C := C.ow h58 u56
      refine sv (asv v53 rfl) (W.e (k38 _ _ (cw_region (sv (mvv (.int .u64 x28) rfl) ?_))))
      obtain ⟨y59, h60, h31⟩ := pur_some h31
      refine sv (rv_quo rfl rfl (by decide) h60) (sv (asv (.int .u64 y59) rfl) (W.e ?_))
      obtain rfl := Option.some.inj h31
      exact ⟨_, rfl, ⟨_, _, C, ⟨rfl, rfl, trivial⟩, h55⟩⟩
    · refine cw_f rfl b36 (cw_exit ?_)
      obtain rfl := Option.some.inj h31
      have h61 := congrArg some h30
      obtain rfl := Option.some.inj h61
      exact ⟨_, _, C, ⟨rfl, rfl, trivial⟩, h26⟩
  · rintro ρ w63 ⟨S62, v64, C, h66, h65⟩
    refine h66.cw fun ρ => ?_
    clear h66
    refine cw_seq fun K67 k68 => ?_
    refine cw_region (sv (mvv v64 rfl) (sv (mvv (.int .u64 o18.1) rfl) ?_))
    obtain ⟨y69, h70, h⟩ := pur_some h
    refine sv (rv_conv Tryz.underlying74 Tryz.underlying5 rfl h70) ?_
    refine sc (dc_lit (vs := [.int .u8 y69]) (xs := ([y69] : List Int)) (base := w.heap.size) el36 rfl rfl (.cons (sl_sc.2 rfl) (.nil)) (Nat.le_of_ble_eq_true rfl) C.up.size C.sb fun v71 w72 h73 h74 u75 => ?_)
    have p76 := ap_fresh h74 (fun b hb => (h65.lt b hb).2)
    replace h65 := h65.nw u75
    replace C := C.new u75
    obtain ⟨y77, h78, h⟩ := bnd_some h
    have h84 := h65
    refine sc (dc_append el36 (by decide) h84 h73.src rfl rfl h78 C.up.size C.sb fun v79 w80 h81 u82 h83 => ?_)
    replace C := C.ow h84 u82
    refine sv (asv v79 rfl) (W.e (k68 _ _ (cw_ret ?_)))
    obtain rfl := Option.some.inj h
    exact ⟨_, rfl, _, _, rfl, C, h81⟩

noncomputable def marigraphref01_PutText (a0 : List Int) (a1 : ByteArray) : Option (List Int) :=
  (pur (IntKind.u64.wrap (a1.size : Int)) fun y5 => ((marigraphref01_Put a0 y5).bind fun y7 => ((app_ 1 y7 (strB a1)).bind fun y14 => some y14)))
set_option maxRecDepth 100000 in
set_option maxHeartbeats 4000000 in
theorem marigraphref01_PutText_w {S : Nat → Prop} {w : World} {a0 : List Int} {a1 : ByteArray} {v0 : Value} {r : (List Int)} (hS : Sb S w) (h0 : Sl (kSl (kI .u8)) S w v0 a0) (h : marigraphref01_PutText a0 a1 = some r) :
    Calls Tryz.prog 65 (List.toArray [v0, .string a1]) w fun e w1 => ∃ S1 u0, e = .returned (u0) ∧ Cx No S w S1 w1 ∧ Ow (kI .u8) 5 S1 w.heap.size w1 u0 r := by
  refine enter Tryz.func65 rfl (by kernel_rfl) rfl ?_
  have C := Cx.refl (F := No) hS
  unfold marigraphref01_PutText at h
  refine cw_seq fun K1 k2 => ?_
  refine cw_region (sv (asv (.slice none 0 0) rfl) (W.e (k2 _ _ ?_)))
  refine cw_seq fun K3 k4 => ?_
  refine cw_region (sv (mvv v0 rfl) (sv (mvv (.string a1) rfl) (sv (rv_slen Tryz.underlying9 rfl) ?_)))
  obtain ⟨y5, h6, h⟩ := pur_some h
  refine sv (rv_conv Tryz.underlying3 Tryz.underlying74 rfl h6) ?_
  obtain ⟨y7, h8, h⟩ := bnd_some h
  refine sc (dc_call (vs := [v0, .int .u64 y5]) can36 rfl ?_)
  refine (marigraphref01_Put_w C.sb h0 h8).mono ?_
  rintro _ w9 ⟨S10, v12, rfl, c11, h13⟩
  refine ⟨_, rfl, ?_⟩
  replace h13 := h13.base C.up.size
  replace C := C.trans c11
  refine sv (mvv (.string a1) rfl) ?_
  obtain ⟨y14, h15, h⟩ := bnd_some h
  have h21 := h13
  refine sc (dc_appendS el36 Tryz.underlying9 zv5 h21 rfl rfl h15 C.up.size C.sb fun v16 w17 h18 u19 h20 => ?_)
  replace C := C.ow h21 u19
  refine sv (asv v16 rfl) (W.e (k4 _ _ (cw_ret ?_)))
  obtain rfl := Option.some.inj h
  exact ⟨_, rfl, _, _, rfl, C, h18⟩

noncomputable def marigraphref05_Put.b2 (a0 : List api_Label) (x38 : List Int) (x39 : Int) : Option (((List Int) × Int) ⊕ ((List Int))) :=
  (bif (decide (x39 < (a0.length : Int))) then ((at_ a0 x39).bind fun y51 => ((marigraphref01_PutText x38 y51.Name).bind fun y56 => ((at_ a0 x39).bind fun y63 => ((marigraphref01_PutText y56 y63.Val).bind fun y68 => (pur (IntKind.i64.wrap (x39 + (1 : Int))) fun y75 => some (.inl (y68, y75))))))) else some (.inr x38))
noncomputable def marigraphref05_Put (a0 : List api_Label) : Option ((List Int) × Int) :=
  ((marigraphref05_Right a0).bind fun y7 => (bif (!y7) then some (([] : List Int), (50 : Int)) else (pur (IntKind.u64.wrap (a0.length : Int)) fun y17 => ((marigraphref01_Put ([] : List Int) y17).bind fun y19 => ((iter (fun s : (List Int) × Int => marigraphref05_Put.b2 a0 s.1 s.2) (y19, (0 : Int))).bind fun o26 => some (o26, (0 : Int)))))))
set_option maxRecDepth 100000 in
set_option maxHeartbeats 4000000 in
theorem marigraphref05_Put_w {S : Nat → Prop} {w : World} {a0 : List api_Label} {v0 : Value} {r : (List Int) × Int} (hS : Sb S w) (h0 : Sl (kSl api_Label.k) S w v0 a0) (h : marigraphref05_Put a0 = some r) :
    Calls Tryz.prog 37 (List.toArray [v0]) w fun e w1 => ∃ S1 u0, e = .returned (.tuple (List.toArray [u0, .int .i64 r.2])) ∧ Cx No S w S1 w1 ∧ Ow (kI .u8) 5 S1 w.heap.size w1 u0 r.1 := by
  refine enter Tryz.func37 rfl (by kernel_rfl) rfl ?_
  have C := Cx.refl (F := No) hS
  unfold marigraphref05_Put at h
  refine cw_seq fun K1 k2 => ?_
  refine cw_region (sv (asv (.slice none 0 0) rfl) (sv (asv (.int .i64 0) rfl) (W.e (k2 _ _ ?_))))
  refine cw_seq fun K3 k4 => ?_
  refine cw_seq fun K5 k6 => ?_
  refine cw_region (sv (mvv v0 rfl) ?_)
  obtain ⟨y7, h8, h⟩ := bnd_some h
  refine sc (dc_call (vs := [v0]) can64 rfl ?_)
  refine (marigraphref05_Right_w C.sb h0 h8).mono ?_
  rintro _ w9 ⟨S10, rfl, c11⟩
  refine ⟨_, rfl, ?_⟩
  replace h0 := h0.cx c11
  replace C := C.trans c11
  refine sv (rv_not rfl) (W.e (k6 _ _ ?_))
  rcases bif_some h with ⟨b12, h⟩ | ⟨b12, h⟩
  · refine cw_t rfl b12 ?_
    refine cw_seq fun K13 k14 => ?_
    refine cw_region (sv (asv (.slice none 0 0) rfl) (sv (asv (.int .i64 50) rfl) (W.e (k14 _ _ (cw_ret ?_)))))
    obtain rfl := Option.some.inj h
    exact ⟨_, rfl, _, _, rfl, C, Ow.nil _ _ _ _ _⟩
  · refine cw_f rfl b12 (cw_skip (k4 _ _ ?_))
    refine cw_seq fun K15 k16 => ?_
    refine cw_region (sv (mvv v0 rfl) (sv (rv_lenS el31 h0 rfl) ?_))
    obtain ⟨y17, h18, h⟩ := pur_some h
    refine sv (rv_conv Tryz.underlying3 Tryz.underlying74 rfl h18) ?_
    obtain ⟨y19, h20, h⟩ := bnd_some h
    refine sc (dc_call (vs := [.slice none 0 0, .int .u64 y17]) can36 rfl ?_)
    refine (marigraphref01_Put_w C.sb (sl_nil _ _ _) h20).mono ?_
    rintro _ w21 ⟨S22, v24, rfl, c23, h25⟩
    refine ⟨_, rfl, ?_⟩
    replace h25 := h25.base C.up.size
    replace h0 := h0.cx c23
    replace C := C.trans c23
    refine sv (asv v24 rfl) (W.e (k16 _ _ ?_))
    obtain ⟨o26, h29, h⟩ := bnd_some h
    refine cw_seq' (fun ρ w1 => ∃ S1 v80, Cx No S w S1 w1 ∧ Has ρ [(4, v80)] ∧ Ow (kI .u8) 5 S1 w.heap.size w1 v80 o26) ?_ ?_
    · refine cw_seq fun K30 k31 => ?_
      refine cw_region (sv (asv (.int .i64 0) rfl) (W.e (k31 _ _ (cw_block ?_))))
      refine cw_iter h29 (fun s ρ w1 => ∃ S1 v35, Cx No S w S1 w1 ∧ Has ρ [(0, v0), (4, v35), (5, .int .i64 s.2)] ∧ Sl (kSl api_Label.k) S1 w1 v0 a0 ∧ Ow (kI .u8) 5 S1 w.heap.size w1 v35 s.1) ⟨_, _, C, ⟨rfl, rfl, rfl, trivial⟩, h0, h25⟩ ?_
      rintro ⟨x38, x39⟩ q32 ρ w34 ⟨S33, v35, C, h37, h0, h36⟩ h41 h40
      refine h37.cw fun ρ => ?_
      clear h37
      replace h41 : marigraphref05_Put.b2 a0 x38 x39 = some q32 := h41
      unfold marigraphref05_Put.b2 at h41
      refine cw_seq fun K42 k43 => ?_
      refine cw_seq fun K44 k45 => ?_
      refine cw_region (sv (mvv (.int .i64 x39) rfl) (sv (mvv v0 rfl) (sv (rv_lenS el31 h0 rfl) (sv (rv_lss rfl rfl) (W.e (k45 _ _ ?_))))))
      rcases bif_some h41 with ⟨b46, h41⟩ | ⟨b46, h41⟩
      · refine cw_t rfl b46 (cw_skip (k43 _ _ ?_))
        refine cw_seq fun K47 k48 => ?_
        refine cw_block ?_
        refine cw_seq fun K49 k50 => ?_
        refine cw_region (sv (mvv v35 rfl) (sv (mvv v0 rfl) (sv (mvv (.int .i64 x39) rfl) ?_)))
        obtain ⟨y51, h52, h41⟩ := bnd_some h41
        refine sv (rv_index el31 h0 rfl rfl h52) (sv (rv_fieldAddr st46 rfl rfl) ?_)
        obtain ⟨cs53, h54, h55⟩ := Sl.cells h0 h52
        obtain rfl := api_Label.r.1 h54
        refine sr (rw_el1 (off := 0) ag9 (h55 _ (Sm.refl _ _)) rfl rfl) ?_
        replace h0 := h0.or (T := Blk v35)
        replace C := C.sealO h36
        replace h36 := h36.sealed
        obtain ⟨y56, h57, h41⟩ := bnd_some h41
        refine sc (dc_call (vs := [v35, .string y51.Name]) can65 rfl ?_)
        refine (marigraphref01_PutText_w C.sb h36 h57).mono ?_
        rintro _ w58 ⟨S59, v61, rfl, c60, h62⟩
        refine ⟨_, rfl, ?_⟩
        replace h62 := h62.base C.up.size
        replace h0 := h0.cx c60
        replace C := C.trans c60
        refine sv (asv v61 rfl) (W.e (k50 _ _ (cw_region (sv (mvv v61 rfl) (sv (mvv v0 rfl) (sv (mvv (.int .i64 x39) rfl) ?_))))))
        obtain ⟨y63, h64, h41⟩ := bnd_some h41
        refine sv (rv_index el31 h0 rfl rfl h64) (sv (rv_fieldAddr st46 rfl rfl) ?_)
        obtain ⟨cs65, h66, h67⟩ := Sl.cells h0 h64
        obtain rfl := api_Label.r.1 h66
        refine sr (rw_el1 (off := 1) ag9 (h67 _ (Sm.refl _ _)) rfl rfl) ?_
        replace h0 := h0.or (T := Blk v61)
        replace C := C.sealO h62
        replace h62 := h62.sealed
        obtain ⟨y68, h69, h41⟩ := bnd_some h41
        refine sc (dc_call (vs := [v61, .string y63.Val]) can65 rfl ?_)
        refine (marigraphref01_PutText_w C.sb h62 h69).mono ?_
        rintro _ w70 ⟨S71, v73, rfl, c72, h74⟩
        refine ⟨_, rfl, ?_⟩
        replace h74 := h74.base C.up.size
        replace h0 := h0.cx c72
        replace C := C.trans c72
        refine sv (asv v73 rfl) (W.e (k48 _ _ (cw_region (sv (mvv (.int .i64 x39) rfl) ?_))))
        obtain ⟨y75, h76, h41⟩ := pur_some h41
        refine sv (rv_add rfl rfl h76) (sv (asv (.int .i64 y75) rfl) (W.e ?_))
        obtain rfl := Option.some.inj h41
        exact ⟨_, rfl, ⟨_, _, C, ⟨rfl, rfl, rfl, trivial⟩, h0, h74⟩⟩
      · refine cw_f rfl b46 (cw_exit ?_)
        obtain rfl := Option.some.inj h41
        have h77 := congrArg some h40
        obtain rfl := Option.some.inj h77
        exact ⟨_, _, C, ⟨rfl, trivial⟩, h36⟩
    · rintro ρ w79 ⟨S78, v80, C, h82, h81⟩
      refine h82.cw fun ρ => ?_
      clear h82
      refine cw_seq fun K83 k84 => ?_
      refine cw_region (sv (mvv v80 rfl) (sv (asv v80 rfl) (sv (asv (.int .i64 0) rfl) (W.e (k84 _ _ (cw_ret ?_))))))
      obtain rfl := Option.some.inj h
      exact ⟨_, rfl, _, _, rfl, C, h81⟩

end Go.Proofs.YtikdgllagijidaaGreat
