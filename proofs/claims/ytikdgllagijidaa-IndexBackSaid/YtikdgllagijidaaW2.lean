/- What each function computes, and that the program computes it (part 2). Printed by gen.py, a program of this session. -/
import Derived.Test.YtikdgllagijidaaW1
set_option linter.unusedVariables false
namespace Go.Proofs.Ytikdgllagijidaa
open Go Go.Mg
noncomputable def marigraphref07_All.b2 (a0 : List api_Ask) (a1 : List api_Label) (x13 : Int) : Option ((Int) ⊕ ((Unit) ⊕ (Bool))) :=
  (bif (decide (x13 < (a0.length : Int))) then ((at_ a0 x13).bind fun y25 => ((marigraphref07_One y25 a1).bind fun y30 => (bif (!y30) then some (.inr (.inr false)) else (pur (IntKind.i64.wrap (x13 + (1 : Int))) fun y39 => some (.inl y39))))) else some (.inr (.inl ())))
noncomputable def marigraphref07_All (a0 : List api_Ask) (a1 : List api_Label) : Option Bool :=
  ((iter (fun s : Int => marigraphref07_All.b2 a0 a1 s) (0 : Int)).bind (Sum.elim (fun o3n => some true) (fun q => some q)))
set_option maxRecDepth 100000 in
set_option maxHeartbeats 4000000 in
theorem marigraphref07_All_w {S : Nat → Prop} {w : World} {a0 : List api_Ask} {a1 : List api_Label} {v0 v1 : Value} {r : Bool} (hS : Sb S w) (h0 : Sl (kSl api_Ask.k) S w v0 a0) (h1 : Sl (kSl api_Label.k) S w v1 a1) (h : marigraphref07_All a0 a1 = some r) :
    Calls Try.prog 20 (List.toArray [v0, v1]) w fun e w1 => ∃ S1, e = .returned (.bool r) ∧ Cx No S w S1 w1 := by
  refine enter Try.func20 rfl (by kernel_rfl) rfl ?_
  have C := Cx.refl (F := No) hS
  unfold marigraphref07_All at h
  refine cw_seq fun K1 k2 => ?_
  refine cw_region (sv (asv (.bool false) rfl) (W.e (k2 _ _ ?_)))
  obtain ⟨o3, h6, h⟩ := bnds_some h
  refine cw_seq' (fun ρ w1 => ∃ o3n, o3 = (.inl o3n) ∧ ∃ S1, Cx No S w S1 w1 ∧ Has ρ []) ?_ ?_
  · refine cw_seq fun K7 k8 => ?_
    refine cw_region (sv (asv (.int .i64 0) rfl) (W.e (k8 _ _ (cw_block ?_))))
    refine cw_iter h6 (fun s ρ w1 => ∃ S1, Cx No S w S1 w1 ∧ Has ρ [(0, v0), (1, v1), (5, .int .i64 s)] ∧ Sl (kSl api_Ask.k) S1 w1 v0 a0 ∧ Sl (kSl api_Label.k) S1 w1 v1 a1) ⟨_, C, ⟨rfl, rfl, rfl, trivial⟩, h0, h1⟩ ?_
    rintro x13 q9 ρ w11 ⟨S10, C, h12, h0, h1⟩ h15 h14
    refine h12.cw fun ρ => ?_
    clear h12
    replace h15 : marigraphref07_All.b2 a0 a1 x13 = some q9 := h15
    unfold marigraphref07_All.b2 at h15
    refine cw_seq fun K16 k17 => ?_
    refine cw_seq fun K18 k19 => ?_
    refine cw_region (sv (mvv (.int .i64 x13) rfl) (sv (mvv v0 rfl) (sv (rv_lenS el23 h0 rfl) (sv (rv_lss rfl rfl) (W.e (k19 _ _ ?_))))))
    rcases bif_some h15 with ⟨b20, h15⟩ | ⟨b20, h15⟩
    · refine cw_t rfl b20 (cw_skip (k17 _ _ ?_))
      refine cw_seq fun K21 k22 => ?_
      refine cw_block ?_
      refine cw_seq fun K23 k24 => ?_
      refine cw_region (sv (mvv v0 rfl) (sv (mvv (.int .i64 x13) rfl) ?_))
      obtain ⟨y25, h26, h15⟩ := bnd_some h15
      refine sv (rv_index el23 h0 rfl rfl h26) ?_
      obtain ⟨v27, h28, h29⟩ := rw_loadA (P := Try.prog) el23 h0 h26
      obtain rfl := api_Ask.o.1 h28
      refine sr (h29 _ (Sm.refl _ _) rfl) (sv (mvv v1 rfl) ?_)
      obtain ⟨y30, h31, h15⟩ := bnd_some h15
      refine sc (dc_call (vs := [.agg (List.toArray [.int .u8 y25.Op, .string y25.Name, .string y25.Val]), v1]) can38 rfl ?_)
      refine (marigraphref07_One_w C.sb ((api_Ask.o (x := y25)).2 rfl) h1 h31).mono ?_
      rintro _ w32 ⟨S33, rfl, c34⟩
      refine ⟨_, rfl, ?_⟩
      replace h0 := h0.cx c34
      replace h1 := h1.cx c34
      replace C := C.trans c34
      refine sv (rv_not rfl) (W.e (k24 _ _ ?_))
      rcases bif_some h15 with ⟨b35, h15⟩ | ⟨b35, h15⟩
      · refine cw_t rfl b35 ?_
        refine cw_seq fun K36 k37 => ?_
        refine cw_region (sv (asv (.bool false) rfl) (W.e (k37 _ _ (cw_ret ?_))))
        obtain rfl := Option.some.inj h15
        have h38 := congrArg some h14
        obtain rfl := Option.some.inj h38
        replace h := h.2 _ rfl
        obtain rfl := Option.some.inj h
        exact ⟨_, rfl, _, rfl, C⟩
      · refine cw_f rfl b35 (cw_skip (k22 _ _ (cw_region (sv (mvv (.int .i64 x13) rfl) ?_))))
        obtain ⟨y39, h40, h15⟩ := pur_some h15
        refine sv (rv_add rfl rfl h40) (sv (asv (.int .i64 y39) rfl) (W.e ?_))
        obtain rfl := Option.some.inj h15
        exact ⟨_, rfl, ⟨_, C, ⟨rfl, rfl, rfl, trivial⟩, h0, h1⟩⟩
    · refine cw_f rfl b20 (cw_exit ?_)
      obtain rfl := Option.some.inj h15
      have h41 := congrArg some h14
      obtain rfl := Option.some.inj h41
      exact ⟨_, rfl, ⟨_, C, trivial⟩⟩
  · rintro ρ w43 ⟨o3n, rfl, ⟨S42, C, h44⟩⟩
    replace h := h.1 _ rfl
    refine h44.cw fun ρ => ?_
    clear h44
    refine cw_seq fun K45 k46 => ?_
    refine cw_region (sv (asv (.bool true) rfl) (W.e (k46 _ _ (cw_ret ?_))))
    obtain rfl := Option.some.inj h
    exact ⟨_, rfl, _, rfl, C⟩

noncomputable def marigraphlaw08_IndexFinds.b2 (y36 : (List marigraphlaw08_Act)) (x51 : Int) (x52 : Option index_Index) : Option ((Int × (Option index_Index)) ⊕ ((Option index_Index))) :=
  (bif (decide (x51 < (y36.length : Int))) then (((at_ y36 x51).bind fun y66 => (pur y66 fun y81 => (pur (Int.tmod y81.Kind (5 : Int)) fun y96 => (bif (y96 == (3 : Int)) then ((index_Index_Drop x52 y81.Id).bind fun y106 => some y106.2) else ((marigraphlaw08_few y81.L).bind fun y124 => ((index_Index_Add x52 y124).bind fun y131 => some y131.2.2)))))).bind fun o60 => (pur (IntKind.i64.wrap (x51 + (1 : Int))) fun y149 => some (.inl (y149, o60)))) else some (.inr x52))
noncomputable def marigraphlaw08_IndexFinds.b6 (a1 : List api_Ask) (o30 : ((Option index_Index))) (x219 : List Int) (x220 : Int) : Option (((List Int) × Int) ⊕ ((List Int))) :=
  (bif (decide (x220 < (400 : Int))) then (((index_Index_Labels o30 x220).bind fun y236 => ((bif y236.2 then ((marigraphlaw08_some a1).bind fun y251 => ((marigraphref07_All y251 y236.1).bind fun y258 => some y258)) else some false).bind fun o246 => (bif o246 then ((app_ 8 x219 ([x220] : List Int)).bind fun y278 => some y278) else some x219))).bind fun o228 => (pur (IntKind.i64.wrap (x220 + (1 : Int))) fun y296 => some (.inl (o228, y296)))) else some (.inr x219))
noncomputable def marigraphlaw08_IndexFinds (a0 : List marigraphlaw08_Act) (a1 : List api_Ask) : Option Bool :=
  ((marigraphlaw08_shown).bind fun y5 => ((index_New).bind fun y12 => (bif y12.isNone then some false else (((marigraphlaw08_acts a0).bind fun y36 => (iter (fun s : Int × (Option index_Index) => marigraphlaw08_IndexFinds.b2 y36 s.1 s.2) ((0 : Int), y12))).bind fun o30 => ((marigraphlaw08_some a1).bind fun y161 => ((index_Index_Find o30 y161).bind fun y168 => ((marigraphlaw08_some a1).bind fun y180 => ((marigraphref07_Right y180).bind fun y187 => (bif (!y187) then ((bif y5 then (bif (y168.2 == (1 : Int)) then some ((y168.1.length : Int) == (0 : Int)) else some false) else some false).bind fun o193 => some o193) else ((iter (fun s : (List Int) × Int => marigraphlaw08_IndexFinds.b6 a1 o30 s.1 s.2) (([] : List Int), (0 : Int))).bind fun o204 => ((bif y5 then (bif (y168.2 == (0 : Int)) then ((marigraphref04_Ints y168.1 o204).bind fun y311 => some y311) else some false) else some false).bind fun o305 => some o305)))))))))))
set_option maxRecDepth 100000 in
set_option maxHeartbeats 4000000 in
theorem marigraphlaw08_IndexFinds_w {S : Nat → Prop} {w : World} {a0 : List marigraphlaw08_Act} {a1 : List api_Ask} {v0 v1 : Value} {r : Bool} (hS : Sb S w) (h0 : Sl (kSl marigraphlaw08_Act.k) S w v0 a0) (h1 : Sl (kSl api_Ask.k) S w v1 a1) (h : marigraphlaw08_IndexFinds a0 a1 = some r) :
    Calls Try.prog 3 (List.toArray [v0, v1]) w fun e w1 => ∃ S1, e = .returned (.bool r) ∧ Cx No S w S1 w1 := by
  refine enter Try.func3 rfl (by kernel_rfl) rfl ?_
  have C := Cx.refl (F := No) hS
  unfold marigraphlaw08_IndexFinds at h
  refine cw_seq fun K1 k2 => ?_
  refine cw_region (sv (asv (.bool false) rfl) (W.e (k2 _ _ ?_)))
  refine cw_seq fun K3 k4 => ?_
  refine cw_region ?_
  obtain ⟨y5, h6, h⟩ := bnd_some h
  refine sc (dc_call (vs := []) can10 rfl ?_)
  refine (marigraphlaw08_shown_w C.sb  h6).mono ?_
  rintro _ w7 ⟨S8, rfl, c9⟩
  refine ⟨_, rfl, ?_⟩
  replace h0 := h0.cx c9
  replace h1 := h1.cx c9
  replace C := C.trans c9
  refine sv (asv (.bool y5) rfl) (W.e (k4 _ _ ?_))
  refine cw_seq fun K10 k11 => ?_
  refine cw_region ?_
  obtain ⟨y12, h13, h⟩ := bnd_some h
  refine sc (dc_call (vs := []) can11 rfl ?_)
  refine (index_New_w C.sb  h13).mono ?_
  rintro _ w14 ⟨S15, v17, cs18, fp19, rfl, c16, h20, h21⟩
  refine ⟨_, rfl, ?_⟩
  have h22 : ∀ b, b ∈ fp19 → w.heap.size ≤ b := fun b hb => Nat.le_trans C.up.size (h21 b hb)
  replace h0 := h0.cx c16
  replace h1 := h1.cx c16
  replace C := C.trans c16
  refine sv (asv v17 rfl) (W.e (k11 _ _ ?_))
  refine cw_seq fun K23 k24 => ?_
  refine cw_seq fun K25 k26 => ?_
  refine cw_region (sv (mvv v17 rfl) (sv (rv_nileq Try.underlying25 rfl rfl h20.ne) (W.e (k26 _ _ ?_))))
  rcases bif_some h with ⟨b27, h⟩ | ⟨b27, h⟩
  · refine cw_t rfl b27 ?_
    refine cw_seq fun K28 k29 => ?_
    refine cw_region (sv (asv (.bool false) rfl) (W.e (k29 _ _ (cw_ret ?_))))
    obtain rfl := Option.some.inj h
    exact ⟨_, rfl, _, rfl, C⟩
  · refine cw_f rfl b27 (cw_skip (k24 _ _ ?_))
    obtain ⟨o30, h33, h⟩ := bnd_some h
    refine cw_seq' (fun ρ w1 => ∃ S1 fp155 cs157, Cx No S w S1 w1 ∧ Has ρ [(1, v1), (5, .bool y5), (6, v17)] ∧ Sl (kSl api_Ask.k) S1 w1 v1 a1 ∧ Obo 72 index_Index.fs S1 w1 v17 o30 cs157 fp155 ∧ (∀ b, b ∈ fp155 → w.heap.size ≤ b)) ?_ ?_
    · refine cw_seq fun K34 k35 => ?_
      refine cw_region (sv (mvv v0 rfl) ?_)
      obtain ⟨y36, h37, h33⟩ := bnd_some h33
      refine sc (dc_call (vs := [v0]) can12 rfl ?_)
      refine (marigraphlaw08_acts_w C.sb h0 h37).mono ?_
      rintro _ w38 ⟨S39, v41, rfl, c40, h42⟩
      refine ⟨_, rfl, ?_⟩
      replace h1 := h1.cx c40
      replace h20 := h20.cx c40
      replace C := C.trans c40
      refine sv (rv_lenS el22 h42 rfl) (sv (mvv (.int .i64 0) rfl) (W.e (k35 _ _ (cw_block ?_))))
      refine cw_iter h33 (fun s ρ w1 => ∃ S1 fp47 cs49, Cx No S w S1 w1 ∧ Has ρ [(1, v1), (5, .bool y5), (6, v17), (20, v41), (21, .int .i64 (y36.length : Int)), (22, .int .i64 s.1)] ∧ Sl (kSl api_Ask.k) S1 w1 v1 a1 ∧ Sl (kSl marigraphlaw08_Act.k) S1 w1 v41 y36 ∧ Obo 72 index_Index.fs S1 w1 v17 s.2 cs49 fp47 ∧ (∀ b, b ∈ fp47 → w.heap.size ≤ b)) ⟨_, _, _, C, ⟨rfl, rfl, rfl, rfl, rfl, rfl, trivial⟩, h1, h42, h20, h22⟩ ?_
      rintro ⟨x51, x52⟩ q43 ρ w45 ⟨S44, fp47, cs49, C, h50, h1, h42, h46, h48⟩ h54 h53
      refine h50.cw fun ρ => ?_
      clear h50
      replace h54 : marigraphlaw08_IndexFinds.b2 y36 x51 x52 = some q43 := h54
      unfold marigraphlaw08_IndexFinds.b2 at h54
      refine cw_seq fun K55 k56 => ?_
      refine cw_region (sv (rv_lss rfl rfl) (W.e (k56 _ _ ?_)))
      refine cw_seq fun K57 k58 => ?_
      rcases bif_some h54 with ⟨b59, h54⟩ | ⟨b59, h54⟩
      · refine cw_t rfl b59 (cw_skip (k58 _ _ ?_))
        obtain ⟨o60, h63, h54⟩ := bnd_some h54
        refine cw_seq' (fun ρ w1 => ∃ S1 fp145 cs147, Cx No S w S1 w1 ∧ Has ρ [(1, v1), (5, .bool y5), (6, v17), (20, v41), (21, .int .i64 (y36.length : Int)), (22, .int .i64 x51)] ∧ Sl (kSl api_Ask.k) S1 w1 v1 a1 ∧ Sl (kSl marigraphlaw08_Act.k) S1 w1 v41 y36 ∧ Obo 72 index_Index.fs S1 w1 v17 o60 cs147 fp145 ∧ (∀ b, b ∈ fp145 → w.heap.size ≤ b)) ?_ ?_
        · refine cw_block ?_
          refine cw_seq fun K64 k65 => ?_
          refine cw_region ?_
          obtain ⟨y66, h67, h63⟩ := bnd_some h63
          refine sv (rv_index el22 h42 rfl rfl h67) ?_
          obtain ⟨v68, h69, h70⟩ := rw_loadA (P := Try.prog) el22 h42 h67
          obtain ⟨c71, c73, rfl, g72, g74⟩ := marigraphlaw08_Act.o.1 h69
          refine sr (h70 _ (Sm.refl _ _) rfl) ?_
          refine sc (dc_allocO (x0 := (marigraphlaw08_Act.mk (0 : Int) (0 : Int) ([] : List api_Label) ([] : List api_Ask))) (base := w.heap.size) el22 zr30 (fun _ => marigraphlaw08_Act.r.2 ⟨_, _, rfl, sl_nil _ _ _, sl_nil _ _ _⟩) C.up.size C.sb fun b75 w76 h77 h78 u79 => ?_)
          have p80 := ap_fresh h78 (fun b hb => (h46.lt b hb).1)
          replace h1 := h1.nw u79
          replace h46 := h46.nw u79
          replace h42 := h42.nw u79
          replace g72 := g72.nw u79
          replace g74 := g74.nw u79
          replace C := C.new u79
          obtain ⟨y81, h82, h63⟩ := pur_some h63
          have h86 := h77
          refine sc (dc_storeO el22 h86 (show at_ [(marigraphlaw08_Act.mk (0 : Int) (0 : Int) ([] : List api_Label) ([] : List api_Ask))] (0 : Int) = some (marigraphlaw08_Act.mk (0 : Int) (0 : Int) ([] : List api_Label) ([] : List api_Ask)) from rfl) rfl rfl ((marigraphlaw08_Act.o.2 ⟨_, _, rfl, g72, g74⟩)) fun w83 h84 u85 => ?_)
          replace h84 : Ow marigraphlaw08_Act.k 30 S44 w.heap.size w83 (.slice (some ⟨b75, 0, none⟩) 1 1) [y66] := h84
          rw [h82] at h84
          replace h1 := h1.wr u85 h86.not
          replace h42 := h42.wr u85 h86.not
          replace h46 := h46.wr u85 h86.not (ap_symm p80)
          replace C := C.ow h86 u85
          refine W.e (k65 _ _ ?_)
          refine cw_seq fun K87 k88 => ?_
          refine cw_region (sv (rv_fieldAddr st30 rfl rfl) ?_)
          obtain ⟨cs89, h90, h91⟩ := Ow.cellsO h84 (show at_ [y81] (0 : Int) = some y81 from rfl)
          obtain ⟨c92, c94, rfl, g93, g95⟩ := marigraphlaw08_Act.r.1 h90
          refine sr (rw_el1 (off := 0) ag5 (h91 _ (Sm.refl _ _)) rfl rfl) ?_
          obtain ⟨y96, h97, h63⟩ := pur_some h63
          refine sv (rv_rem rfl rfl (by decide) h97) (sv (rv_eql rfl rfl) (W.e (k88 _ _ ?_)))
          rcases bif_some h63 with ⟨b98, h63⟩ | ⟨b98, h63⟩
          · refine cw_t rfl b98 (cw_region (sv (mvv v17 rfl) (sv (rv_fieldAddr st30 rfl rfl) ?_)))
            obtain ⟨cs99, h100, h101⟩ := Ow.cellsO h84 (show at_ [y81] (0 : Int) = some y81 from rfl)
            obtain ⟨c102, c104, rfl, g103, g105⟩ := marigraphlaw08_Act.r.1 h100
            refine sr (rw_el1 (off := 1) ag3 (h101 _ (Sm.refl _ _)) rfl rfl) ?_
            obtain ⟨y106, h107, h63⟩ := bnd_some h63
            refine sc (dc_call (vs := [v17, .int .i64 y81.Id]) can13 rfl ?_)
            refine (index_Index_Drop_w C.sb h46 h107).mono ?_
            rintro _ w108 ⟨S109, cs111, fp112, rfl, c110, h113, h114⟩
            refine ⟨_, rfl, ?_⟩
            have h115 : ∀ b, b ∈ fp47 → ¬ S44 b := fun b hb => (h46.lt b hb).2
            have h116 : ∀ b, b ∈ fp112 → w.heap.size ≤ b := fun b hb => (h114 b hb).elim (h48 b) (fun hl => Nat.le_trans C.up.size hl)
            replace h1 := h1.cf c110 h115
            replace h42 := h42.cf c110 h115
            replace C := C.ofc c110 (fun b hb => .inr (h48 b hb))
            refine W.e ?_
            obtain rfl := Option.some.inj h63
            exact ⟨_, _, _, C, ⟨rfl, rfl, rfl, rfl, rfl, rfl, trivial⟩, h1, h42, h113, h116⟩
          · refine cw_f rfl b98 (cw_region (sv (mvv v17 rfl) (sv (rv_fieldAddr st30 rfl rfl) ?_)))
            obtain ⟨cs117, h118, h119⟩ := Ow.cellsO h84 (show at_ [y81] (0 : Int) = some y81 from rfl)
            obtain ⟨c120, c122, rfl, g121, g123⟩ := marigraphlaw08_Act.r.1 h118
            refine sr (rw_el1 (off := 2) ag28 (h119 _ (Sm.refl _ _)) rfl rfl) ?_
            obtain ⟨y124, h125, h63⟩ := bnd_some h63
            refine sc (dc_call (vs := [c120]) can15 rfl ?_)
            refine (marigraphlaw08_few_w C.sb g121 h125).mono ?_
            rintro _ w126 ⟨S127, v129, rfl, c128, h130⟩
            refine ⟨_, rfl, ?_⟩
            replace h1 := h1.cx c128
            replace h46 := h46.cx c128
            replace h42 := h42.cx c128
            replace C := C.trans c128
            obtain ⟨y131, h132, h63⟩ := bnd_some h63
            refine sc (dc_call (vs := [v17, v129]) can14 rfl ?_)
            refine (index_Index_Add_w C.sb h46 h130 h132).mono ?_
            rintro _ w133 ⟨S134, cs136, fp137, rfl, c135, h138, h139⟩
            refine ⟨_, rfl, ?_⟩
            have h140 : ∀ b, b ∈ fp47 → ¬ S127 b := fun b hb => (h46.lt b hb).2
            have h141 : ∀ b, b ∈ fp137 → w.heap.size ≤ b := fun b hb => (h139 b hb).elim (h48 b) (fun hl => Nat.le_trans C.up.size hl)
            replace h1 := h1.cf c135 h140
            replace h42 := h42.cf c135 h140
            replace C := C.ofc c135 (fun b hb => .inr (h48 b hb))
            refine W.e ?_
            obtain rfl := Option.some.inj h63
            exact ⟨_, _, _, C, ⟨rfl, rfl, rfl, rfl, rfl, rfl, trivial⟩, h1, h42, h138, h141⟩
        · rintro ρ w143 ⟨S142, fp145, cs147, C, h148, h1, h42, h144, h146⟩
          refine h148.cw fun ρ => ?_
          clear h148
          refine cw_region ?_
          obtain ⟨y149, h150, h54⟩ := pur_some h54
          refine sv (rv_add rfl rfl h150) (sv (mvv (.int .i64 y149) rfl) (W.e ?_))
          obtain rfl := Option.some.inj h54
          exact ⟨_, rfl, ⟨_, _, _, C, ⟨rfl, rfl, rfl, rfl, rfl, rfl, trivial⟩, h1, h42, h144, h146⟩⟩
      · refine cw_f rfl b59 (cw_exit ?_)
        obtain rfl := Option.some.inj h54
        have h151 := congrArg some h53
        obtain rfl := Option.some.inj h151
        exact ⟨_, _, _, C, ⟨rfl, rfl, rfl, trivial⟩, h1, h46, h48⟩
    · rintro ρ w153 ⟨S152, fp155, cs157, C, h158, h1, h154, h156⟩
      refine h158.cw fun ρ => ?_
      clear h158
      refine cw_seq fun K159 k160 => ?_
      refine cw_region (sv (mvv v17 rfl) (sv (mvv v1 rfl) ?_))
      obtain ⟨y161, h162, h⟩ := bnd_some h
      refine sc (dc_call (vs := [v1]) can17 rfl ?_)
      refine (marigraphlaw08_some_w C.sb h1 h162).mono ?_
      rintro _ w163 ⟨S164, v166, rfl, c165, h167⟩
      refine ⟨_, rfl, ?_⟩
      replace h1 := h1.cx c165
      replace h154 := h154.cx c165
      replace C := C.trans c165
      obtain ⟨y168, h169, h⟩ := bnd_some h
      refine sc (dc_call (vs := [v17, v166]) can16 rfl ?_)
      refine (index_Index_Find_w C.sb h154 h167 h169).mono ?_
      rintro _ w170 ⟨S171, v173, rfl, c172, h174⟩
      refine ⟨_, rfl, ?_⟩
      have p175 := ap_fresh (fun b hb => (h174.lt b hb).1) (fun b hb => (h154.lt b hb).1)
      replace h174 := h174.base C.up.size
      replace h1 := h1.cx c172
      replace h154 := h154.cx c172
      replace C := C.trans c172
      refine sv (mvv (.tuple (List.toArray [v173, .int .i64 y168.2])) rfl) (sv (rv_extract rfl rfl) (sv (rv_extract rfl rfl) (sv (asv v173 rfl) (sv (asv (.int .i64 y168.2) rfl) (W.e (k160 _ _ ?_))))))
      refine cw_seq fun K176 k177 => ?_
      refine cw_seq fun K178 k179 => ?_
      refine cw_region (sv (mvv v1 rfl) ?_)
      obtain ⟨y180, h181, h⟩ := bnd_some h
      refine sc (dc_call (vs := [v1]) can17 rfl ?_)
      refine (marigraphlaw08_some_w C.sb h1 h181).mono ?_
      rintro _ w182 ⟨S183, v185, rfl, c184, h186⟩
      refine ⟨_, rfl, ?_⟩
      replace h1 := h1.cx c184
      replace h154 := h154.cx c184
      replace h174 := h174.cx c184
      replace C := C.trans c184
      obtain ⟨y187, h188, h⟩ := bnd_some h
      refine sc (dc_call (vs := [v185]) can18 rfl ?_)
      refine (marigraphref07_Right_w C.sb h186 h188).mono ?_
      rintro _ w189 ⟨S190, rfl, c191⟩
      refine ⟨_, rfl, ?_⟩
      replace h1 := h1.cx c191
      replace h154 := h154.cx c191
      replace h174 := h174.cx c191
      replace C := C.trans c191
      refine sv (rv_not rfl) (W.e (k179 _ _ ?_))
      rcases bif_some h with ⟨b192, h⟩ | ⟨b192, h⟩
      · refine cw_t rfl b192 ?_
        obtain ⟨o193, h196, h⟩ := bnd_some h
        refine cw_seq' (fun ρ w1 => ∃ S1, Cx No S w S1 w1 ∧ Has ρ [(4, .bool o193)]) ?_ ?_
        · refine cw_region (sv (mvv (.bool y5) rfl) (sv (mvv (.bool y5) rfl) ?_))
          rcases bif_some h196 with ⟨b197, h196⟩ | ⟨b197, h196⟩
          · refine W.v (gy rfl rfl rfl b197) (mvv (.int .i64 y168.2) rfl) (W.v (gy rfl rfl rfl b197) (rv_eql rfl rfl) (sv (ptk (.bool (y168.2 == (1 : Int))) rfl b197 rfl) (sv (mvv (.bool (y168.2 == (1 : Int))) rfl) ?_)))
            rcases bif_some h196 with ⟨b198, h196⟩ | ⟨b198, h196⟩
            · refine W.v (gy rfl rfl rfl b198) (mvv v173 rfl) (W.v (gy rfl rfl rfl b198) (rv_lenS el36 h174.sealed rfl) (W.v (gy rfl rfl rfl b198) (rv_eql rfl rfl) (sv (ptk (.bool ((y168.1.length : Int) == (0 : Int))) rfl b198 rfl) (sv (asv (.bool ((y168.1.length : Int) == (0 : Int))) rfl) (W.e ?_)))))
              obtain rfl := Option.some.inj h196
              exact ⟨_, C, ⟨rfl, trivial⟩⟩
            · refine W.n (gn rfl rfl rfl b198) (W.n (gn rfl rfl rfl b198) (W.n (gn rfl rfl rfl b198) (sv (pfk (.bool false) rfl b198 rfl) (sv (asv (.bool false) rfl) (W.e ?_)))))
              obtain rfl := Option.some.inj h196
              exact ⟨_, C, ⟨rfl, trivial⟩⟩
          · refine W.n (gn rfl rfl rfl b197) (W.n (gn rfl rfl rfl b197) (sv (pfk (.bool false) rfl b197 rfl) (sv (mvv (.bool false) rfl) (W.n (gn rfl rfl rfl rfl) (W.n (gn rfl rfl rfl rfl) (W.n (gn rfl rfl rfl rfl) (sv (pfk (.bool false) rfl rfl rfl) (sv (asv (.bool false) rfl) (W.e ?_)))))))))
            obtain rfl := Option.some.inj h196
            exact ⟨_, C, ⟨rfl, trivial⟩⟩
        · rintro ρ w200 ⟨S199, C, h201⟩
          refine h201.cw fun ρ => ?_
          clear h201
          refine cw_ret ?_
          obtain rfl := Option.some.inj h
          exact ⟨_, rfl, _, rfl, C⟩
      · refine cw_f rfl b192 (cw_skip (k177 _ _ ?_))
        refine cw_seq fun K202 k203 => ?_
        refine cw_region (sv (asv (.slice none 0 0) rfl) (W.e (k203 _ _ ?_)))
        obtain ⟨o204, h207, h⟩ := bnd_some h
        refine cw_seq' (fun ρ w1 => ∃ S1 v301, Cx No S w S1 w1 ∧ Has ρ [(5, .bool y5), (9, v173), (10, .int .i64 y168.2), (11, v301)] ∧ Ow (kI .i64) 3 S1 w.heap.size w1 v173 y168.1 ∧ Ow (kI .i64) 3 S1 w.heap.size w1 v301 o204 ∧ Ap v173 v301) ?_ ?_
        · refine cw_seq fun K208 k209 => ?_
          refine cw_region (sv (mvv (.int .i64 0) rfl) (W.e (k209 _ _ (cw_block ?_))))
          refine cw_iter h207 (fun s ρ w1 => ∃ S1 v213, Cx No S w S1 w1 ∧ Has ρ [(1, v1), (5, .bool y5), (6, v17), (9, v173), (10, .int .i64 y168.2), (11, v213), (61, .int .i64 s.2)] ∧ Sl (kSl api_Ask.k) S1 w1 v1 a1 ∧ Ow (kI .i64) 3 S1 w.heap.size w1 v173 y168.1 ∧ Ow (kI .i64) 3 S1 w.heap.size w1 v213 s.1 ∧ Obo 72 index_Index.fs S1 w1 v17 o30 cs157 fp155 ∧ Ap v173 v213 ∧ (∀ b, Blk v173 b → ¬ b ∈ fp155) ∧ (∀ b, Blk v213 b → ¬ b ∈ fp155)) ⟨_, _, C, ⟨rfl, rfl, rfl, rfl, rfl, rfl, rfl, trivial⟩, h1, h174, Ow.nil _ _ _ _ _, h154, (ap_symm ap_nil), p175, ap_nil⟩ ?_
          rintro ⟨x219, x220⟩ q210 ρ w212 ⟨S211, v213, C, h218, h1, h174, h214, h154, p215, p216, p217⟩ h222 h221
          refine h218.cw fun ρ => ?_
          clear h218
          replace h222 : marigraphlaw08_IndexFinds.b6 a1 o30 x219 x220 = some q210 := h222
          unfold marigraphlaw08_IndexFinds.b6 at h222
          refine cw_seq fun K223 k224 => ?_
          refine cw_region (sv (rv_lss rfl rfl) (W.e (k224 _ _ ?_)))
          refine cw_seq fun K225 k226 => ?_
          rcases bif_some h222 with ⟨b227, h222⟩ | ⟨b227, h222⟩
          · refine cw_t rfl b227 (cw_skip (k226 _ _ ?_))
            obtain ⟨o228, h231, h222⟩ := bnd_some h222
            refine cw_seq' (fun ρ w1 => ∃ S1 v290, Cx No S w S1 w1 ∧ Has ρ [(1, v1), (5, .bool y5), (6, v17), (9, v173), (10, .int .i64 y168.2), (11, v290), (61, .int .i64 x220)] ∧ Sl (kSl api_Ask.k) S1 w1 v1 a1 ∧ Ow (kI .i64) 3 S1 w.heap.size w1 v173 y168.1 ∧ Ow (kI .i64) 3 S1 w.heap.size w1 v290 o228 ∧ Obo 72 index_Index.fs S1 w1 v17 o30 cs157 fp155 ∧ Ap v173 v290 ∧ (∀ b, Blk v173 b → ¬ b ∈ fp155) ∧ (∀ b, Blk v290 b → ¬ b ∈ fp155)) ?_ ?_
            · refine cw_block ?_
              refine cw_seq fun K232 k233 => ?_
              refine cw_region (sv (mvv (.int .i64 x220) rfl) (sv (asv (.int .i64 x220) rfl) (W.e (k233 _ _ ?_))))
              refine cw_seq fun K234 k235 => ?_
              refine cw_region (sv (mvv v17 rfl) (sv (mvv (.int .i64 x220) rfl) ?_))
              obtain ⟨y236, h237, h231⟩ := bnd_some h231
              refine sc (dc_call (vs := [v17, .int .i64 x220]) can19 rfl ?_)
              refine (index_Index_Labels_w C.sb h154 h237).mono ?_
              rintro _ w238 ⟨S239, v241, rfl, c240, h242⟩
              refine ⟨_, rfl, ?_⟩
              have p243 := ap_fresh (fun b hb => (h242.lt b hb).1) (fun b hb => (h154.lt b hb).1)
              have p244 := ap_fresh (fun b hb => (h242.lt b hb).1) (fun b hb => (h174.lt b hb).2)
              have p245 := ap_fresh (fun b hb => (h242.lt b hb).1) (fun b hb => (h214.lt b hb).2)
              replace h242 := h242.base C.up.size
              replace h1 := h1.cx c240
              replace h154 := h154.cx c240
              replace h174 := h174.cx c240
              replace h214 := h214.cx c240
              replace C := C.trans c240
              refine sv (mvv (.tuple (List.toArray [v241, .bool y236.2])) rfl) (sv (rv_extract rfl rfl) (sv (rv_extract rfl rfl) (sv (asv v241 rfl) (sv (asv (.bool y236.2) rfl) (W.e (k235 _ _ ?_))))))
              obtain ⟨o246, h249, h231⟩ := bnd_some h231
              refine cw_seq' (fun ρ w1 => ∃ S1, Cx No S w S1 w1 ∧ Has ρ [(1, v1), (5, .bool y5), (6, v17), (9, v173), (10, .int .i64 y168.2), (11, v213), (12, .int .i64 x220), (61, .int .i64 x220), (76, .bool o246)] ∧ Sl (kSl api_Ask.k) S1 w1 v1 a1 ∧ Ow (kI .i64) 3 S1 w.heap.size w1 v173 y168.1 ∧ Ow (kI .i64) 3 S1 w.heap.size w1 v213 x219 ∧ Obo 72 index_Index.fs S1 w1 v17 o30 cs157 fp155 ∧ Ap v173 v213 ∧ (∀ b, Blk v173 b → ¬ b ∈ fp155) ∧ (∀ b, Blk v213 b → ¬ b ∈ fp155)) ?_ ?_
              · refine cw_region (sv (mvv (.bool y236.2) rfl) (sv (mvv (.bool y236.2) rfl) ?_))
                rcases bif_some h249 with ⟨b250, h249⟩ | ⟨b250, h249⟩
                · refine W.v (gy rfl rfl rfl b250) (mvv v1 rfl) ?_
                  obtain ⟨y251, h252, h249⟩ := bnd_some h249
                  refine W.c (gy rfl rfl rfl b250) (dc_call (vs := [v1]) can17 rfl ?_)
                  refine (marigraphlaw08_some_w C.sb h1 h252).mono ?_
                  rintro _ w253 ⟨S254, v256, rfl, c255, h257⟩
                  refine ⟨_, rfl, ?_⟩
                  replace h1 := h1.cx c255
                  replace h154 := h154.cx c255
                  replace h174 := h174.cx c255
                  replace h214 := h214.cx c255
                  replace h242 := h242.cx c255
                  replace C := C.trans c255
                  refine W.v (gy rfl rfl rfl b250) (mvv v241 rfl) ?_
                  replace h1 := h1.or (T := Blk v241)
                  replace h154 := h154.or (ap_symm p243)
                  replace h174 := h174.or (ap_symm p244)
                  replace h214 := h214.or (ap_symm p245)
                  replace h257 := h257.or (T := Blk v241)
                  replace C := C.sealO h242
                  replace h242 := h242.sealed
                  obtain ⟨y258, h259, h249⟩ := bnd_some h249
                  refine W.c (gy rfl rfl rfl b250) (dc_call (vs := [v256, v241]) can20 rfl ?_)
                  refine (marigraphref07_All_w C.sb h257 h242 h259).mono ?_
                  rintro _ w260 ⟨S261, rfl, c262⟩
                  refine ⟨_, rfl, ?_⟩
                  replace h1 := h1.cx c262
                  replace h154 := h154.cx c262
                  replace h174 := h174.cx c262
                  replace h214 := h214.cx c262
                  replace C := C.trans c262
                  refine sv (ptk (.bool y258) rfl b250 rfl) (W.e ?_)
                  obtain rfl := Option.some.inj h249
                  exact ⟨_, C, ⟨rfl, rfl, rfl, rfl, rfl, rfl, rfl, rfl, rfl, trivial⟩, h1, h174, h214, h154, p215, p216, p217⟩
                · refine W.n (gn rfl rfl rfl b250) (W.n (gn rfl rfl rfl b250) (W.n (gn rfl rfl rfl b250) (W.n (gn rfl rfl rfl b250) (sv (pfk (.bool false) rfl b250 rfl) (W.e ?_)))))
                  obtain rfl := Option.some.inj h249
                  exact ⟨_, C, ⟨rfl, rfl, rfl, rfl, rfl, rfl, rfl, rfl, rfl, trivial⟩, h1, h174, h214, h154, p215, p216, p217⟩
              · rintro ρ w264 ⟨S263, C, h268, h1, h174, h214, h154, p265, p266, p267⟩
                refine h268.cw fun ρ => ?_
                clear h268
                rcases bif_some h231 with ⟨b269, h231⟩ | ⟨b269, h231⟩
                · refine cw_t rfl b269 (cw_region (sv (mvv v213 rfl) (sv (mvv (.int .i64 x220) rfl) ?_)))
                  refine sc (dc_lit (vs := [.int .i64 x220]) (xs := ([x220] : List Int)) (base := w.heap.size) el36 rfl rfl (.cons (sl_sc.2 rfl) (.nil)) (Nat.le_of_ble_eq_true rfl) C.up.size C.sb fun v270 w271 h272 h273 u274 => ?_)
                  have p275 := ap_fresh h273 (fun b hb => (h154.lt b hb).1)
                  have p276 := ap_fresh h273 (fun b hb => (h174.lt b hb).2)
                  have p277 := ap_fresh h273 (fun b hb => (h214.lt b hb).2)
                  replace h1 := h1.nw u274
                  replace h154 := h154.nw u274
                  replace h174 := h174.nw u274
                  replace h214 := h214.nw u274
                  replace C := C.new u274
                  obtain ⟨y278, h279, h231⟩ := bnd_some h231
                  have h285 := h214
                  refine sc (dc_append el36 (by decide) h285 h272.src rfl rfl h279 C.up.size C.sb fun v280 w281 h282 u283 h284 => ?_)
                  have p286 := ap_grow p267 h284 (fun b hb => (h154.lt b hb).1)
                  have p287 := ap_grow (ap_symm p265) h284 (fun b hb => (h174.lt b hb).2)
                  replace h1 := h1.wr u283 h285.not
                  replace h154 := h154.wr u283 h285.not (ap_symm p267)
                  replace h174 := h174.wr u283 h285.not p265
                  replace C := C.ow h285 u283
                  refine sv (asv v280 rfl) (W.e ?_)
                  obtain rfl := Option.some.inj h231
                  exact ⟨_, _, C, ⟨rfl, rfl, rfl, rfl, rfl, rfl, rfl, trivial⟩, h1, h174, h282, h154, (ap_symm p287), p266, p286⟩
                · refine cw_f rfl b269 (cw_skip ?_)
                  obtain rfl := Option.some.inj h231
                  exact ⟨_, _, C, ⟨rfl, rfl, rfl, rfl, rfl, rfl, rfl, trivial⟩, h1, h174, h214, h154, p265, p266, p267⟩
            · rintro ρ w289 ⟨S288, v290, C, h295, h1, h174, h291, h154, p292, p293, p294⟩
              refine h295.cw fun ρ => ?_
              clear h295
              refine cw_region ?_
              obtain ⟨y296, h297, h222⟩ := pur_some h222
              refine sv (rv_add rfl rfl h297) (sv (mvv (.int .i64 y296) rfl) (W.e ?_))
              obtain rfl := Option.some.inj h222
              exact ⟨_, rfl, ⟨_, _, C, ⟨rfl, rfl, rfl, rfl, rfl, rfl, rfl, trivial⟩, h1, h174, h291, h154, p292, p293, p294⟩⟩
          · refine cw_f rfl b227 (cw_exit ?_)
            obtain rfl := Option.some.inj h222
            have h298 := congrArg some h221
            obtain rfl := Option.some.inj h298
            exact ⟨_, _, C, ⟨rfl, rfl, rfl, rfl, trivial⟩, h174, h214, p215⟩
        · rintro ρ w300 ⟨S299, v301, C, h304, h174, h302, p303⟩
          refine h304.cw fun ρ => ?_
          clear h304
          obtain ⟨o305, h308, h⟩ := bnd_some h
          refine cw_seq' (fun ρ w1 => ∃ S1, Cx No S w S1 w1 ∧ Has ρ [(4, .bool o305)]) ?_ ?_
          · refine cw_region (sv (mvv (.bool y5) rfl) (sv (mvv (.bool y5) rfl) ?_))
            rcases bif_some h308 with ⟨b309, h308⟩ | ⟨b309, h308⟩
            · refine W.v (gy rfl rfl rfl b309) (mvv (.int .i64 y168.2) rfl) (W.v (gy rfl rfl rfl b309) (rv_eql rfl rfl) (sv (ptk (.bool (y168.2 == (0 : Int))) rfl b309 rfl) (sv (mvv (.bool (y168.2 == (0 : Int))) rfl) ?_)))
              rcases bif_some h308 with ⟨b310, h308⟩ | ⟨b310, h308⟩
              · refine W.v (gy rfl rfl rfl b310) (mvv v173 rfl) (W.v (gy rfl rfl rfl b310) (mvv v301 rfl) ?_)
                replace h302 := h302.or (ap_symm p303)
                replace C := C.sealO h174
                replace h174 := h174.sealed
                replace h174 := h174.or (T := Blk v301)
                replace C := C.sealO h302
                replace h302 := h302.sealed
                obtain ⟨y311, h312, h308⟩ := bnd_some h308
                refine W.c (gy rfl rfl rfl b310) (dc_call (vs := [v173, v301]) can21 rfl ?_)
                refine (marigraphref04_Ints_w C.sb h174 h302 h312).mono ?_
                rintro _ w313 ⟨S314, rfl, c315⟩
                refine ⟨_, rfl, ?_⟩
                replace C := C.trans c315
                refine sv (ptk (.bool y311) rfl b310 rfl) (sv (asv (.bool y311) rfl) (W.e ?_))
                obtain rfl := Option.some.inj h308
                exact ⟨_, C, ⟨rfl, trivial⟩⟩
              · refine W.n (gn rfl rfl rfl b310) (W.n (gn rfl rfl rfl b310) (W.n (gn rfl rfl rfl b310) (sv (pfk (.bool false) rfl b310 rfl) (sv (asv (.bool false) rfl) (W.e ?_)))))
                obtain rfl := Option.some.inj h308
                exact ⟨_, C, ⟨rfl, trivial⟩⟩
            · refine W.n (gn rfl rfl rfl b309) (W.n (gn rfl rfl rfl b309) (sv (pfk (.bool false) rfl b309 rfl) (sv (mvv (.bool false) rfl) (W.n (gn rfl rfl rfl rfl) (W.n (gn rfl rfl rfl rfl) (W.n (gn rfl rfl rfl rfl) (sv (pfk (.bool false) rfl rfl rfl) (sv (asv (.bool false) rfl) (W.e ?_)))))))))
              obtain rfl := Option.some.inj h308
              exact ⟨_, C, ⟨rfl, trivial⟩⟩
          · rintro ρ w317 ⟨S316, C, h318⟩
            refine h318.cw fun ρ => ?_
            clear h318
            refine cw_ret ?_
            obtain rfl := Option.some.inj h
            exact ⟨_, rfl, _, rfl, C⟩

noncomputable def marigraphlaw08_IndexNot.b2 (y36 : (List marigraphlaw08_Act)) (x51 : Int) (x52 : Option index_Index) : Option ((Int × (Option index_Index)) ⊕ ((Option index_Index))) :=
  (bif (decide (x51 < (y36.length : Int))) then (((at_ y36 x51).bind fun y66 => (pur y66 fun y81 => (pur (Int.tmod y81.Kind (5 : Int)) fun y96 => (bif (y96 == (3 : Int)) then ((index_Index_Drop x52 y81.Id).bind fun y106 => some y106.2) else ((marigraphlaw08_few y81.L).bind fun y124 => ((index_Index_Add x52 y124).bind fun y131 => some y131.2.2)))))).bind fun o60 => (pur (IntKind.i64.wrap (x51 + (1 : Int))) fun y149 => some (.inl (y149, o60)))) else some (.inr x52))
noncomputable def marigraphlaw08_IndexNot (a0 : List marigraphlaw08_Act) (a1 : ByteArray) (a2 : ByteArray) : Option Bool :=
  ((marigraphlaw08_shown).bind fun y5 => ((index_New).bind fun y12 => (bif y12.isNone then some false else (((marigraphlaw08_acts a0).bind fun y36 => (iter (fun s : Int × (Option index_Index) => marigraphlaw08_IndexNot.b2 y36 s.1 s.2) ((0 : Int), y12))).bind fun o30 => (pur (if (60 : Int) < (a1.size : Int) then (60 : Int) else (a1.size : Int)) fun y163 => ((supto_ a1 y163).bind fun y165 => (pur (if (60 : Int) < (a2.size : Int) then (60 : Int) else (a2.size : Int)) fun y167 => ((supto_ a2 y167).bind fun y169 => ((index_Index_Find o30 ([(api_Ask.mk (1 : Int) y165 y169)] : List api_Ask)).bind fun y179 => ((index_Index_Find o30 ([(api_Ask.mk (2 : Int) y165 y169)] : List api_Ask)).bind fun y196 => ((index_Index_Find o30 ([(api_Ask.mk (1 : Int) y165 y169), (api_Ask.mk (2 : Int) y165 y169)] : List api_Ask)).bind fun y215 => ((index_Index_Find o30 ([] : List api_Ask)).bind fun y227 => (bif (y179.2 != (0 : Int)) then ((bif y5 then (bif ((y179.1.length : Int) == (0 : Int)) then some (y227.2 == (0 : Int)) else some false) else some false).bind fun o242 => some o242) else ((bif y5 then (bif (y196.2 == (0 : Int)) then (bif (y215.2 == (0 : Int)) then (bif (y227.2 == (0 : Int)) then (pur (IntKind.i64.wrap ((y179.1.length : Int) + (y196.1.length : Int))) fun y259 => (bif (y259 == (y227.1.length : Int)) then some ((y215.1.length : Int) == (0 : Int)) else some false)) else some false) else some false) else some false) else some false).bind fun o251 => some o251))))))))))))))
set_option maxRecDepth 100000 in
set_option maxHeartbeats 4000000 in
theorem marigraphlaw08_IndexNot_w {S : Nat → Prop} {w : World} {a0 : List marigraphlaw08_Act} {a1 : ByteArray} {a2 : ByteArray} {v0 : Value} {r : Bool} (hS : Sb S w) (h0 : Sl (kSl marigraphlaw08_Act.k) S w v0 a0) (h : marigraphlaw08_IndexNot a0 a1 a2 = some r) :
    Calls Try.prog 4 (List.toArray [v0, .string a1, .string a2]) w fun e w1 => ∃ S1, e = .returned (.bool r) ∧ Cx No S w S1 w1 := by
  refine enter Try.func4 rfl (by kernel_rfl) rfl ?_
  have C := Cx.refl (F := No) hS
  unfold marigraphlaw08_IndexNot at h
  refine cw_seq fun K1 k2 => ?_
  refine cw_region (sv (asv (.bool false) rfl) (W.e (k2 _ _ ?_)))
  refine cw_seq fun K3 k4 => ?_
  refine cw_region ?_
  obtain ⟨y5, h6, h⟩ := bnd_some h
  refine sc (dc_call (vs := []) can10 rfl ?_)
  refine (marigraphlaw08_shown_w C.sb  h6).mono ?_
  rintro _ w7 ⟨S8, rfl, c9⟩
  refine ⟨_, rfl, ?_⟩
  replace h0 := h0.cx c9
  replace C := C.trans c9
  refine sv (asv (.bool y5) rfl) (W.e (k4 _ _ ?_))
  refine cw_seq fun K10 k11 => ?_
  refine cw_region ?_
  obtain ⟨y12, h13, h⟩ := bnd_some h
  refine sc (dc_call (vs := []) can11 rfl ?_)
  refine (index_New_w C.sb  h13).mono ?_
  rintro _ w14 ⟨S15, v17, cs18, fp19, rfl, c16, h20, h21⟩
  refine ⟨_, rfl, ?_⟩
  have h22 : ∀ b, b ∈ fp19 → w.heap.size ≤ b := fun b hb => Nat.le_trans C.up.size (h21 b hb)
  replace h0 := h0.cx c16
  replace C := C.trans c16
  refine sv (asv v17 rfl) (W.e (k11 _ _ ?_))
  refine cw_seq fun K23 k24 => ?_
  refine cw_seq fun K25 k26 => ?_
  refine cw_region (sv (mvv v17 rfl) (sv (rv_nileq Try.underlying25 rfl rfl h20.ne) (W.e (k26 _ _ ?_))))
  rcases bif_some h with ⟨b27, h⟩ | ⟨b27, h⟩
  · refine cw_t rfl b27 ?_
    refine cw_seq fun K28 k29 => ?_
    refine cw_region (sv (asv (.bool false) rfl) (W.e (k29 _ _ (cw_ret ?_))))
    obtain rfl := Option.some.inj h
    exact ⟨_, rfl, _, rfl, C⟩
  · refine cw_f rfl b27 (cw_skip (k24 _ _ ?_))
    obtain ⟨o30, h33, h⟩ := bnd_some h
    refine cw_seq' (fun ρ w1 => ∃ S1 fp155 cs157, Cx No S w S1 w1 ∧ Has ρ [(1, .string a1), (2, .string a2), (7, .bool y5), (8, v17)] ∧ Obo 72 index_Index.fs S1 w1 v17 o30 cs157 fp155 ∧ (∀ b, b ∈ fp155 → w.heap.size ≤ b)) ?_ ?_
    · refine cw_seq fun K34 k35 => ?_
      refine cw_region (sv (mvv v0 rfl) ?_)
      obtain ⟨y36, h37, h33⟩ := bnd_some h33
      refine sc (dc_call (vs := [v0]) can12 rfl ?_)
      refine (marigraphlaw08_acts_w C.sb h0 h37).mono ?_
      rintro _ w38 ⟨S39, v41, rfl, c40, h42⟩
      refine ⟨_, rfl, ?_⟩
      replace h20 := h20.cx c40
      replace C := C.trans c40
      refine sv (rv_lenS el22 h42 rfl) (sv (mvv (.int .i64 0) rfl) (W.e (k35 _ _ (cw_block ?_))))
      refine cw_iter h33 (fun s ρ w1 => ∃ S1 fp47 cs49, Cx No S w S1 w1 ∧ Has ρ [(1, .string a1), (2, .string a2), (7, .bool y5), (8, v17), (26, v41), (27, .int .i64 (y36.length : Int)), (28, .int .i64 s.1)] ∧ Sl (kSl marigraphlaw08_Act.k) S1 w1 v41 y36 ∧ Obo 72 index_Index.fs S1 w1 v17 s.2 cs49 fp47 ∧ (∀ b, b ∈ fp47 → w.heap.size ≤ b)) ⟨_, _, _, C, ⟨rfl, rfl, rfl, rfl, rfl, rfl, rfl, trivial⟩, h42, h20, h22⟩ ?_
      rintro ⟨x51, x52⟩ q43 ρ w45 ⟨S44, fp47, cs49, C, h50, h42, h46, h48⟩ h54 h53
      refine h50.cw fun ρ => ?_
      clear h50
      replace h54 : marigraphlaw08_IndexNot.b2 y36 x51 x52 = some q43 := h54
      unfold marigraphlaw08_IndexNot.b2 at h54
      refine cw_seq fun K55 k56 => ?_
      refine cw_region (sv (rv_lss rfl rfl) (W.e (k56 _ _ ?_)))
      refine cw_seq fun K57 k58 => ?_
      rcases bif_some h54 with ⟨b59, h54⟩ | ⟨b59, h54⟩
      · refine cw_t rfl b59 (cw_skip (k58 _ _ ?_))
        obtain ⟨o60, h63, h54⟩ := bnd_some h54
        refine cw_seq' (fun ρ w1 => ∃ S1 fp145 cs147, Cx No S w S1 w1 ∧ Has ρ [(1, .string a1), (2, .string a2), (7, .bool y5), (8, v17), (26, v41), (27, .int .i64 (y36.length : Int)), (28, .int .i64 x51)] ∧ Sl (kSl marigraphlaw08_Act.k) S1 w1 v41 y36 ∧ Obo 72 index_Index.fs S1 w1 v17 o60 cs147 fp145 ∧ (∀ b, b ∈ fp145 → w.heap.size ≤ b)) ?_ ?_
        · refine cw_block ?_
          refine cw_seq fun K64 k65 => ?_
          refine cw_region ?_
          obtain ⟨y66, h67, h63⟩ := bnd_some h63
          refine sv (rv_index el22 h42 rfl rfl h67) ?_
          obtain ⟨v68, h69, h70⟩ := rw_loadA (P := Try.prog) el22 h42 h67
          obtain ⟨c71, c73, rfl, g72, g74⟩ := marigraphlaw08_Act.o.1 h69
          refine sr (h70 _ (Sm.refl _ _) rfl) ?_
          refine sc (dc_allocO (x0 := (marigraphlaw08_Act.mk (0 : Int) (0 : Int) ([] : List api_Label) ([] : List api_Ask))) (base := w.heap.size) el22 zr30 (fun _ => marigraphlaw08_Act.r.2 ⟨_, _, rfl, sl_nil _ _ _, sl_nil _ _ _⟩) C.up.size C.sb fun b75 w76 h77 h78 u79 => ?_)
          have p80 := ap_fresh h78 (fun b hb => (h46.lt b hb).1)
          replace h46 := h46.nw u79
          replace h42 := h42.nw u79
          replace g72 := g72.nw u79
          replace g74 := g74.nw u79
          replace C := C.new u79
          obtain ⟨y81, h82, h63⟩ := pur_some h63
          have h86 := h77
          refine sc (dc_storeO el22 h86 (show at_ [(marigraphlaw08_Act.mk (0 : Int) (0 : Int) ([] : List api_Label) ([] : List api_Ask))] (0 : Int) = some (marigraphlaw08_Act.mk (0 : Int) (0 : Int) ([] : List api_Label) ([] : List api_Ask)) from rfl) rfl rfl ((marigraphlaw08_Act.o.2 ⟨_, _, rfl, g72, g74⟩)) fun w83 h84 u85 => ?_)
          replace h84 : Ow marigraphlaw08_Act.k 30 S44 w.heap.size w83 (.slice (some ⟨b75, 0, none⟩) 1 1) [y66] := h84
          rw [h82] at h84
          replace h46 := h46.wr u85 h86.not (ap_symm p80)
          replace h42 := h42.wr u85 h86.not
          replace C := C.ow h86 u85
          refine W.e (k65 _ _ ?_)
          refine cw_seq fun K87 k88 => ?_
          refine cw_region (sv (rv_fieldAddr st30 rfl rfl) ?_)
          obtain ⟨cs89, h90, h91⟩ := Ow.cellsO h84 (show at_ [y81] (0 : Int) = some y81 from rfl)
          obtain ⟨c92, c94, rfl, g93, g95⟩ := marigraphlaw08_Act.r.1 h90
          refine sr (rw_el1 (off := 0) ag5 (h91 _ (Sm.refl _ _)) rfl rfl) ?_
          obtain ⟨y96, h97, h63⟩ := pur_some h63
          refine sv (rv_rem rfl rfl (by decide) h97) (sv (rv_eql rfl rfl) (W.e (k88 _ _ ?_)))
          rcases bif_some h63 with ⟨b98, h63⟩ | ⟨b98, h63⟩
          · refine cw_t rfl b98 (cw_region (sv (mvv v17 rfl) (sv (rv_fieldAddr st30 rfl rfl) ?_)))
            obtain ⟨cs99, h100, h101⟩ := Ow.cellsO h84 (show at_ [y81] (0 : Int) = some y81 from rfl)
            obtain ⟨c102, c104, rfl, g103, g105⟩ := marigraphlaw08_Act.r.1 h100
            refine sr (rw_el1 (off := 1) ag3 (h101 _ (Sm.refl _ _)) rfl rfl) ?_
            obtain ⟨y106, h107, h63⟩ := bnd_some h63
            refine sc (dc_call (vs := [v17, .int .i64 y81.Id]) can13 rfl ?_)
            refine (index_Index_Drop_w C.sb h46 h107).mono ?_
            rintro _ w108 ⟨S109, cs111, fp112, rfl, c110, h113, h114⟩
            refine ⟨_, rfl, ?_⟩
            have h115 : ∀ b, b ∈ fp47 → ¬ S44 b := fun b hb => (h46.lt b hb).2
            have h116 : ∀ b, b ∈ fp112 → w.heap.size ≤ b := fun b hb => (h114 b hb).elim (h48 b) (fun hl => Nat.le_trans C.up.size hl)
            replace h42 := h42.cf c110 h115
            replace C := C.ofc c110 (fun b hb => .inr (h48 b hb))
            refine W.e ?_
            obtain rfl := Option.some.inj h63
            exact ⟨_, _, _, C, ⟨rfl, rfl, rfl, rfl, rfl, rfl, rfl, trivial⟩, h42, h113, h116⟩
          · refine cw_f rfl b98 (cw_region (sv (mvv v17 rfl) (sv (rv_fieldAddr st30 rfl rfl) ?_)))
            obtain ⟨cs117, h118, h119⟩ := Ow.cellsO h84 (show at_ [y81] (0 : Int) = some y81 from rfl)
            obtain ⟨c120, c122, rfl, g121, g123⟩ := marigraphlaw08_Act.r.1 h118
            refine sr (rw_el1 (off := 2) ag28 (h119 _ (Sm.refl _ _)) rfl rfl) ?_
            obtain ⟨y124, h125, h63⟩ := bnd_some h63
            refine sc (dc_call (vs := [c120]) can15 rfl ?_)
            refine (marigraphlaw08_few_w C.sb g121 h125).mono ?_
            rintro _ w126 ⟨S127, v129, rfl, c128, h130⟩
            refine ⟨_, rfl, ?_⟩
            replace h46 := h46.cx c128
            replace h42 := h42.cx c128
            replace C := C.trans c128
            obtain ⟨y131, h132, h63⟩ := bnd_some h63
            refine sc (dc_call (vs := [v17, v129]) can14 rfl ?_)
            refine (index_Index_Add_w C.sb h46 h130 h132).mono ?_
            rintro _ w133 ⟨S134, cs136, fp137, rfl, c135, h138, h139⟩
            refine ⟨_, rfl, ?_⟩
            have h140 : ∀ b, b ∈ fp47 → ¬ S127 b := fun b hb => (h46.lt b hb).2
            have h141 : ∀ b, b ∈ fp137 → w.heap.size ≤ b := fun b hb => (h139 b hb).elim (h48 b) (fun hl => Nat.le_trans C.up.size hl)
            replace h42 := h42.cf c135 h140
            replace C := C.ofc c135 (fun b hb => .inr (h48 b hb))
            refine W.e ?_
            obtain rfl := Option.some.inj h63
            exact ⟨_, _, _, C, ⟨rfl, rfl, rfl, rfl, rfl, rfl, rfl, trivial⟩, h42, h138, h141⟩
        · rintro ρ w143 ⟨S142, fp145, cs147, C, h148, h42, h144, h146⟩
          refine h148.cw fun ρ => ?_
          clear h148
          refine cw_region ?_
          obtain ⟨y149, h150, h54⟩ := pur_some h54
          refine sv (rv_add rfl rfl h150) (sv (mvv (.int .i64 y149) rfl) (W.e ?_))
          obtain rfl := Option.some.inj h54
          exact ⟨_, rfl, ⟨_, _, _, C, ⟨rfl, rfl, rfl, rfl, rfl, rfl, rfl, trivial⟩, h42, h144, h146⟩⟩
      · refine cw_f rfl b59 (cw_exit ?_)
        obtain rfl := Option.some.inj h54
        have h151 := congrArg some h53
        obtain rfl := Option.some.inj h151
        exact ⟨_, _, _, C, ⟨rfl, rfl, rfl, rfl, trivial⟩, h46, h48⟩
    · rintro ρ w153 ⟨S152, fp155, cs157, C, h158, h154, h156⟩
      refine h158.cw fun ρ => ?_
      clear h158
      refine cw_seq fun K159 k160 => ?_
      refine cw_drawU (.one 0 true (.one 1 true (.one 2 true (.one 3 true (.one 4 true (.one 5 true (.one 6 true (.one 7 true (.one 8 true (.one 9 true (.one 10 true (.one 11 true .done)))))))))))) [] [] (fun c => No) fol (by kernel_rfl) fun w161 u162 => ?_
      replace h154 := h154.nw u162
      replace C := C.new u162
      refine mtv rfl rfl (mvv (.string a1) rfl) (mtv rfl rfl (mvv (.string a1) rfl) (mtv rfl rfl (rv_slen Try.underlying9 rfl) ?_))
      obtain ⟨y163, h164, h⟩ := pur_some h
      refine mtv rfl rfl (rv_min rfl rfl h164) ?_
      obtain ⟨y165, h166, h⟩ := bnd_some h
      refine mtv rfl rfl (rv_supto Try.underlying9 rfl rfl h166) (mtv rfl rfl (mvv (.string a2) rfl) (mtv rfl rfl (mvv (.string a2) rfl) (mtv rfl rfl (rv_slen Try.underlying9 rfl) ?_)))
      obtain ⟨y167, h168, h⟩ := pur_some h
      refine mtv rfl rfl (rv_min rfl rfl h168) ?_
      obtain ⟨y169, h170, h⟩ := bnd_some h
      refine mtv rfl rfl (rv_supto Try.underlying9 rfl rfl h170) (mtv rfl rfl (asv (.string y165) rfl) (mtv rfl rfl (asv (.string y169) rfl) (MT.e (k160 _ _ ?_))))
      refine cw_seq fun K171 k172 => ?_
      refine cw_region (sv (mvv v17 rfl) (sv (mvv (.string y165) rfl) (sv (mvv (.string y169) rfl) (sv (rv_build (r := [.int .u8 1, .string y165, .string y169]) st47 zr47 rfl) ?_))))
      refine sc (dc_lit (vs := [.agg (List.toArray [.int .u8 1, .string y165, .string y169])]) (xs := ([(api_Ask.mk (1 : Int) y165 y169)] : List api_Ask)) (base := w.heap.size) el23 rfl rfl (.cons ((api_Ask.o (x := (api_Ask.mk (1 : Int) y165 y169))).2 rfl) (.nil)) (Nat.le_of_ble_eq_true rfl) C.up.size C.sb fun v173 w174 h175 h176 u177 => ?_)
      have p178 := ap_fresh h176 (fun b hb => (h154.lt b hb).1)
      replace h154 := h154.nw u177
      replace C := C.new u177
      replace h154 := h154.or (ap_symm p178)
      replace C := C.sealO h175
      replace h175 := h175.sealed
      obtain ⟨y179, h180, h⟩ := bnd_some h
      refine sc (dc_call (vs := [v17, v173]) can16 rfl ?_)
      refine (index_Index_Find_w C.sb h154 h175 h180).mono ?_
      rintro _ w181 ⟨S182, v184, rfl, c183, h185⟩
      refine ⟨_, rfl, ?_⟩
      have p186 := ap_fresh (fun b hb => (h185.lt b hb).1) (fun b hb => (h154.lt b hb).1)
      replace h185 := h185.base C.up.size
      replace h154 := h154.cx c183
      replace C := C.trans c183
      refine sv (mvv (.tuple (List.toArray [v184, .int .i64 y179.2])) rfl) (sv (rv_extract rfl rfl) (sv (rv_extract rfl rfl) (sv (asv v184 rfl) (sv (asv (.int .i64 y179.2) rfl) (W.e (k172 _ _ ?_))))))
      refine cw_seq fun K187 k188 => ?_
      refine cw_region (sv (mvv v17 rfl) (sv (mvv (.string y165) rfl) (sv (mvv (.string y169) rfl) (sv (rv_build (r := [.int .u8 2, .string y165, .string y169]) st47 zr47 rfl) ?_))))
      refine sc (dc_lit (vs := [.agg (List.toArray [.int .u8 2, .string y165, .string y169])]) (xs := ([(api_Ask.mk (2 : Int) y165 y169)] : List api_Ask)) (base := w.heap.size) el23 rfl rfl (.cons ((api_Ask.o (x := (api_Ask.mk (2 : Int) y165 y169))).2 rfl) (.nil)) (Nat.le_of_ble_eq_true rfl) C.up.size C.sb fun v189 w190 h191 h192 u193 => ?_)
      have p194 := ap_fresh h192 (fun b hb => (h154.lt b hb).1)
      have p195 := ap_fresh h192 (fun b hb => (h185.lt b hb).2)
      replace h154 := h154.nw u193
      replace h185 := h185.nw u193
      replace C := C.new u193
      replace h154 := h154.or (ap_symm p194)
      replace h185 := h185.or (ap_symm p195)
      replace C := C.sealO h191
      replace h191 := h191.sealed
      obtain ⟨y196, h197, h⟩ := bnd_some h
      refine sc (dc_call (vs := [v17, v189]) can16 rfl ?_)
      refine (index_Index_Find_w C.sb h154 h191 h197).mono ?_
      rintro _ w198 ⟨S199, v201, rfl, c200, h202⟩
      refine ⟨_, rfl, ?_⟩
      have p203 := ap_fresh (fun b hb => (h202.lt b hb).1) (fun b hb => (h154.lt b hb).1)
      have p204 := ap_fresh (fun b hb => (h202.lt b hb).1) (fun b hb => (h185.lt b hb).2)
      replace h202 := h202.base C.up.size
      replace h154 := h154.cx c200
      replace h185 := h185.cx c200
      replace C := C.trans c200
      refine sv (mvv (.tuple (List.toArray [v201, .int .i64 y196.2])) rfl) (sv (rv_extract rfl rfl) (sv (rv_extract rfl rfl) (sv (asv v201 rfl) (sv (asv (.int .i64 y196.2) rfl) (W.e (k188 _ _ ?_))))))
      refine cw_seq fun K205 k206 => ?_
      refine cw_region (sv (mvv v17 rfl) (sv (mvv (.string y165) rfl) (sv (mvv (.string y169) rfl) (sv (rv_build (r := [.int .u8 1, .string y165, .string y169]) st47 zr47 rfl) (sv (mvv (.string y165) rfl) (sv (mvv (.string y169) rfl) (sv (rv_build (r := [.int .u8 2, .string y165, .string y169]) st47 zr47 rfl) ?_)))))))
      refine sc (dc_lit (vs := [.agg (List.toArray [.int .u8 1, .string y165, .string y169]), .agg (List.toArray [.int .u8 2, .string y165, .string y169])]) (xs := ([(api_Ask.mk (1 : Int) y165 y169), (api_Ask.mk (2 : Int) y165 y169)] : List api_Ask)) (base := w.heap.size) el23 rfl rfl (.cons ((api_Ask.o (x := (api_Ask.mk (1 : Int) y165 y169))).2 rfl) (.cons ((api_Ask.o (x := (api_Ask.mk (2 : Int) y165 y169))).2 rfl) (.nil))) (Nat.le_of_ble_eq_true rfl) C.up.size C.sb fun v207 w208 h209 h210 u211 => ?_)
      have p212 := ap_fresh h210 (fun b hb => (h154.lt b hb).1)
      have p213 := ap_fresh h210 (fun b hb => (h185.lt b hb).2)
      have p214 := ap_fresh h210 (fun b hb => (h202.lt b hb).2)
      replace h154 := h154.nw u211
      replace h185 := h185.nw u211
      replace h202 := h202.nw u211
      replace C := C.new u211
      replace h154 := h154.or (ap_symm p212)
      replace h185 := h185.or (ap_symm p213)
      replace h202 := h202.or (ap_symm p214)
      replace C := C.sealO h209
      replace h209 := h209.sealed
      obtain ⟨y215, h216, h⟩ := bnd_some h
      refine sc (dc_call (vs := [v17, v207]) can16 rfl ?_)
      refine (index_Index_Find_w C.sb h154 h209 h216).mono ?_
      rintro _ w217 ⟨S218, v220, rfl, c219, h221⟩
      refine ⟨_, rfl, ?_⟩
      have p222 := ap_fresh (fun b hb => (h221.lt b hb).1) (fun b hb => (h154.lt b hb).1)
      have p223 := ap_fresh (fun b hb => (h221.lt b hb).1) (fun b hb => (h185.lt b hb).2)
      have p224 := ap_fresh (fun b hb => (h221.lt b hb).1) (fun b hb => (h202.lt b hb).2)
      replace h221 := h221.base C.up.size
      replace h154 := h154.cx c219
      replace h185 := h185.cx c219
      replace h202 := h202.cx c219
      replace C := C.trans c219
      refine sv (mvv (.tuple (List.toArray [v220, .int .i64 y215.2])) rfl) (sv (rv_extract rfl rfl) (sv (rv_extract rfl rfl) (sv (asv v220 rfl) (sv (asv (.int .i64 y215.2) rfl) (W.e (k206 _ _ ?_))))))
      refine cw_seq fun K225 k226 => ?_
      refine cw_region (sv (mvv v17 rfl) ?_)
      obtain ⟨y227, h228, h⟩ := bnd_some h
      refine sc (dc_call (vs := [v17, .slice none 0 0]) can16 rfl ?_)
      refine (index_Index_Find_w C.sb h154 (sl_nil _ _ _) h228).mono ?_
      rintro _ w229 ⟨S230, v232, rfl, c231, h233⟩
      refine ⟨_, rfl, ?_⟩
      have p234 := ap_fresh (fun b hb => (h233.lt b hb).1) (fun b hb => (h185.lt b hb).2)
      have p235 := ap_fresh (fun b hb => (h233.lt b hb).1) (fun b hb => (h202.lt b hb).2)
      have p236 := ap_fresh (fun b hb => (h233.lt b hb).1) (fun b hb => (h221.lt b hb).2)
      replace h233 := h233.base C.up.size
      replace h185 := h185.cx c231
      replace h202 := h202.cx c231
      replace h221 := h221.cx c231
      replace C := C.trans c231
      refine sv (mvv (.tuple (List.toArray [v232, .int .i64 y227.2])) rfl) (sv (rv_extract rfl rfl) (sv (rv_extract rfl rfl) (sv (asv v232 rfl) (sv (asv (.int .i64 y227.2) rfl) (W.e (k226 _ _ ?_))))))
      refine cw_seq fun K237 k238 => ?_
      refine cw_seq fun K239 k240 => ?_
      refine cw_region (sv (mvv (.int .i64 y179.2) rfl) (sv (rv_neq rfl rfl) (W.e (k240 _ _ ?_))))
      rcases bif_some h with ⟨b241, h⟩ | ⟨b241, h⟩
      · refine cw_t rfl b241 ?_
        obtain ⟨o242, h245, h⟩ := bnd_some h
        refine cw_seq' (fun ρ w1 => ∃ S1, Cx No S w S1 w1 ∧ Has ρ [(6, .bool o242)]) ?_ ?_
        · refine cw_region (sv (mvv (.bool y5) rfl) (sv (mvv (.bool y5) rfl) ?_))
          rcases bif_some h245 with ⟨b246, h245⟩ | ⟨b246, h245⟩
          · refine W.v (gy rfl rfl rfl b246) (mvv v184 rfl) (W.v (gy rfl rfl rfl b246) (rv_lenS el36 h185.sealed rfl) (W.v (gy rfl rfl rfl b246) (rv_eql rfl rfl) (sv (ptk (.bool ((y179.1.length : Int) == (0 : Int))) rfl b246 rfl) (sv (mvv (.bool ((y179.1.length : Int) == (0 : Int))) rfl) ?_))))
            rcases bif_some h245 with ⟨b247, h245⟩ | ⟨b247, h245⟩
            · refine W.v (gy rfl rfl rfl b247) (mvv (.int .i64 y227.2) rfl) (W.v (gy rfl rfl rfl b247) (rv_eql rfl rfl) (sv (ptk (.bool (y227.2 == (0 : Int))) rfl b247 rfl) (sv (asv (.bool (y227.2 == (0 : Int))) rfl) (W.e ?_))))
              obtain rfl := Option.some.inj h245
              exact ⟨_, C, ⟨rfl, trivial⟩⟩
            · refine W.n (gn rfl rfl rfl b247) (W.n (gn rfl rfl rfl b247) (sv (pfk (.bool false) rfl b247 rfl) (sv (asv (.bool false) rfl) (W.e ?_))))
              obtain rfl := Option.some.inj h245
              exact ⟨_, C, ⟨rfl, trivial⟩⟩
          · refine W.n (gn rfl rfl rfl b246) (W.n (gn rfl rfl rfl b246) (W.n (gn rfl rfl rfl b246) (sv (pfk (.bool false) rfl b246 rfl) (sv (mvv (.bool false) rfl) (W.n (gn rfl rfl rfl rfl) (W.n (gn rfl rfl rfl rfl) (sv (pfk (.bool false) rfl rfl rfl) (sv (asv (.bool false) rfl) (W.e ?_)))))))))
            obtain rfl := Option.some.inj h245
            exact ⟨_, C, ⟨rfl, trivial⟩⟩
        · rintro ρ w249 ⟨S248, C, h250⟩
          refine h250.cw fun ρ => ?_
          clear h250
          refine cw_ret ?_
          obtain rfl := Option.some.inj h
          exact ⟨_, rfl, _, rfl, C⟩
      · refine cw_f rfl b241 (cw_skip (k238 _ _ ?_))
        obtain ⟨o251, h254, h⟩ := bnd_some h
        refine cw_seq' (fun ρ w1 => ∃ S1, Cx No S w S1 w1 ∧ Has ρ [(6, .bool o251)]) ?_ ?_
        · refine cw_region (sv (mvv (.bool y5) rfl) (sv (mvv (.bool y5) rfl) ?_))
          rcases bif_some h254 with ⟨b255, h254⟩ | ⟨b255, h254⟩
          · refine W.v (gy rfl rfl rfl b255) (mvv (.int .i64 y196.2) rfl) (W.v (gy rfl rfl rfl b255) (rv_eql rfl rfl) (sv (ptk (.bool (y196.2 == (0 : Int))) rfl b255 rfl) (sv (mvv (.bool (y196.2 == (0 : Int))) rfl) ?_)))
            rcases bif_some h254 with ⟨b256, h254⟩ | ⟨b256, h254⟩
            · refine W.v (gy rfl rfl rfl b256) (mvv (.int .i64 y215.2) rfl) (W.v (gy rfl rfl rfl b256) (rv_eql rfl rfl) (sv (ptk (.bool (y215.2 == (0 : Int))) rfl b256 rfl) (sv (mvv (.bool (y215.2 == (0 : Int))) rfl) ?_)))
              rcases bif_some h254 with ⟨b257, h254⟩ | ⟨b257, h254⟩
              · refine W.v (gy rfl rfl rfl b257) (mvv (.int .i64 y227.2) rfl) (W.v (gy rfl rfl rfl b257) (rv_eql rfl rfl) (sv (ptk (.bool (y227.2 == (0 : Int))) rfl b257 rfl) (sv (mvv (.bool (y227.2 == (0 : Int))) rfl) ?_)))
                rcases bif_some h254 with ⟨b258, h254⟩ | ⟨b258, h254⟩
                · refine W.v (gy rfl rfl rfl b258) (mvv v184 rfl) (W.v (gy rfl rfl rfl b258) (rv_lenS el36 h185.sealed rfl) (W.v (gy rfl rfl rfl b258) (mvv v201 rfl) (W.v (gy rfl rfl rfl b258) (rv_lenS el36 h202.sealed rfl) ?_)))
                  obtain ⟨y259, h260, h254⟩ := pur_some h254
                  refine W.v (gy rfl rfl rfl b258) (rv_add rfl rfl h260) (W.v (gy rfl rfl rfl b258) (mvv v232 rfl) (W.v (gy rfl rfl rfl b258) (rv_lenS el36 h233.sealed rfl) (W.v (gy rfl rfl rfl b258) (rv_eql rfl rfl) (sv (ptk (.bool (y259 == (y227.1.length : Int))) rfl b258 rfl) (sv (mvv (.bool (y259 == (y227.1.length : Int))) rfl) ?_)))))
                  rcases bif_some h254 with ⟨b261, h254⟩ | ⟨b261, h254⟩
                  · refine W.v (gy rfl rfl rfl b261) (mvv v220 rfl) (W.v (gy rfl rfl rfl b261) (rv_lenS el36 h221.sealed rfl) (W.v (gy rfl rfl rfl b261) (rv_eql rfl rfl) (sv (ptk (.bool ((y215.1.length : Int) == (0 : Int))) rfl b261 rfl) (sv (asv (.bool ((y215.1.length : Int) == (0 : Int))) rfl) (W.e ?_)))))
                    obtain rfl := Option.some.inj h254
                    exact ⟨_, C, ⟨rfl, trivial⟩⟩
                  · refine W.n (gn rfl rfl rfl b261) (W.n (gn rfl rfl rfl b261) (W.n (gn rfl rfl rfl b261) (sv (pfk (.bool false) rfl b261 rfl) (sv (asv (.bool false) rfl) (W.e ?_)))))
                    obtain rfl := Option.some.inj h254
                    exact ⟨_, C, ⟨rfl, trivial⟩⟩
                · refine W.n (gn rfl rfl rfl b258) (W.n (gn rfl rfl rfl b258) (W.n (gn rfl rfl rfl b258) (W.n (gn rfl rfl rfl b258) (W.n (gn rfl rfl rfl b258) (W.n (gn rfl rfl rfl b258) (W.n (gn rfl rfl rfl b258) (W.n (gn rfl rfl rfl b258) (sv (pfk (.bool false) rfl b258 rfl) (sv (mvv (.bool false) rfl) (W.n (gn rfl rfl rfl rfl) (W.n (gn rfl rfl rfl rfl) ?_)))))))))))
                  refine W.n (gn rfl rfl rfl rfl) (sv (pfk (.bool false) rfl rfl rfl) (sv (asv (.bool false) rfl) (W.e ?_)))
                  obtain rfl := Option.some.inj h254
                  exact ⟨_, C, ⟨rfl, trivial⟩⟩
              · refine W.n (gn rfl rfl rfl b257) (W.n (gn rfl rfl rfl b257) (sv (pfk (.bool false) rfl b257 rfl) (sv (mvv (.bool false) rfl) (W.n (gn rfl rfl rfl rfl) (W.n (gn rfl rfl rfl rfl) (W.n (gn rfl rfl rfl rfl) (W.n (gn rfl rfl rfl rfl) (W.n (gn rfl rfl rfl rfl) (W.n (gn rfl rfl rfl rfl) (W.n (gn rfl rfl rfl rfl) (W.n (gn rfl rfl rfl rfl) ?_)))))))))))
                refine sv (pfk (.bool false) rfl rfl rfl) (sv (mvv (.bool false) rfl) (W.n (gn rfl rfl rfl rfl) (W.n (gn rfl rfl rfl rfl) (W.n (gn rfl rfl rfl rfl) (sv (pfk (.bool false) rfl rfl rfl) (sv (asv (.bool false) rfl) (W.e ?_)))))))
                obtain rfl := Option.some.inj h254
                exact ⟨_, C, ⟨rfl, trivial⟩⟩
            · refine W.n (gn rfl rfl rfl b256) (W.n (gn rfl rfl rfl b256) (sv (pfk (.bool false) rfl b256 rfl) (sv (mvv (.bool false) rfl) (W.n (gn rfl rfl rfl rfl) (W.n (gn rfl rfl rfl rfl) (sv (pfk (.bool false) rfl rfl rfl) (sv (mvv (.bool false) rfl) (W.n (gn rfl rfl rfl rfl) (W.n (gn rfl rfl rfl rfl) (W.n (gn rfl rfl rfl rfl) (W.n (gn rfl rfl rfl rfl) ?_)))))))))))
              refine W.n (gn rfl rfl rfl rfl) (W.n (gn rfl rfl rfl rfl) (W.n (gn rfl rfl rfl rfl) (W.n (gn rfl rfl rfl rfl) (sv (pfk (.bool false) rfl rfl rfl) (sv (mvv (.bool false) rfl) (W.n (gn rfl rfl rfl rfl) (W.n (gn rfl rfl rfl rfl) (W.n (gn rfl rfl rfl rfl) (sv (pfk (.bool false) rfl rfl rfl) (sv (asv (.bool false) rfl) (W.e ?_)))))))))))
              obtain rfl := Option.some.inj h254
              exact ⟨_, C, ⟨rfl, trivial⟩⟩
          · refine W.n (gn rfl rfl rfl b255) (W.n (gn rfl rfl rfl b255) (sv (pfk (.bool false) rfl b255 rfl) (sv (mvv (.bool false) rfl) (W.n (gn rfl rfl rfl rfl) (W.n (gn rfl rfl rfl rfl) (sv (pfk (.bool false) rfl rfl rfl) (sv (mvv (.bool false) rfl) (W.n (gn rfl rfl rfl rfl) (W.n (gn rfl rfl rfl rfl) (sv (pfk (.bool false) rfl rfl rfl) (sv (mvv (.bool false) rfl) ?_)))))))))))
            refine W.n (gn rfl rfl rfl rfl) (W.n (gn rfl rfl rfl rfl) (W.n (gn rfl rfl rfl rfl) (W.n (gn rfl rfl rfl rfl) (W.n (gn rfl rfl rfl rfl) (W.n (gn rfl rfl rfl rfl) (W.n (gn rfl rfl rfl rfl) (W.n (gn rfl rfl rfl rfl) (sv (pfk (.bool false) rfl rfl rfl) (sv (mvv (.bool false) rfl) (W.n (gn rfl rfl rfl rfl) (W.n (gn rfl rfl rfl rfl) ?_)))))))))))
            refine W.n (gn rfl rfl rfl rfl) (sv (pfk (.bool false) rfl rfl rfl) (sv (asv (.bool false) rfl) (W.e ?_)))
            obtain rfl := Option.some.inj h254
            exact ⟨_, C, ⟨rfl, trivial⟩⟩
        · rintro ρ w263 ⟨S262, C, h264⟩
          refine h264.cw fun ρ => ?_
          clear h264
          refine cw_ret ?_
          obtain rfl := Option.some.inj h
          exact ⟨_, rfl, _, rfl, C⟩

noncomputable def marigraphref05_Right.b2 (a0 : List api_Label) (x13 : Int) : Option ((Int) ⊕ ((Unit) ⊕ (Bool))) :=
  (bif (decide (x13 < (a0.length : Int))) then ((((at_ a0 x13).bind fun y32 => ((marigraphref05_Name y32.Name).bind fun y37 => (bif (!y37) then some true else ((at_ a0 x13).bind fun y45 => (bif (decide ((y45.Val.size : Int) < (1 : Int))) then some true else ((at_ a0 x13).bind fun y51 => (bif (decide ((64 : Int) < (y51.Val.size : Int))) then some true else (bif (decide ((0 : Int) < x13)) then ((at_ a0 x13).bind fun y58 => (pur (IntKind.i64.wrap (x13 - (1 : Int))) fun y63 => ((at_ a0 y63).bind fun y65 => some (strLt y58.Name y65.Name || strEq y58.Name y65.Name)))) else some false)))))))).bind fun o25 => (bif o25 then some (.inr (.inr (.inr false))) else some (.inl ()))).bind (Sum.elim (fun o21n => (pur (IntKind.i64.wrap (x13 + (1 : Int))) fun y80 => some (.inl y80))) (fun q => some q))) else some (.inr (.inl ())))
noncomputable def marigraphref05_Right (a0 : List api_Label) : Option Bool :=
  ((iter (fun s : Int => marigraphref05_Right.b2 a0 s) (0 : Int)).bind (Sum.elim (fun o3n => ((bif (decide ((1 : Int) ≤ (a0.length : Int))) then some (decide ((a0.length : Int) ≤ (6 : Int))) else some false).bind fun o86 => some o86)) (fun q => some q)))
set_option maxRecDepth 100000 in
set_option maxHeartbeats 4000000 in
theorem marigraphref05_Right_w {S : Nat → Prop} {w : World} {a0 : List api_Label} {v0 : Value} {r : Bool} (hS : Sb S w) (h0 : Sl (kSl api_Label.k) S w v0 a0) (h : marigraphref05_Right a0 = some r) :
    Calls Try.prog 22 (List.toArray [v0]) w fun e w1 => ∃ S1, e = .returned (.bool r) ∧ Cx No S w S1 w1 := by
  refine enter Try.func22 rfl (by kernel_rfl) rfl ?_
  have C := Cx.refl (F := No) hS
  unfold marigraphref05_Right at h
  refine cw_seq fun K1 k2 => ?_
  refine cw_region (sv (asv (.bool false) rfl) (W.e (k2 _ _ ?_)))
  obtain ⟨o3, h6, h⟩ := bnds_some h
  refine cw_seq' (fun ρ w1 => ∃ o3n, o3 = (.inl o3n) ∧ ∃ S1, Cx No S w S1 w1 ∧ Has ρ [(0, v0)] ∧ Sl (kSl api_Label.k) S1 w1 v0 a0) ?_ ?_
  · refine cw_seq fun K7 k8 => ?_
    refine cw_region (sv (asv (.int .i64 0) rfl) (W.e (k8 _ _ (cw_block ?_))))
    refine cw_iter h6 (fun s ρ w1 => ∃ S1, Cx No S w S1 w1 ∧ Has ρ [(0, v0), (3, .int .i64 s)] ∧ Sl (kSl api_Label.k) S1 w1 v0 a0) ⟨_, C, ⟨rfl, rfl, trivial⟩, h0⟩ ?_
    rintro x13 q9 ρ w11 ⟨S10, C, h12, h0⟩ h15 h14
    refine h12.cw fun ρ => ?_
    clear h12
    replace h15 : marigraphref05_Right.b2 a0 x13 = some q9 := h15
    unfold marigraphref05_Right.b2 at h15
    refine cw_seq fun K16 k17 => ?_
    refine cw_seq fun K18 k19 => ?_
    refine cw_region (sv (mvv (.int .i64 x13) rfl) (sv (mvv v0 rfl) (sv (rv_lenS el28 h0 rfl) (sv (rv_lss rfl rfl) (W.e (k19 _ _ ?_))))))
    rcases bif_some h15 with ⟨b20, h15⟩ | ⟨b20, h15⟩
    · refine cw_t rfl b20 (cw_skip (k17 _ _ ?_))
      obtain ⟨o21, h24, h15⟩ := bnds_some h15
      refine cw_seq' (fun ρ w1 => ∃ o21n, o21 = (.inl o21n) ∧ ∃ S1, Cx No S w S1 w1 ∧ Has ρ [(0, v0), (3, .int .i64 x13)] ∧ Sl (kSl api_Label.k) S1 w1 v0 a0) ?_ ?_
      · refine cw_block ?_
        obtain ⟨o25, h28, h24⟩ := bnd_some h24
        refine cw_seq' (fun ρ w1 => ∃ S1, Cx No S w S1 w1 ∧ Has ρ [(0, v0), (3, .int .i64 x13), (52, .bool o25)] ∧ Sl (kSl api_Label.k) S1 w1 v0 a0) ?_ ?_
        · refine cw_drawU (.one 0 true (.one 1 true (.one 2 true (.one 3 true (.one 4 true (.one 5 false (.one 6 true (.one 7 true (.one 8 true (.one 9 true (.one 10 true (.one 11 true (.one 12 true (.one 13 true (.one 14 true (.one 15 true (.one 16 true (.one 17 true (.one 18 true (.one 19 true (.one 20 true (.one 21 true (.one 22 true (.one 23 true (.one 24 true (.one 25 true (.one 26 true (.one 27 true (.one 28 true (.one 29 true (.one 30 true (.one 31 true (.one 32 true (.one 33 true (.one 34 true (.one 35 true (.one 36 true (.one 37 true (.one 38 true (.one 39 true (.one 40 true (.one 41 true (.one 42 true .done))))))))))))))))))))))))))))))))))))))))))) [(4, [9]), (12, [9]), (21, [9]), (33, [9]), (39, [9])] [(5, [9])] (fun c => bif Nat.beq c 9 then (fun _ => True) else No) fol (by kernel_rfl) fun w29 u30 => ?_
          replace h0 := h0.nw u30
          replace C := C.new u30
          have h0d := h0
          have m31 := Sm.refl (fun _ => True) w29
          refine mtv rfl rfl (mvv v0 rfl) (mtv rfl rfl (mvv (.int .i64 x13) rfl) ?_)
          obtain ⟨y32, h33, h28⟩ := bnd_some h28
          refine mtv rfl rfl (rv_index el28 h0 rfl rfl h33) (mtv rfl rfl (rv_fieldAddr st59 rfl rfl) ?_)
          obtain ⟨cs34, h35, h36⟩ := Sl.cells h0 h33
          obtain rfl := api_Label.r.1 h35
          refine mtr rfl rfl ⟨m31, trivial⟩ (fun w' hq => rw_el1 (off := 0) ag9 (h36 w' (hq.1.mono fun _ _ => trivial)) rfl rfl) ?_
          obtain ⟨y37, h38, h28⟩ := bnd_some h28
          refine mtc rfl rfl (dc_call (vs := [.string y32.Name]) can36 rfl ?_)
          refine (marigraphref05_Name_w C.sb  h38).mono ?_
          rintro _ w39 ⟨S40, rfl, c41⟩
          refine ⟨_, rfl, ?_⟩
          replace h0 := h0.cx c41
          replace C := C.trans c41
          have z42 := (c41.up).size
          have m43 := m31.nx c41.up (by omega)
          refine ⟨⟨m43, trivial⟩, ?_⟩
          refine mtv rfl rfl (rv_not rfl) (mtv rfl rfl (mvv (.bool (!y37)) rfl) ?_)
          rcases bif_some h28 with ⟨b44, h28⟩ | ⟨b44, h28⟩
          · refine MT.n rfl rfl (gn rfl rfl rfl b44) trivial (MT.n rfl rfl (gn rfl rfl rfl b44) trivial (MT.n rfl rfl (gn rfl rfl rfl b44) trivial (MT.n rfl rfl (gn rfl rfl rfl b44) trivial (MT.n rfl rfl (gn rfl rfl rfl b44) ⟨m43, trivial⟩ (MT.n rfl rfl (gn rfl rfl rfl b44) trivial (MT.n rfl rfl (gn rfl rfl rfl b44) trivial (mtv rfl rfl (ptk (.bool true) rfl b44 rfl) (mtv rfl rfl (mvv (.bool true) rfl) (MT.n rfl rfl (gn rfl rfl rfl rfl) trivial (MT.n rfl rfl (gn rfl rfl rfl rfl) trivial (MT.n rfl rfl (gn rfl rfl rfl rfl) trivial ?_)))))))))))
            refine MT.n rfl rfl (gn rfl rfl rfl rfl) trivial (MT.n rfl rfl (gn rfl rfl rfl rfl) ⟨m43, trivial⟩ (MT.n rfl rfl (gn rfl rfl rfl rfl) trivial (MT.n rfl rfl (gn rfl rfl rfl rfl) trivial (mtv rfl rfl (ptk (.bool true) rfl rfl rfl) (mtv rfl rfl (mvv (.bool true) rfl) (MT.n rfl rfl (gn rfl rfl rfl rfl) trivial (MT.n rfl rfl (gn rfl rfl rfl rfl) trivial (MT.n rfl rfl (gn rfl rfl rfl rfl) trivial (MT.n rfl rfl (gu rfl rfl rfl) trivial (MT.n rfl rfl (gu rfl rfl rfl) trivial (MT.n rfl rfl (gu rfl rfl rfl) trivial ?_)))))))))))
            refine MT.n rfl rfl (gu rfl rfl rfl) trivial (MT.n rfl rfl (gu rfl rfl rfl) ⟨m43, trivial⟩ (MT.n rfl rfl (gu rfl rfl rfl) trivial (MT.n rfl rfl (gu rfl rfl rfl) trivial (MT.n rfl rfl (gu rfl rfl rfl) trivial (MT.n rfl rfl (gu rfl rfl rfl) trivial (MT.n rfl rfl (gu rfl rfl rfl) trivial (MT.n rfl rfl (gu rfl rfl rfl) ⟨m43, trivial⟩ (MT.n rfl rfl (gu rfl rfl rfl) trivial (MT.n rfl rfl (gn rfl rfl rfl rfl) trivial (mtv rfl rfl (ptk (.bool true) rfl rfl rfl) (MT.e ?_)))))))))))
            obtain rfl := Option.some.inj h28
            exact ⟨_, C, ⟨rfl, rfl, rfl, trivial⟩, h0⟩
          · refine MT.vv rfl rfl (gy rfl rfl rfl b44) (mvv v0 rfl) (MT.vv rfl rfl (gy rfl rfl rfl b44) (mvv (.int .i64 x13) rfl) ?_)
            obtain ⟨y45, h46, h28⟩ := bnd_some h28
            refine MT.vv rfl rfl (gy rfl rfl rfl b44) (rv_index el28 h0d rfl rfl h46) (MT.vv rfl rfl (gy rfl rfl rfl b44) (rv_fieldAddr st59 rfl rfl) ?_)
            obtain ⟨cs47, h48, h49⟩ := Sl.cells h0d h46
            obtain rfl := api_Label.r.1 h48
            refine MT.r rfl rfl (gy rfl rfl rfl b44) ⟨m43, trivial⟩ (fun w' hq => rw_el1 (off := 1) ag9 (h49 w' (hq.1.mono fun _ _ => trivial)) rfl rfl) (MT.vv rfl rfl (gy rfl rfl rfl b44) (rv_slen Try.underlying9 rfl) (MT.vv rfl rfl (gy rfl rfl rfl b44) (rv_lss rfl rfl) (mtv rfl rfl (pfk (.bool (decide ((y45.Val.size : Int) < (1 : Int)))) rfl b44 rfl) (mtv rfl rfl (mvv (.bool (decide ((y45.Val.size : Int) < (1 : Int)))) rfl) ?_))))
            rcases bif_some h28 with ⟨b50, h28⟩ | ⟨b50, h28⟩
            · refine MT.n rfl rfl (gn rfl rfl rfl b50) trivial (MT.n rfl rfl (gn rfl rfl rfl b50) trivial (MT.n rfl rfl (gn rfl rfl rfl b50) trivial (MT.n rfl rfl (gn rfl rfl rfl b50) trivial (MT.n rfl rfl (gn rfl rfl rfl b50) ⟨m43, trivial⟩ (MT.n rfl rfl (gn rfl rfl rfl b50) trivial (MT.n rfl rfl (gn rfl rfl rfl b50) trivial (mtv rfl rfl (ptk (.bool true) rfl b50 rfl) (mtv rfl rfl (mvv (.bool true) rfl) (MT.n rfl rfl (gn rfl rfl rfl rfl) trivial (MT.n rfl rfl (gn rfl rfl rfl rfl) trivial (MT.n rfl rfl (gn rfl rfl rfl rfl) trivial ?_)))))))))))
              refine MT.n rfl rfl (gu rfl rfl rfl) trivial (MT.n rfl rfl (gu rfl rfl rfl) trivial (MT.n rfl rfl (gu rfl rfl rfl) trivial (MT.n rfl rfl (gu rfl rfl rfl) trivial (MT.n rfl rfl (gu rfl rfl rfl) ⟨m43, trivial⟩ (MT.n rfl rfl (gu rfl rfl rfl) trivial (MT.n rfl rfl (gu rfl rfl rfl) trivial (MT.n rfl rfl (gu rfl rfl rfl) trivial (MT.n rfl rfl (gu rfl rfl rfl) trivial (MT.n rfl rfl (gu rfl rfl rfl) trivial (MT.n rfl rfl (gu rfl rfl rfl) ⟨m43, trivial⟩ (MT.n rfl rfl (gu rfl rfl rfl) trivial ?_)))))))))))
              refine MT.n rfl rfl (gn rfl rfl rfl rfl) trivial (mtv rfl rfl (ptk (.bool true) rfl rfl rfl) (MT.e ?_))
              obtain rfl := Option.some.inj h28
              exact ⟨_, C, ⟨rfl, rfl, rfl, trivial⟩, h0⟩
            · refine MT.vv rfl rfl (gy rfl rfl rfl b50) (mvv v0 rfl) (MT.vv rfl rfl (gy rfl rfl rfl b50) (mvv (.int .i64 x13) rfl) ?_)
              obtain ⟨y51, h52, h28⟩ := bnd_some h28
              refine MT.vv rfl rfl (gy rfl rfl rfl b50) (rv_index el28 h0d rfl rfl h52) (MT.vv rfl rfl (gy rfl rfl rfl b50) (rv_fieldAddr st59 rfl rfl) ?_)
              obtain ⟨cs53, h54, h55⟩ := Sl.cells h0d h52
              obtain rfl := api_Label.r.1 h54
              refine MT.r rfl rfl (gy rfl rfl rfl b50) ⟨m43, trivial⟩ (fun w' hq => rw_el1 (off := 1) ag9 (h55 w' (hq.1.mono fun _ _ => trivial)) rfl rfl) (MT.vv rfl rfl (gy rfl rfl rfl b50) (rv_slen Try.underlying9 rfl) (MT.vv rfl rfl (gy rfl rfl rfl b50) (rv_gtr rfl rfl) (mtv rfl rfl (pfk (.bool (decide ((64 : Int) < (y51.Val.size : Int)))) rfl b50 rfl) (mtv rfl rfl (mvv (.bool (decide ((64 : Int) < (y51.Val.size : Int)))) rfl) ?_))))
              rcases bif_some h28 with ⟨b56, h28⟩ | ⟨b56, h28⟩
              · refine MT.n rfl rfl (gn rfl rfl rfl b56) trivial (MT.n rfl rfl (gn rfl rfl rfl b56) trivial (MT.n rfl rfl (gn rfl rfl rfl b56) trivial (MT.n rfl rfl (gu rfl rfl rfl) trivial (MT.n rfl rfl (gu rfl rfl rfl) trivial (MT.n rfl rfl (gu rfl rfl rfl) trivial (MT.n rfl rfl (gu rfl rfl rfl) trivial (MT.n rfl rfl (gu rfl rfl rfl) ⟨m43, trivial⟩ (MT.n rfl rfl (gu rfl rfl rfl) trivial (MT.n rfl rfl (gu rfl rfl rfl) trivial (MT.n rfl rfl (gu rfl rfl rfl) trivial (MT.n rfl rfl (gu rfl rfl rfl) trivial ?_)))))))))))
                refine MT.n rfl rfl (gu rfl rfl rfl) trivial (MT.n rfl rfl (gu rfl rfl rfl) ⟨m43, trivial⟩ (MT.n rfl rfl (gu rfl rfl rfl) trivial (MT.n rfl rfl (gn rfl rfl rfl b56) trivial (mtv rfl rfl (ptk (.bool true) rfl b56 rfl) (MT.e ?_)))))
                obtain rfl := Option.some.inj h28
                exact ⟨_, C, ⟨rfl, rfl, rfl, trivial⟩, h0⟩
              · refine MT.vv rfl rfl (gy rfl rfl rfl b56) (mvv (.int .i64 x13) rfl) (MT.vv rfl rfl (gy rfl rfl rfl b56) (rv_gtr rfl rfl) (MT.vv rfl rfl (gy rfl rfl rfl b56) (mvv (.bool (decide ((0 : Int) < x13))) rfl) ?_))
                rcases bif_some h28 with ⟨b57, h28⟩ | ⟨b57, h28⟩
                · refine MT.vv rfl rfl (gy rfl rfl rfl b57) (mvv v0 rfl) (MT.vv rfl rfl (gy rfl rfl rfl b57) (mvv (.int .i64 x13) rfl) ?_)
                  obtain ⟨y58, h59, h28⟩ := bnd_some h28
                  refine MT.vv rfl rfl (gy rfl rfl rfl b57) (rv_index el28 h0d rfl rfl h59) (MT.vv rfl rfl (gy rfl rfl rfl b57) (rv_fieldAddr st59 rfl rfl) ?_)
                  obtain ⟨cs60, h61, h62⟩ := Sl.cells h0d h59
                  obtain rfl := api_Label.r.1 h61
                  refine MT.r rfl rfl (gy rfl rfl rfl b57) ⟨m43, trivial⟩ (fun w' hq => rw_el1 (off := 0) ag9 (h62 w' (hq.1.mono fun _ _ => trivial)) rfl rfl) (MT.vv rfl rfl (gy rfl rfl rfl b57) (mvv v0 rfl) (MT.vv rfl rfl (gy rfl rfl rfl b57) (mvv (.int .i64 x13) rfl) ?_))
                  obtain ⟨y63, h64, h28⟩ := pur_some h28
                  refine MT.vv rfl rfl (gy rfl rfl rfl b57) (rv_sub rfl rfl h64) ?_
                  obtain ⟨y65, h66, h28⟩ := bnd_some h28
                  refine MT.vv rfl rfl (gy rfl rfl rfl b57) (rv_index el28 h0d rfl rfl h66) (MT.vv rfl rfl (gy rfl rfl rfl b57) (rv_fieldAddr st59 rfl rfl) ?_)
                  obtain ⟨cs67, h68, h69⟩ := Sl.cells h0d h66
                  obtain rfl := api_Label.r.1 h68
                  refine MT.r rfl rfl (gy rfl rfl rfl b57) ⟨m43, trivial⟩ (fun w' hq => rw_el1 (off := 0) ag9 (h69 w' (hq.1.mono fun _ _ => trivial)) rfl rfl) (MT.vv rfl rfl (gy rfl rfl rfl b57) (rv_sleq rfl rfl) (MT.vv rfl rfl (gy rfl rfl rfl b56) (ptk (.bool (strLt y58.Name y65.Name || strEq y58.Name y65.Name)) rfl b57 rfl) (mtv rfl rfl (pfk (.bool (strLt y58.Name y65.Name || strEq y58.Name y65.Name)) rfl b56 rfl) (MT.e ?_))))
                  obtain rfl := Option.some.inj h28
                  exact ⟨_, C, ⟨rfl, rfl, rfl, trivial⟩, h0⟩
                · refine MT.n rfl rfl (gn rfl rfl rfl b57) trivial (MT.n rfl rfl (gn rfl rfl rfl b57) trivial (MT.n rfl rfl (gn rfl rfl rfl b57) trivial (MT.n rfl rfl (gn rfl rfl rfl b57) trivial (MT.n rfl rfl (gn rfl rfl rfl b57) ⟨m43, trivial⟩ (MT.n rfl rfl (gn rfl rfl rfl b57) trivial (MT.n rfl rfl (gn rfl rfl rfl b57) trivial (MT.n rfl rfl (gn rfl rfl rfl b57) trivial (MT.n rfl rfl (gn rfl rfl rfl b57) trivial (MT.n rfl rfl (gn rfl rfl rfl b57) trivial (MT.n rfl rfl (gn rfl rfl rfl b57) ⟨m43, trivial⟩ (MT.n rfl rfl (gn rfl rfl rfl b57) trivial ?_)))))))))))
                  refine MT.vv rfl rfl (gy rfl rfl rfl b56) (pfk (.bool false) rfl b57 rfl) (mtv rfl rfl (pfk (.bool false) rfl b56 rfl) (MT.e ?_))
                  obtain rfl := Option.some.inj h28
                  exact ⟨_, C, ⟨rfl, rfl, rfl, trivial⟩, h0⟩
        · rintro ρ w71 ⟨S70, C, h72, h0⟩
          refine h72.cw fun ρ => ?_
          clear h72
          rcases bif_some h24 with ⟨b73, h24⟩ | ⟨b73, h24⟩
          · refine cw_t rfl b73 ?_
            refine cw_seq fun K74 k75 => ?_
            refine cw_region (sv (asv (.bool false) rfl) (W.e (k75 _ _ (cw_ret ?_))))
            obtain rfl := Option.some.inj h24
            replace h15 := h15.2 _ rfl
            obtain rfl := Option.some.inj h15
            have h76 := congrArg some h14
            obtain rfl := Option.some.inj h76
            replace h := h.2 _ rfl
            obtain rfl := Option.some.inj h
            exact ⟨_, rfl, _, rfl, C⟩
          · refine cw_f rfl b73 (cw_skip ?_)
            obtain rfl := Option.some.inj h24
            exact ⟨_, rfl, ⟨_, C, ⟨rfl, rfl, trivial⟩, h0⟩⟩
      · rintro ρ w78 ⟨o21n, rfl, ⟨S77, C, h79, h0⟩⟩
        replace h15 := h15.1 _ rfl
        refine h79.cw fun ρ => ?_
        clear h79
        refine cw_region (sv (mvv (.int .i64 x13) rfl) ?_)
        obtain ⟨y80, h81, h15⟩ := pur_some h15
        refine sv (rv_add rfl rfl h81) (sv (asv (.int .i64 y80) rfl) (W.e ?_))
        obtain rfl := Option.some.inj h15
        exact ⟨_, rfl, ⟨_, C, ⟨rfl, rfl, trivial⟩, h0⟩⟩
    · refine cw_f rfl b20 (cw_exit ?_)
      obtain rfl := Option.some.inj h15
      have h82 := congrArg some h14
      obtain rfl := Option.some.inj h82
      exact ⟨_, rfl, ⟨_, C, ⟨rfl, trivial⟩, h0⟩⟩
  · rintro ρ w84 ⟨o3n, rfl, ⟨S83, C, h85, h0⟩⟩
    replace h := h.1 _ rfl
    refine h85.cw fun ρ => ?_
    clear h85
    obtain ⟨o86, h89, h⟩ := bnd_some h
    refine cw_seq' (fun ρ w1 => ∃ S1, Cx No S w S1 w1 ∧ Has ρ [(2, .bool o86)]) ?_ ?_
    · refine cw_region (sv (mvv v0 rfl) (sv (rv_lenS el28 h0 rfl) (sv (rv_geq rfl rfl) (sv (mvv (.bool (decide ((1 : Int) ≤ (a0.length : Int)))) rfl) ?_))))
      rcases bif_some h89 with ⟨b90, h89⟩ | ⟨b90, h89⟩
      · refine W.v (gy rfl rfl rfl b90) (mvv v0 rfl) (W.v (gy rfl rfl rfl b90) (rv_lenS el28 h0 rfl) (W.v (gy rfl rfl rfl b90) (rv_leq rfl rfl) (sv (ptk (.bool (decide ((a0.length : Int) ≤ (6 : Int)))) rfl b90 rfl) (sv (asv (.bool (decide ((a0.length : Int) ≤ (6 : Int)))) rfl) (W.e ?_)))))
        obtain rfl := Option.some.inj h89
        exact ⟨_, C, ⟨rfl, trivial⟩⟩
      · refine W.n (gn rfl rfl rfl b90) (W.n (gn rfl rfl rfl b90) (W.n (gn rfl rfl rfl b90) (sv (pfk (.bool false) rfl b90 rfl) (sv (asv (.bool false) rfl) (W.e ?_)))))
        obtain rfl := Option.some.inj h89
        exact ⟨_, C, ⟨rfl, trivial⟩⟩
    · rintro ρ w92 ⟨S91, C, h93⟩
      refine h93.cw fun ρ => ?_
      clear h93
      refine cw_ret ?_
      obtain rfl := Option.some.inj h
      exact ⟨_, rfl, _, rfl, C⟩

noncomputable def index_Index_Id (a0 : Option index_Index) (a1 : List api_Label) : Option (Int × Bool) :=
  ((index_key a1).bind fun y5 => (((bif a0.isNone then some true else some (y5.2.2 != (0 : Int))).bind fun o16 => (bif o16 then some (.inr ((0 : Int), false)) else some (.inl ()))).bind (Sum.elim (fun o12n => ((a0).bind fun y32 => some (((mget y5.2.1 y32.ids).getD (0 : Int)), (mget y5.2.1 y32.ids).isSome))) (fun q => some q))))
set_option maxRecDepth 100000 in
set_option maxHeartbeats 4000000 in
theorem index_Index_Id_w {S : Nat → Prop} {w : World} {a0 : Option index_Index} {a1 : List api_Label} {v0 v1 : Value} {cs0 : List Value} {fp0 : List Nat} {r : Int × Bool} (hS : Sb S w) (h0 : Obo 72 index_Index.fs S w v0 a0 cs0 fp0) (h1 : Sl (kSl api_Label.k) S w v1 a1) (h : index_Index_Id a0 a1 = some r) :
    Calls Try.prog 23 (List.toArray [v0, v1]) w fun e w1 => ∃ S1, e = .returned (.tuple (List.toArray [.int .i64 r.1, .bool r.2])) ∧ Cx No S w S1 w1 := by
  refine enter Try.func23 rfl (by kernel_rfl) rfl ?_
  have C := Cx.refl (F := No) hS
  unfold index_Index_Id at h
  have hl0 : ∀ b ∈ fp0, b < w.heap.size := fun b hb => (h0.lt b hb).1
  refine cw_seq fun K1 k2 => ?_
  refine cw_region (sv (asv (.int .i64 0) rfl) (sv (asv (.bool false) rfl) (W.e (k2 _ _ ?_))))
  refine cw_seq fun K3 k4 => ?_
  refine cw_region (sv (mvv v1 rfl) ?_)
  obtain ⟨y5, h6, h⟩ := bnd_some h
  refine sc (dc_call (vs := [v1]) can28 rfl ?_)
  refine (index_key_w C.sb h1 h6).mono ?_
  rintro _ w7 ⟨S8, v10, rfl, c9, h11⟩
  refine ⟨_, rfl, ?_⟩
  replace h0 := h0.cx c9
  replace C := C.trans c9
  refine sv (mvv (.tuple (List.toArray [v10, .string y5.2.1, .int .i64 y5.2.2])) rfl) (sv (rv_extract rfl rfl) (sv (rv_extract rfl rfl) (sv (rv_extract rfl rfl) (sv (asv v10 rfl) (sv (asv (.string y5.2.1) rfl) (sv (asv (.int .i64 y5.2.2) rfl) (W.e (k4 _ _ ?_))))))))
  obtain ⟨o12, h15, h⟩ := bnds_some h
  refine cw_seq' (fun ρ w1 => ∃ o12n, o12 = (.inl o12n) ∧ ∃ S1, Cx No S w S1 w1 ∧ Has ρ [(0, v0), (7, .string y5.2.1)] ∧ Obo 72 index_Index.fs S1 w1 v0 a0 cs0 fp0) ?_ ?_
  · obtain ⟨o16, h19, h15⟩ := bnd_some h15
    refine cw_seq' (fun ρ w1 => ∃ S1, Cx No S w S1 w1 ∧ Has ρ [(0, v0), (7, .string y5.2.1), (22, .bool o16)] ∧ Obo 72 index_Index.fs S1 w1 v0 a0 cs0 fp0) ?_ ?_
    · refine cw_region (sv (mvv v0 rfl) (sv (rv_nileq Try.underlying25 rfl rfl h0.ne) (sv (mvv (.bool a0.isNone) rfl) ?_)))
      rcases bif_some h19 with ⟨b20, h19⟩ | ⟨b20, h19⟩
      · refine W.n (gn rfl rfl rfl b20) (W.n (gn rfl rfl rfl b20) (sv (ptk (.bool true) rfl b20 rfl) (W.e ?_)))
        obtain rfl := Option.some.inj h19
        exact ⟨_, C, ⟨rfl, rfl, rfl, trivial⟩, h0⟩
      · refine W.v (gy rfl rfl rfl b20) (mvv (.int .i64 y5.2.2) rfl) (W.v (gy rfl rfl rfl b20) (rv_neq rfl rfl) (sv (pfk (.bool (y5.2.2 != (0 : Int))) rfl b20 rfl) (W.e ?_)))
        obtain rfl := Option.some.inj h19
        exact ⟨_, C, ⟨rfl, rfl, rfl, trivial⟩, h0⟩
    · rintro ρ w22 ⟨S21, C, h23, h0⟩
      refine h23.cw fun ρ => ?_
      clear h23
      rcases bif_some h15 with ⟨b24, h15⟩ | ⟨b24, h15⟩
      · refine cw_t rfl b24 ?_
        refine cw_seq fun K25 k26 => ?_
        refine cw_region (sv (asv (.int .i64 0) rfl) (sv (asv (.bool false) rfl) (W.e (k26 _ _ (cw_ret ?_)))))
        obtain rfl := Option.some.inj h15
        replace h := h.2 _ rfl
        obtain rfl := Option.some.inj h
        exact ⟨_, rfl, _, rfl, C⟩
      · refine cw_f rfl b24 (cw_skip ?_)
        obtain rfl := Option.some.inj h15
        exact ⟨_, rfl, ⟨_, C, ⟨rfl, rfl, trivial⟩, h0⟩⟩
  · rintro ρ w28 ⟨o12n, rfl, ⟨S27, C, h29, h0⟩⟩
    replace h := h.1 _ rfl
    refine h29.cw fun ρ => ?_
    clear h29
    refine cw_seq fun K30 k31 => ?_
    refine cw_region (sv (mvv v0 rfl) ?_)
    obtain ⟨y32, h33, h⟩ := bnd_some h
    have h34 := h0
    rw [h33] at h34
    replace h34 : Ob 72 (index_Index.fs y32) _ _ _ _ _ := h34
    refine sv (rv_nilcheck rfl h34.ptr) (sv (rv_fieldAddr (b := pb v0) (o := 0) st72 rfl h34.ptr) ?_)
    obtain ⟨c35, h36⟩ := h34.at (i := 1) rfl
    refine sr (rw_ofield (i := 1) (c := c35) h34 ag68 h36 rfl) (sv (mvv (.string y5.2.1) rfl) ?_)
    obtain ⟨_, h37, h38⟩ := Ob.rep h34 (i := 1) rfl h36
    obtain ⟨v39, h40, h41⟩ := rep_look (P := Try.prog) (tm := 68) (te := 3) (y0 := (0 : Int)) h37 Try.underlying68 zv3 (sl_sc.2 rfl) y5.2.1
    obtain rfl := sl_sc.1 h40
    refine sr ((h41 (Sm.refl _ _) rfl rfl).2) (sv (mvv (.tuple (List.toArray [.int .i64 ((mget y5.2.1 y32.ids).getD (0 : Int)), .bool (mget y5.2.1 y32.ids).isSome])) rfl) (sv (rv_extract rfl rfl) (sv (rv_extract rfl rfl) (sv (asv (.int .i64 ((mget y5.2.1 y32.ids).getD (0 : Int))) rfl) (sv (asv (.bool (mget y5.2.1 y32.ids).isSome) rfl) (W.e (k31 _ _ ?_)))))))
    refine cw_seq fun K42 k43 => ?_
    refine cw_region (sv (mvv (.int .i64 ((mget y5.2.1 y32.ids).getD (0 : Int))) rfl) (sv (mvv (.bool (mget y5.2.1 y32.ids).isSome) rfl) (sv (asv (.int .i64 ((mget y5.2.1 y32.ids).getD (0 : Int))) rfl) (sv (asv (.bool (mget y5.2.1 y32.ids).isSome) rfl) (W.e (k43 _ _ (cw_ret ?_)))))))
    obtain rfl := Option.some.inj h
    exact ⟨_, rfl, _, rfl, C⟩

noncomputable def marigraphlaw08_IndexIds.b2 (a0 : List api_Label) (a1 : List (List api_Label)) (y5 : Bool) (y42 : Int) (x52 : Int) (x53 : Int) (x54 : Option index_Index) : Option ((Int × Int × (Option index_Index)) ⊕ (((Option index_Index)) ⊕ (Bool))) :=
  (bif (decide (x53 < y42)) then (((marigraphlaw08_few a0).bind fun y70 => ((index_Index_Add x54 y70).bind fun y77 => (bif (y77.2.1 != (0 : Int)) then ((bif y5 then (bif (y77.2.1 == (50 : Int)) then ((marigraphlaw08_few a0).bind fun y99 => ((marigraphref05_Right y99).bind fun y106 => some (!y106))) else some false) else some false).bind fun o93 => some (.inr (.inr (.inr o93)))) else ((marigraphlaw08_few a0).bind fun y117 => ((index_Index_Id y77.2.2 y117).bind fun y124 => (((bif (decide (y77.1 ≤ x52)) then some true else (bif (!y124.2) then some true else some (y124.1 != y77.1))).bind fun o133 => (bif o133 then some (.inr (.inr (.inr (.inr false)))) else some (.inl ()))).bind (Sum.elim (fun o129n => ((bif (decide (x53 < (a1.length : Int))) then ((at_ a1 x53).bind fun y158 => ((marigraphlaw08_few y158).bind fun y163 => ((index_Index_Add y77.2.2 y163).bind fun y170 => some y170.2.2))) else some y77.2.2).bind fun o151 => ((index_Index_Drop o151 y77.1).bind fun y190 => ((index_Index_Labels y190.2 y77.1).bind fun y203 => ((marigraphlaw08_few a0).bind fun y213 => ((index_Index_Id y190.2 y213).bind fun y220 => ((bif (y190.1 != (0 : Int)) then some (true, y190.2) else (bif y203.2 then some (true, y190.2) else (bif y220.2 then some (true, y190.2) else ((index_Index_Drop y190.2 y77.1).bind fun y232 => some ((y232.1 != (2 : Int)), y232.2))))).bind fun o225 => (bif o225.1 then some (.inr (.inr (.inr false))) else some (.inl (y77.1, o225.2)))))))))) (fun q => some q)))))))).bind (Sum.elim (fun o62n => (pur (IntKind.i64.wrap (x53 + (1 : Int))) fun y261 => some (.inl (o62n.1, y261, o62n.2)))) (fun q => some q))) else some (.inr (.inl x54)))
noncomputable def marigraphlaw08_IndexIds (a0 : List api_Label) (a1 : List (List api_Label)) (a2 : Int) : Option Bool :=
  ((marigraphlaw08_shown).bind fun y5 => ((index_New).bind fun y12 => (bif y12.isNone then some false else ((pur (Int.tmod a2 (20 : Int)) fun y38 => (pur (IntKind.i64.wrap y38) fun y40 => (pur (IntKind.i64.wrap (y40 + (1 : Int))) fun y42 => (iter (fun s : Int × Int × (Option index_Index) => marigraphlaw08_IndexIds.b2 a0 a1 y5 y42 s.1 s.2.1 s.2.2) ((-1 : Int), (0 : Int), y12))))).bind (Sum.elim (fun o32n => some y5) (fun q => some q))))))
set_option maxRecDepth 100000 in
set_option maxHeartbeats 4000000 in
theorem marigraphlaw08_IndexIds_w {S : Nat → Prop} {w : World} {a0 : List api_Label} {a1 : List (List api_Label)} {a2 : Int} {v0 v1 : Value} {r : Bool} (hS : Sb S w) (h0 : Sl (kSl api_Label.k) S w v0 a0) (h1 : Sl (kSl (kSl api_Label.k)) S w v1 a1) (h : marigraphlaw08_IndexIds a0 a1 a2 = some r) :
    Calls Try.prog 5 (List.toArray [v0, v1, .int .u8 a2]) w fun e w1 => ∃ S1, e = .returned (.bool r) ∧ Cx No S w S1 w1 := by
  refine enter Try.func5 rfl (by kernel_rfl) rfl ?_
  have C := Cx.refl (F := No) hS
  unfold marigraphlaw08_IndexIds at h
  refine cw_seq fun K1 k2 => ?_
  refine cw_region (sv (asv (.bool false) rfl) (W.e (k2 _ _ ?_)))
  refine cw_seq fun K3 k4 => ?_
  refine cw_region ?_
  obtain ⟨y5, h6, h⟩ := bnd_some h
  refine sc (dc_call (vs := []) can10 rfl ?_)
  refine (marigraphlaw08_shown_w C.sb  h6).mono ?_
  rintro _ w7 ⟨S8, rfl, c9⟩
  refine ⟨_, rfl, ?_⟩
  replace h0 := h0.cx c9
  replace h1 := h1.cx c9
  replace C := C.trans c9
  refine sv (asv (.bool y5) rfl) (W.e (k4 _ _ ?_))
  refine cw_seq fun K10 k11 => ?_
  refine cw_region ?_
  obtain ⟨y12, h13, h⟩ := bnd_some h
  refine sc (dc_call (vs := []) can11 rfl ?_)
  refine (index_New_w C.sb  h13).mono ?_
  rintro _ w14 ⟨S15, v17, cs18, fp19, rfl, c16, h20, h21⟩
  refine ⟨_, rfl, ?_⟩
  have h22 : ∀ b, b ∈ fp19 → w.heap.size ≤ b := fun b hb => Nat.le_trans C.up.size (h21 b hb)
  replace h0 := h0.cx c16
  replace h1 := h1.cx c16
  replace C := C.trans c16
  refine sv (asv v17 rfl) (W.e (k11 _ _ ?_))
  refine cw_seq fun K23 k24 => ?_
  refine cw_seq fun K25 k26 => ?_
  refine cw_region (sv (mvv v17 rfl) (sv (rv_nileq Try.underlying25 rfl rfl h20.ne) (W.e (k26 _ _ ?_))))
  rcases bif_some h with ⟨b27, h⟩ | ⟨b27, h⟩
  · refine cw_t rfl b27 ?_
    refine cw_seq fun K28 k29 => ?_
    refine cw_region (sv (asv (.bool false) rfl) (W.e (k29 _ _ (cw_ret ?_))))
    obtain rfl := Option.some.inj h
    exact ⟨_, rfl, _, rfl, C⟩
  · refine cw_f rfl b27 (cw_skip (k24 _ _ ?_))
    refine cw_seq fun K30 k31 => ?_
    refine cw_region (sv (asv (.int .i64 (-1)) rfl) (W.e (k31 _ _ ?_)))
    obtain ⟨o32, h35, h⟩ := bnds_some h
    refine cw_seq' (fun ρ w1 => ∃ o32n, o32 = (.inl o32n) ∧ ∃ S1, Cx No S w S1 w1 ∧ Has ρ [(7, .bool y5)]) ?_ ?_
    · refine cw_seq fun K36 k37 => ?_
      refine cw_region (sv (mvv (.int .u8 a2) rfl) ?_)
      obtain ⟨y38, h39, h35⟩ := pur_some h35
      refine sv (rv_rem rfl rfl (by decide) h39) ?_
      obtain ⟨y40, h41, h35⟩ := pur_some h35
      refine sv (rv_conv Try.underlying5 Try.underlying3 rfl h41) ?_
      obtain ⟨y42, h43, h35⟩ := pur_some h35
      refine sv (rv_add rfl rfl h43) (sv (mvv (.int .i64 0) rfl) (W.e (k37 _ _ (cw_block ?_))))
      refine cw_iter h35 (fun s ρ w1 => ∃ S1 fp48 cs50, Cx No S w S1 w1 ∧ Has ρ [(0, v0), (1, v1), (7, .bool y5), (8, v17), (9, .int .i64 s.1), (27, .int .i64 y42), (28, .int .i64 s.2.1)] ∧ Sl (kSl api_Label.k) S1 w1 v0 a0 ∧ Sl (kSl (kSl api_Label.k)) S1 w1 v1 a1 ∧ Obo 72 index_Index.fs S1 w1 v17 s.2.2 cs50 fp48 ∧ (∀ b, b ∈ fp48 → w.heap.size ≤ b)) ⟨_, _, _, C, ⟨rfl, rfl, rfl, rfl, rfl, rfl, rfl, trivial⟩, h0, h1, h20, h22⟩ ?_
      rintro ⟨x52, x53, x54⟩ q44 ρ w46 ⟨S45, fp48, cs50, C, h51, h0, h1, h47, h49⟩ h56 h55
      refine h51.cw fun ρ => ?_
      clear h51
      replace h56 : marigraphlaw08_IndexIds.b2 a0 a1 y5 y42 x52 x53 x54 = some q44 := h56
      unfold marigraphlaw08_IndexIds.b2 at h56
      refine cw_seq fun K57 k58 => ?_
      refine cw_region (sv (rv_lss rfl rfl) (W.e (k58 _ _ ?_)))
      refine cw_seq fun K59 k60 => ?_
      rcases bif_some h56 with ⟨b61, h56⟩ | ⟨b61, h56⟩
      · refine cw_t rfl b61 (cw_skip (k60 _ _ ?_))
        obtain ⟨o62, h65, h56⟩ := bnds_some h56
        refine cw_seq' (fun ρ w1 => ∃ o62n, o62 = (.inl o62n) ∧ ∃ S1 fp257 cs259, Cx No S w S1 w1 ∧ Has ρ [(0, v0), (1, v1), (7, .bool y5), (8, v17), (9, .int .i64 o62n.1), (27, .int .i64 y42), (28, .int .i64 x53)] ∧ Sl (kSl api_Label.k) S1 w1 v0 a0 ∧ Sl (kSl (kSl api_Label.k)) S1 w1 v1 a1 ∧ Obo 72 index_Index.fs S1 w1 v17 o62n.2 cs259 fp257 ∧ (∀ b, b ∈ fp257 → w.heap.size ≤ b)) ?_ ?_
        · refine cw_block ?_
          refine cw_seq fun K66 k67 => ?_
          refine cw_region (sv (mvv (.int .i64 x53) rfl) (sv (asv (.int .i64 x53) rfl) (W.e (k67 _ _ ?_))))
          refine cw_seq fun K68 k69 => ?_
          refine cw_region (sv (mvv v17 rfl) (sv (mvv v0 rfl) ?_))
          obtain ⟨y70, h71, h65⟩ := bnd_some h65
          refine sc (dc_call (vs := [v0]) can15 rfl ?_)
          refine (marigraphlaw08_few_w C.sb h0 h71).mono ?_
          rintro _ w72 ⟨S73, v75, rfl, c74, h76⟩
          refine ⟨_, rfl, ?_⟩
          replace h0 := h0.cx c74
          replace h1 := h1.cx c74
          replace h47 := h47.cx c74
          replace C := C.trans c74
          obtain ⟨y77, h78, h65⟩ := bnd_some h65
          refine sc (dc_call (vs := [v17, v75]) can14 rfl ?_)
          refine (index_Index_Add_w C.sb h47 h76 h78).mono ?_
          rintro _ w79 ⟨S80, cs82, fp83, rfl, c81, h84, h85⟩
          refine ⟨_, rfl, ?_⟩
          have h86 : ∀ b, b ∈ fp48 → ¬ S73 b := fun b hb => (h47.lt b hb).2
          have h87 : ∀ b, b ∈ fp83 → w.heap.size ≤ b := fun b hb => (h85 b hb).elim (h49 b) (fun hl => Nat.le_trans C.up.size hl)
          replace h0 := h0.cf c81 h86
          replace h1 := h1.cf c81 h86
          replace C := C.ofc c81 (fun b hb => .inr (h49 b hb))
          refine sv (mvv (.tuple (List.toArray [.int .i64 y77.1, .int .i64 y77.2.1])) rfl) (sv (rv_extract rfl rfl) (sv (rv_extract rfl rfl) (sv (asv (.int .i64 y77.1) rfl) (sv (asv (.int .i64 y77.2.1) rfl) (W.e (k69 _ _ ?_))))))
          refine cw_seq fun K88 k89 => ?_
          refine cw_seq fun K90 k91 => ?_
          refine cw_region (sv (mvv (.int .i64 y77.2.1) rfl) (sv (rv_neq rfl rfl) (W.e (k91 _ _ ?_))))
          rcases bif_some h65 with ⟨b92, h65⟩ | ⟨b92, h65⟩
          · refine cw_t rfl b92 ?_
            obtain ⟨o93, h96, h65⟩ := bnd_some h65
            refine cw_seq' (fun ρ w1 => ∃ S1, Cx No S w S1 w1 ∧ Has ρ [(6, .bool o93)]) ?_ ?_
            · refine cw_region (sv (mvv (.bool y5) rfl) (sv (mvv (.bool y5) rfl) ?_))
              rcases bif_some h96 with ⟨b97, h96⟩ | ⟨b97, h96⟩
              · refine W.v (gy rfl rfl rfl b97) (mvv (.int .i64 y77.2.1) rfl) (W.v (gy rfl rfl rfl b97) (rv_eql rfl rfl) (sv (ptk (.bool (y77.2.1 == (50 : Int))) rfl b97 rfl) (sv (mvv (.bool (y77.2.1 == (50 : Int))) rfl) ?_)))
                rcases bif_some h96 with ⟨b98, h96⟩ | ⟨b98, h96⟩
                · refine W.v (gy rfl rfl rfl b98) (mvv v0 rfl) ?_
                  obtain ⟨y99, h100, h96⟩ := bnd_some h96
                  refine W.c (gy rfl rfl rfl b98) (dc_call (vs := [v0]) can15 rfl ?_)
                  refine (marigraphlaw08_few_w C.sb h0 h100).mono ?_
                  rintro _ w101 ⟨S102, v104, rfl, c103, h105⟩
                  refine ⟨_, rfl, ?_⟩
                  replace C := C.trans c103
                  obtain ⟨y106, h107, h96⟩ := bnd_some h96
                  refine W.c (gy rfl rfl rfl b98) (dc_call (vs := [v104]) can22 rfl ?_)
                  refine (marigraphref05_Right_w C.sb h105 h107).mono ?_
                  rintro _ w108 ⟨S109, rfl, c110⟩
                  refine ⟨_, rfl, ?_⟩
                  replace C := C.trans c110
                  refine W.v (gy rfl rfl rfl b98) (rv_not rfl) (sv (ptk (.bool (!y106)) rfl b98 rfl) (sv (asv (.bool (!y106)) rfl) (W.e ?_)))
                  obtain rfl := Option.some.inj h96
                  exact ⟨_, C, ⟨rfl, trivial⟩⟩
                · refine W.n (gn rfl rfl rfl b98) (W.n (gn rfl rfl rfl b98) (W.n (gn rfl rfl rfl b98) (W.n (gn rfl rfl rfl b98) (sv (pfk (.bool false) rfl b98 rfl) (sv (asv (.bool false) rfl) (W.e ?_))))))
                  obtain rfl := Option.some.inj h96
                  exact ⟨_, C, ⟨rfl, trivial⟩⟩
              · refine W.n (gn rfl rfl rfl b97) (W.n (gn rfl rfl rfl b97) (sv (pfk (.bool false) rfl b97 rfl) (sv (mvv (.bool false) rfl) (W.n (gn rfl rfl rfl rfl) (W.n (gn rfl rfl rfl rfl) (W.n (gn rfl rfl rfl rfl) (W.n (gn rfl rfl rfl rfl) (sv (pfk (.bool false) rfl rfl rfl) (sv (asv (.bool false) rfl) (W.e ?_))))))))))
                obtain rfl := Option.some.inj h96
                exact ⟨_, C, ⟨rfl, trivial⟩⟩
            · rintro ρ w112 ⟨S111, C, h113⟩
              refine h113.cw fun ρ => ?_
              clear h113
              refine cw_ret ?_
              obtain rfl := Option.some.inj h65
              replace h56 := h56.2 _ rfl
              obtain rfl := Option.some.inj h56
              have h114 := congrArg some h55
              obtain rfl := Option.some.inj h114
              replace h := h.2 _ rfl
              obtain rfl := Option.some.inj h
              exact ⟨_, rfl, _, rfl, C⟩
          · refine cw_f rfl b92 (cw_skip (k89 _ _ ?_))
            refine cw_seq fun K115 k116 => ?_
            refine cw_region (sv (mvv v17 rfl) (sv (mvv v0 rfl) ?_))
            obtain ⟨y117, h118, h65⟩ := bnd_some h65
            refine sc (dc_call (vs := [v0]) can15 rfl ?_)
            refine (marigraphlaw08_few_w C.sb h0 h118).mono ?_
            rintro _ w119 ⟨S120, v122, rfl, c121, h123⟩
            refine ⟨_, rfl, ?_⟩
            replace h0 := h0.cx c121
            replace h1 := h1.cx c121
            replace h84 := h84.cx c121
            replace C := C.trans c121
            obtain ⟨y124, h125, h65⟩ := bnd_some h65
            refine sc (dc_call (vs := [v17, v122]) can23 rfl ?_)
            refine (index_Index_Id_w C.sb h84 h123 h125).mono ?_
            rintro _ w126 ⟨S127, rfl, c128⟩
            refine ⟨_, rfl, ?_⟩
            replace h0 := h0.cx c128
            replace h1 := h1.cx c128
            replace h84 := h84.cx c128
            replace C := C.trans c128
            refine sv (mvv (.tuple (List.toArray [.int .i64 y124.1, .bool y124.2])) rfl) (sv (rv_extract rfl rfl) (sv (rv_extract rfl rfl) (sv (asv (.int .i64 y124.1) rfl) (sv (asv (.bool y124.2) rfl) (W.e (k116 _ _ ?_))))))
            obtain ⟨o129, h132, h65⟩ := bnds_some h65
            refine cw_seq' (fun ρ w1 => ∃ o129n, o129 = (.inl o129n) ∧ ∃ S1, Cx No S w S1 w1 ∧ Has ρ [(0, v0), (1, v1), (7, .bool y5), (8, v17), (10, .int .i64 x53), (11, .int .i64 y77.1), (27, .int .i64 y42), (28, .int .i64 x53)] ∧ Sl (kSl api_Label.k) S1 w1 v0 a0 ∧ Sl (kSl (kSl api_Label.k)) S1 w1 v1 a1 ∧ Obo 72 index_Index.fs S1 w1 v17 y77.2.2 cs82 fp83) ?_ ?_
            · obtain ⟨o133, h136, h132⟩ := bnd_some h132
              refine cw_seq' (fun ρ w1 => ∃ S1, Cx No S w S1 w1 ∧ Has ρ [(0, v0), (1, v1), (7, .bool y5), (8, v17), (10, .int .i64 x53), (11, .int .i64 y77.1), (27, .int .i64 y42), (28, .int .i64 x53), (69, .bool o133)] ∧ Sl (kSl api_Label.k) S1 w1 v0 a0 ∧ Sl (kSl (kSl api_Label.k)) S1 w1 v1 a1 ∧ Obo 72 index_Index.fs S1 w1 v17 y77.2.2 cs82 fp83) ?_ ?_
              · refine cw_region (sv (mvv (.int .i64 y77.1) rfl) (sv (mvv (.int .i64 x52) rfl) (sv (rv_leq rfl rfl) (sv (mvv (.bool (decide (y77.1 ≤ x52))) rfl) ?_))))
                rcases bif_some h136 with ⟨b137, h136⟩ | ⟨b137, h136⟩
                · refine W.n (gn rfl rfl rfl b137) (W.n (gn rfl rfl rfl b137) (sv (ptk (.bool true) rfl b137 rfl) (sv (mvv (.bool true) rfl) (W.n (gn rfl rfl rfl rfl) (W.n (gn rfl rfl rfl rfl) (W.n (gn rfl rfl rfl rfl) (sv (ptk (.bool true) rfl rfl rfl) (W.e ?_))))))))
                  obtain rfl := Option.some.inj h136
                  exact ⟨_, C, ⟨rfl, rfl, rfl, rfl, rfl, rfl, rfl, rfl, rfl, trivial⟩, h0, h1, h84⟩
                · refine W.v (gy rfl rfl rfl b137) (mvv (.bool y124.2) rfl) (W.v (gy rfl rfl rfl b137) (rv_not rfl) (sv (pfk (.bool (!y124.2)) rfl b137 rfl) (sv (mvv (.bool (!y124.2)) rfl) ?_)))
                  rcases bif_some h136 with ⟨b138, h136⟩ | ⟨b138, h136⟩
                  · refine W.n (gn rfl rfl rfl b138) (W.n (gn rfl rfl rfl b138) (W.n (gn rfl rfl rfl b138) (sv (ptk (.bool true) rfl b138 rfl) (W.e ?_))))
                    obtain rfl := Option.some.inj h136
                    exact ⟨_, C, ⟨rfl, rfl, rfl, rfl, rfl, rfl, rfl, rfl, rfl, trivial⟩, h0, h1, h84⟩
                  · refine W.v (gy rfl rfl rfl b138) (mvv (.int .i64 y124.1) rfl) (W.v (gy rfl rfl rfl b138) (mvv (.int .i64 y77.1) rfl) (W.v (gy rfl rfl rfl b138) (rv_neq rfl rfl) (sv (pfk (.bool (y124.1 != y77.1)) rfl b138 rfl) (W.e ?_))))
                    obtain rfl := Option.some.inj h136
                    exact ⟨_, C, ⟨rfl, rfl, rfl, rfl, rfl, rfl, rfl, rfl, rfl, trivial⟩, h0, h1, h84⟩
              · rintro ρ w140 ⟨S139, C, h141, h0, h1, h84⟩
                refine h141.cw fun ρ => ?_
                clear h141
                rcases bif_some h132 with ⟨b142, h132⟩ | ⟨b142, h132⟩
                · refine cw_t rfl b142 ?_
                  refine cw_seq fun K143 k144 => ?_
                  refine cw_region (sv (asv (.bool false) rfl) (W.e (k144 _ _ (cw_ret ?_))))
                  obtain rfl := Option.some.inj h132
                  replace h65 := h65.2 _ rfl
                  obtain rfl := Option.some.inj h65
                  replace h56 := h56.2 _ rfl
                  obtain rfl := Option.some.inj h56
                  have h145 := congrArg some h55
                  obtain rfl := Option.some.inj h145
                  replace h := h.2 _ rfl
                  obtain rfl := Option.some.inj h
                  exact ⟨_, rfl, _, rfl, C⟩
                · refine cw_f rfl b142 (cw_skip ?_)
                  obtain rfl := Option.some.inj h132
                  exact ⟨_, rfl, ⟨_, C, ⟨rfl, rfl, rfl, rfl, rfl, rfl, rfl, rfl, trivial⟩, h0, h1, h84⟩⟩
            · rintro ρ w147 ⟨o129n, rfl, ⟨S146, C, h148, h0, h1, h84⟩⟩
              replace h65 := h65.1 _ rfl
              refine h148.cw fun ρ => ?_
              clear h148
              refine cw_seq fun K149 k150 => ?_
              refine cw_region (sv (mvv (.int .i64 y77.1) rfl) (sv (asv (.int .i64 y77.1) rfl) (W.e (k150 _ _ ?_))))
              obtain ⟨o151, h154, h65⟩ := bnd_some h65
              refine cw_seq' (fun ρ w1 => ∃ S1 fp184 cs186, Cx No S w S1 w1 ∧ Has ρ [(0, v0), (1, v1), (7, .bool y5), (8, v17), (9, .int .i64 y77.1), (11, .int .i64 y77.1), (27, .int .i64 y42), (28, .int .i64 x53)] ∧ Sl (kSl api_Label.k) S1 w1 v0 a0 ∧ Sl (kSl (kSl api_Label.k)) S1 w1 v1 a1 ∧ Obo 72 index_Index.fs S1 w1 v17 o151 cs186 fp184 ∧ (∀ b, b ∈ fp184 → w.heap.size ≤ b)) ?_ ?_
              · refine cw_seq fun K155 k156 => ?_
                refine cw_region (sv (mvv (.int .i64 x53) rfl) (sv (mvv v1 rfl) (sv (rv_lenS el49 h1 rfl) (sv (rv_lss rfl rfl) (W.e (k156 _ _ ?_))))))
                rcases bif_some h154 with ⟨b157, h154⟩ | ⟨b157, h154⟩
                · refine cw_t rfl b157 (cw_region (sv (mvv v17 rfl) (sv (mvv v1 rfl) (sv (mvv (.int .i64 x53) rfl) ?_))))
                  obtain ⟨y158, h159, h154⟩ := bnd_some h154
                  refine sv (rv_index el49 h1 rfl rfl h159) ?_
                  obtain ⟨v160, h161, h162⟩ := rw_loadA (P := Try.prog) el49 h1 h159
                  refine sr (h162 _ (Sm.refl _ _) rfl) ?_
                  obtain ⟨y163, h164, h154⟩ := bnd_some h154
                  refine sc (dc_call (vs := [v160]) can15 rfl ?_)
                  refine (marigraphlaw08_few_w C.sb h161 h164).mono ?_
                  rintro _ w165 ⟨S166, v168, rfl, c167, h169⟩
                  refine ⟨_, rfl, ?_⟩
                  replace h0 := h0.cx c167
                  replace h1 := h1.cx c167
                  replace h84 := h84.cx c167
                  replace C := C.trans c167
                  obtain ⟨y170, h171, h154⟩ := bnd_some h154
                  refine sc (dc_call (vs := [v17, v168]) can14 rfl ?_)
                  refine (index_Index_Add_w C.sb h84 h169 h171).mono ?_
                  rintro _ w172 ⟨S173, cs175, fp176, rfl, c174, h177, h178⟩
                  refine ⟨_, rfl, ?_⟩
                  have h179 : ∀ b, b ∈ fp83 → ¬ S166 b := fun b hb => (h84.lt b hb).2
                  have h180 : ∀ b, b ∈ fp176 → w.heap.size ≤ b := fun b hb => (h178 b hb).elim (h87 b) (fun hl => Nat.le_trans C.up.size hl)
                  replace h0 := h0.cf c174 h179
                  replace h1 := h1.cf c174 h179
                  replace C := C.ofc c174 (fun b hb => .inr (h87 b hb))
                  refine W.e ?_
                  obtain rfl := Option.some.inj h154
                  exact ⟨_, _, _, C, ⟨rfl, rfl, rfl, rfl, rfl, rfl, rfl, rfl, trivial⟩, h0, h1, h177, h180⟩
                · refine cw_f rfl b157 (cw_skip ?_)
                  obtain rfl := Option.some.inj h154
                  exact ⟨_, _, _, C, ⟨rfl, rfl, rfl, rfl, rfl, rfl, rfl, rfl, trivial⟩, h0, h1, h84, h87⟩
              · rintro ρ w182 ⟨S181, fp184, cs186, C, h187, h0, h1, h183, h185⟩
                refine h187.cw fun ρ => ?_
                clear h187
                refine cw_seq fun K188 k189 => ?_
                refine cw_region (sv (mvv v17 rfl) (sv (mvv (.int .i64 y77.1) rfl) ?_))
                obtain ⟨y190, h191, h65⟩ := bnd_some h65
                refine sc (dc_call (vs := [v17, .int .i64 y77.1]) can13 rfl ?_)
                refine (index_Index_Drop_w C.sb h183 h191).mono ?_
                rintro _ w192 ⟨S193, cs195, fp196, rfl, c194, h197, h198⟩
                refine ⟨_, rfl, ?_⟩
                have h199 : ∀ b, b ∈ fp184 → ¬ S181 b := fun b hb => (h183.lt b hb).2
                have h200 : ∀ b, b ∈ fp196 → w.heap.size ≤ b := fun b hb => (h198 b hb).elim (h185 b) (fun hl => Nat.le_trans C.up.size hl)
                replace h0 := h0.cf c194 h199
                replace h1 := h1.cf c194 h199
                replace C := C.ofc c194 (fun b hb => .inr (h185 b hb))
                refine sv (asv (.int .i64 y190.1) rfl) (W.e (k189 _ _ ?_))
                refine cw_seq fun K201 k202 => ?_
                refine cw_region (sv (mvv v17 rfl) (sv (mvv (.int .i64 y77.1) rfl) ?_))
                obtain ⟨y203, h204, h65⟩ := bnd_some h65
                refine sc (dc_call (vs := [v17, .int .i64 y77.1]) can19 rfl ?_)
                refine (index_Index_Labels_w C.sb h197 h204).mono ?_
                rintro _ w205 ⟨S206, v208, rfl, c207, h209⟩
                refine ⟨_, rfl, ?_⟩
                have p210 := ap_fresh (fun b hb => (h209.lt b hb).1) (fun b hb => (h197.lt b hb).1)
                replace h209 := h209.base C.up.size
                replace h0 := h0.cx c207
                replace h1 := h1.cx c207
                replace h197 := h197.cx c207
                replace C := C.trans c207
                refine sv (mvv (.tuple (List.toArray [v208, .bool y203.2])) rfl) (sv (rv_extract rfl rfl) (sv (rv_extract rfl rfl) (sv (asv v208 rfl) (sv (asv (.bool y203.2) rfl) (W.e (k202 _ _ ?_))))))
                refine cw_seq fun K211 k212 => ?_
                refine cw_region (sv (mvv v17 rfl) (sv (mvv v0 rfl) ?_))
                obtain ⟨y213, h214, h65⟩ := bnd_some h65
                refine sc (dc_call (vs := [v0]) can15 rfl ?_)
                refine (marigraphlaw08_few_w C.sb h0 h214).mono ?_
                rintro _ w215 ⟨S216, v218, rfl, c217, h219⟩
                refine ⟨_, rfl, ?_⟩
                replace h0 := h0.cx c217
                replace h1 := h1.cx c217
                replace h197 := h197.cx c217
                replace C := C.trans c217
                obtain ⟨y220, h221, h65⟩ := bnd_some h65
                refine sc (dc_call (vs := [v17, v218]) can23 rfl ?_)
                refine (index_Index_Id_w C.sb h197 h219 h221).mono ?_
                rintro _ w222 ⟨S223, rfl, c224⟩
                refine ⟨_, rfl, ?_⟩
                replace h0 := h0.cx c224
                replace h1 := h1.cx c224
                replace h197 := h197.cx c224
                replace C := C.trans c224
                refine sv (mvv (.tuple (List.toArray [.int .i64 y220.1, .bool y220.2])) rfl) (sv (rv_extract rfl rfl) (sv (rv_extract rfl rfl) (sv (asv (.int .i64 y220.1) rfl) (sv (asv (.bool y220.2) rfl) (W.e (k212 _ _ ?_))))))
                obtain ⟨o225, h228, h65⟩ := bnd_some h65
                refine cw_seq' (fun ρ w1 => ∃ S1 fp246 cs248, Cx No S w S1 w1 ∧ Has ρ [(0, v0), (1, v1), (7, .bool y5), (8, v17), (9, .int .i64 y77.1), (27, .int .i64 y42), (28, .int .i64 x53), (111, .bool o225.1)] ∧ Sl (kSl api_Label.k) S1 w1 v0 a0 ∧ Sl (kSl (kSl api_Label.k)) S1 w1 v1 a1 ∧ Obo 72 index_Index.fs S1 w1 v17 o225.2 cs248 fp246 ∧ (∀ b, b ∈ fp246 → w.heap.size ≤ b)) ?_ ?_
                · refine cw_region (sv (mvv (.int .i64 y190.1) rfl) (sv (rv_neq rfl rfl) (sv (mvv (.bool (y190.1 != (0 : Int))) rfl) ?_)))
                  rcases bif_some h228 with ⟨b229, h228⟩ | ⟨b229, h228⟩
                  · refine W.n (gn rfl rfl rfl b229) (sv (ptk (.bool true) rfl b229 rfl) (sv (mvv (.bool true) rfl) (W.n (gn rfl rfl rfl rfl) (sv (ptk (.bool true) rfl rfl rfl) (sv (mvv (.bool true) rfl) (W.n (gn rfl rfl rfl rfl) (W.n (gn rfl rfl rfl rfl) (W.n (gn rfl rfl rfl rfl) (W.n (gn rfl rfl rfl rfl) (sv (ptk (.bool true) rfl rfl rfl) (W.e ?_)))))))))))
                    obtain rfl := Option.some.inj h228
                    exact ⟨_, _, _, C, ⟨rfl, rfl, rfl, rfl, rfl, rfl, rfl, rfl, trivial⟩, h0, h1, h197, h200⟩
                  · refine W.v (gy rfl rfl rfl b229) (mvv (.bool y203.2) rfl) (sv (pfk (.bool y203.2) rfl b229 rfl) (sv (mvv (.bool y203.2) rfl) ?_))
                    rcases bif_some h228 with ⟨b230, h228⟩ | ⟨b230, h228⟩
                    · refine W.n (gn rfl rfl rfl b230) (sv (ptk (.bool true) rfl b230 rfl) (sv (mvv (.bool true) rfl) (W.n (gn rfl rfl rfl rfl) (W.n (gn rfl rfl rfl rfl) (W.n (gn rfl rfl rfl rfl) (W.n (gn rfl rfl rfl rfl) (sv (ptk (.bool true) rfl rfl rfl) (W.e ?_))))))))
                      obtain rfl := Option.some.inj h228
                      exact ⟨_, _, _, C, ⟨rfl, rfl, rfl, rfl, rfl, rfl, rfl, rfl, trivial⟩, h0, h1, h197, h200⟩
                    · refine W.v (gy rfl rfl rfl b230) (mvv (.bool y220.2) rfl) (sv (pfk (.bool y220.2) rfl b230 rfl) (sv (mvv (.bool y220.2) rfl) ?_))
                      rcases bif_some h228 with ⟨b231, h228⟩ | ⟨b231, h228⟩
                      · refine W.n (gn rfl rfl rfl b231) (W.n (gn rfl rfl rfl b231) (W.n (gn rfl rfl rfl b231) (W.n (gn rfl rfl rfl b231) (sv (ptk (.bool true) rfl b231 rfl) (W.e ?_)))))
                        obtain rfl := Option.some.inj h228
                        exact ⟨_, _, _, C, ⟨rfl, rfl, rfl, rfl, rfl, rfl, rfl, rfl, trivial⟩, h0, h1, h197, h200⟩
                      · refine W.v (gy rfl rfl rfl b231) (mvv v17 rfl) (W.v (gy rfl rfl rfl b231) (mvv (.int .i64 y77.1) rfl) ?_)
                        obtain ⟨y232, h233, h228⟩ := bnd_some h228
                        refine W.c (gy rfl rfl rfl b231) (dc_call (vs := [v17, .int .i64 y77.1]) can13 rfl ?_)
                        refine (index_Index_Drop_w C.sb h197 h233).mono ?_
                        rintro _ w234 ⟨S235, cs237, fp238, rfl, c236, h239, h240⟩
                        refine ⟨_, rfl, ?_⟩
                        have h241 : ∀ b, b ∈ fp196 → ¬ S223 b := fun b hb => (h197.lt b hb).2
                        have h242 : ∀ b, b ∈ fp238 → w.heap.size ≤ b := fun b hb => (h240 b hb).elim (h200 b) (fun hl => Nat.le_trans C.up.size hl)
                        replace h0 := h0.cf c236 h241
                        replace h1 := h1.cf c236 h241
                        replace C := C.ofc c236 (fun b hb => .inr (h200 b hb))
                        refine W.v (gy rfl rfl rfl b231) (rv_neq rfl rfl) (sv (pfk (.bool (y232.1 != (2 : Int))) rfl b231 rfl) (W.e ?_))
                        obtain rfl := Option.some.inj h228
                        exact ⟨_, _, _, C, ⟨rfl, rfl, rfl, rfl, rfl, rfl, rfl, rfl, trivial⟩, h0, h1, h239, h242⟩
                · rintro ρ w244 ⟨S243, fp246, cs248, C, h249, h0, h1, h245, h247⟩
                  refine h249.cw fun ρ => ?_
                  clear h249
                  rcases bif_some h65 with ⟨b250, h65⟩ | ⟨b250, h65⟩
                  · refine cw_t rfl b250 ?_
                    refine cw_seq fun K251 k252 => ?_
                    refine cw_region (sv (asv (.bool false) rfl) (W.e (k252 _ _ (cw_ret ?_))))
                    obtain rfl := Option.some.inj h65
                    replace h56 := h56.2 _ rfl
                    obtain rfl := Option.some.inj h56
                    have h253 := congrArg some h55
                    obtain rfl := Option.some.inj h253
                    replace h := h.2 _ rfl
                    obtain rfl := Option.some.inj h
                    exact ⟨_, rfl, _, rfl, C⟩
                  · refine cw_f rfl b250 (cw_skip ?_)
                    obtain rfl := Option.some.inj h65
                    exact ⟨_, rfl, ⟨_, _, _, C, ⟨rfl, rfl, rfl, rfl, rfl, rfl, rfl, trivial⟩, h0, h1, h245, h247⟩⟩
        · rintro ρ w255 ⟨o62n, rfl, ⟨S254, fp257, cs259, C, h260, h0, h1, h256, h258⟩⟩
          replace h56 := h56.1 _ rfl
          refine h260.cw fun ρ => ?_
          clear h260
          refine cw_region ?_
          obtain ⟨y261, h262, h56⟩ := pur_some h56
          refine sv (rv_add rfl rfl h262) (sv (mvv (.int .i64 y261) rfl) (W.e ?_))
          obtain rfl := Option.some.inj h56
          exact ⟨_, rfl, ⟨_, _, _, C, ⟨rfl, rfl, rfl, rfl, rfl, rfl, rfl, trivial⟩, h0, h1, h256, h258⟩⟩
      · refine cw_f rfl b61 (cw_exit ?_)
        obtain rfl := Option.some.inj h56
        have h263 := congrArg some h55
        obtain rfl := Option.some.inj h263
        exact ⟨_, rfl, ⟨_, C, ⟨rfl, trivial⟩⟩⟩
    · rintro ρ w265 ⟨o32n, rfl, ⟨S264, C, h266⟩⟩
      replace h := h.1 _ rfl
      refine h266.cw fun ρ => ?_
      clear h266
      refine cw_seq fun K267 k268 => ?_
      refine cw_region (sv (mvv (.bool y5) rfl) (sv (asv (.bool y5) rfl) (W.e (k268 _ _ (cw_ret ?_)))))
      obtain rfl := Option.some.inj h
      exact ⟨_, rfl, _, rfl, C⟩

noncomputable def marigraphlaw08_IndexAll.b2 (y36 : (List marigraphlaw08_Act)) (x51 : Int) (x52 : Option index_Index) : Option ((Int × (Option index_Index)) ⊕ ((Option index_Index))) :=
  (bif (decide (x51 < (y36.length : Int))) then (((at_ y36 x51).bind fun y66 => (pur y66 fun y81 => (pur (Int.tmod y81.Kind (5 : Int)) fun y96 => (bif (y96 == (3 : Int)) then ((index_Index_Drop x52 y81.Id).bind fun y106 => some y106.2) else ((marigraphlaw08_few y81.L).bind fun y124 => ((index_Index_Add x52 y124).bind fun y131 => some y131.2.2)))))).bind fun o60 => (pur (IntKind.i64.wrap (x51 + (1 : Int))) fun y149 => some (.inl (y149, o60)))) else some (.inr x52))
noncomputable def marigraphlaw08_IndexAll.b5 (o30 : ((Option index_Index))) (y161 : (List Int) × Int) (x180 : Int) : Option ((Int) ⊕ ((Unit) ⊕ (Bool))) :=
  (bif (decide (x180 < (y161.1.length : Int))) then (((at_ y161.1 x180).bind fun y194 => ((index_Index_Labels o30 y194).bind fun y198 => ((index_Index_Id o30 y198.1).bind fun y209 => ((bif (!y198.2) then some true else (bif (!y209.2) then some true else (bif (y209.1 != y194) then some true else (bif (decide ((0 : Int) < x180)) then (pur (IntKind.i64.wrap (x180 - (1 : Int))) fun y222 => ((at_ y161.1 y222).bind fun y224 => some (decide (y194 ≤ y224)))) else some false)))).bind fun o214 => (bif o214 then some (.inr (.inr (.inr false))) else some (.inl ())))))).bind (Sum.elim (fun o188n => (pur (IntKind.i64.wrap (x180 + (1 : Int))) fun y238 => some (.inl y238))) (fun q => some q))) else some (.inr (.inl ())))
noncomputable def marigraphlaw08_IndexAll (a0 : List marigraphlaw08_Act) : Option Bool :=
  ((marigraphlaw08_shown).bind fun y5 => ((index_New).bind fun y12 => (bif y12.isNone then some false else (((marigraphlaw08_acts a0).bind fun y36 => (iter (fun s : Int × (Option index_Index) => marigraphlaw08_IndexAll.b2 y36 s.1 s.2) ((0 : Int), y12))).bind fun o30 => ((index_Index_Find o30 ([] : List api_Ask)).bind fun y161 => ((iter (fun s : Int => marigraphlaw08_IndexAll.b5 o30 y161 s) (0 : Int)).bind (Sum.elim (fun o169n => ((bif y5 then (bif (y161.2 == (0 : Int)) then some (decide ((y161.1.length : Int) ≤ (200 : Int))) else some false) else some false).bind fun o244 => some o244)) (fun q => some q))))))))
set_option maxRecDepth 100000 in
set_option maxHeartbeats 4000000 in
theorem marigraphlaw08_IndexAll_w {S : Nat → Prop} {w : World} {a0 : List marigraphlaw08_Act} {v0 : Value} {r : Bool} (hS : Sb S w) (h0 : Sl (kSl marigraphlaw08_Act.k) S w v0 a0) (h : marigraphlaw08_IndexAll a0 = some r) :
    Calls Try.prog 6 (List.toArray [v0]) w fun e w1 => ∃ S1, e = .returned (.bool r) ∧ Cx No S w S1 w1 := by
  refine enter Try.func6 rfl (by kernel_rfl) rfl ?_
  have C := Cx.refl (F := No) hS
  unfold marigraphlaw08_IndexAll at h
  refine cw_seq fun K1 k2 => ?_
  refine cw_region (sv (asv (.bool false) rfl) (W.e (k2 _ _ ?_)))
  refine cw_seq fun K3 k4 => ?_
  refine cw_region ?_
  obtain ⟨y5, h6, h⟩ := bnd_some h
  refine sc (dc_call (vs := []) can10 rfl ?_)
  refine (marigraphlaw08_shown_w C.sb  h6).mono ?_
  rintro _ w7 ⟨S8, rfl, c9⟩
  refine ⟨_, rfl, ?_⟩
  replace h0 := h0.cx c9
  replace C := C.trans c9
  refine sv (asv (.bool y5) rfl) (W.e (k4 _ _ ?_))
  refine cw_seq fun K10 k11 => ?_
  refine cw_region ?_
  obtain ⟨y12, h13, h⟩ := bnd_some h
  refine sc (dc_call (vs := []) can11 rfl ?_)
  refine (index_New_w C.sb  h13).mono ?_
  rintro _ w14 ⟨S15, v17, cs18, fp19, rfl, c16, h20, h21⟩
  refine ⟨_, rfl, ?_⟩
  have h22 : ∀ b, b ∈ fp19 → w.heap.size ≤ b := fun b hb => Nat.le_trans C.up.size (h21 b hb)
  replace h0 := h0.cx c16
  replace C := C.trans c16
  refine sv (asv v17 rfl) (W.e (k11 _ _ ?_))
  refine cw_seq fun K23 k24 => ?_
  refine cw_seq fun K25 k26 => ?_
  refine cw_region (sv (mvv v17 rfl) (sv (rv_nileq Try.underlying25 rfl rfl h20.ne) (W.e (k26 _ _ ?_))))
  rcases bif_some h with ⟨b27, h⟩ | ⟨b27, h⟩
  · refine cw_t rfl b27 ?_
    refine cw_seq fun K28 k29 => ?_
    refine cw_region (sv (asv (.bool false) rfl) (W.e (k29 _ _ (cw_ret ?_))))
    obtain rfl := Option.some.inj h
    exact ⟨_, rfl, _, rfl, C⟩
  · refine cw_f rfl b27 (cw_skip (k24 _ _ ?_))
    obtain ⟨o30, h33, h⟩ := bnd_some h
    refine cw_seq' (fun ρ w1 => ∃ S1 fp155 cs157, Cx No S w S1 w1 ∧ Has ρ [(3, .bool y5), (4, v17)] ∧ Obo 72 index_Index.fs S1 w1 v17 o30 cs157 fp155 ∧ (∀ b, b ∈ fp155 → w.heap.size ≤ b)) ?_ ?_
    · refine cw_seq fun K34 k35 => ?_
      refine cw_region (sv (mvv v0 rfl) ?_)
      obtain ⟨y36, h37, h33⟩ := bnd_some h33
      refine sc (dc_call (vs := [v0]) can12 rfl ?_)
      refine (marigraphlaw08_acts_w C.sb h0 h37).mono ?_
      rintro _ w38 ⟨S39, v41, rfl, c40, h42⟩
      refine ⟨_, rfl, ?_⟩
      replace h20 := h20.cx c40
      replace C := C.trans c40
      refine sv (rv_lenS el22 h42 rfl) (sv (mvv (.int .i64 0) rfl) (W.e (k35 _ _ (cw_block ?_))))
      refine cw_iter h33 (fun s ρ w1 => ∃ S1 fp47 cs49, Cx No S w S1 w1 ∧ Has ρ [(3, .bool y5), (4, v17), (20, v41), (21, .int .i64 (y36.length : Int)), (22, .int .i64 s.1)] ∧ Sl (kSl marigraphlaw08_Act.k) S1 w1 v41 y36 ∧ Obo 72 index_Index.fs S1 w1 v17 s.2 cs49 fp47 ∧ (∀ b, b ∈ fp47 → w.heap.size ≤ b)) ⟨_, _, _, C, ⟨rfl, rfl, rfl, rfl, rfl, trivial⟩, h42, h20, h22⟩ ?_
      rintro ⟨x51, x52⟩ q43 ρ w45 ⟨S44, fp47, cs49, C, h50, h42, h46, h48⟩ h54 h53
      refine h50.cw fun ρ => ?_
      clear h50
      replace h54 : marigraphlaw08_IndexAll.b2 y36 x51 x52 = some q43 := h54
      unfold marigraphlaw08_IndexAll.b2 at h54
      refine cw_seq fun K55 k56 => ?_
      refine cw_region (sv (rv_lss rfl rfl) (W.e (k56 _ _ ?_)))
      refine cw_seq fun K57 k58 => ?_
      rcases bif_some h54 with ⟨b59, h54⟩ | ⟨b59, h54⟩
      · refine cw_t rfl b59 (cw_skip (k58 _ _ ?_))
        obtain ⟨o60, h63, h54⟩ := bnd_some h54
        refine cw_seq' (fun ρ w1 => ∃ S1 fp145 cs147, Cx No S w S1 w1 ∧ Has ρ [(3, .bool y5), (4, v17), (20, v41), (21, .int .i64 (y36.length : Int)), (22, .int .i64 x51)] ∧ Sl (kSl marigraphlaw08_Act.k) S1 w1 v41 y36 ∧ Obo 72 index_Index.fs S1 w1 v17 o60 cs147 fp145 ∧ (∀ b, b ∈ fp145 → w.heap.size ≤ b)) ?_ ?_
        · refine cw_block ?_
          refine cw_seq fun K64 k65 => ?_
          refine cw_region ?_
          obtain ⟨y66, h67, h63⟩ := bnd_some h63
          refine sv (rv_index el22 h42 rfl rfl h67) ?_
          obtain ⟨v68, h69, h70⟩ := rw_loadA (P := Try.prog) el22 h42 h67
          obtain ⟨c71, c73, rfl, g72, g74⟩ := marigraphlaw08_Act.o.1 h69
          refine sr (h70 _ (Sm.refl _ _) rfl) ?_
          refine sc (dc_allocO (x0 := (marigraphlaw08_Act.mk (0 : Int) (0 : Int) ([] : List api_Label) ([] : List api_Ask))) (base := w.heap.size) el22 zr30 (fun _ => marigraphlaw08_Act.r.2 ⟨_, _, rfl, sl_nil _ _ _, sl_nil _ _ _⟩) C.up.size C.sb fun b75 w76 h77 h78 u79 => ?_)
          have p80 := ap_fresh h78 (fun b hb => (h46.lt b hb).1)
          replace h46 := h46.nw u79
          replace h42 := h42.nw u79
          replace g72 := g72.nw u79
          replace g74 := g74.nw u79
          replace C := C.new u79
          obtain ⟨y81, h82, h63⟩ := pur_some h63
          have h86 := h77
          refine sc (dc_storeO el22 h86 (show at_ [(marigraphlaw08_Act.mk (0 : Int) (0 : Int) ([] : List api_Label) ([] : List api_Ask))] (0 : Int) = some (marigraphlaw08_Act.mk (0 : Int) (0 : Int) ([] : List api_Label) ([] : List api_Ask)) from rfl) rfl rfl ((marigraphlaw08_Act.o.2 ⟨_, _, rfl, g72, g74⟩)) fun w83 h84 u85 => ?_)
          replace h84 : Ow marigraphlaw08_Act.k 30 S44 w.heap.size w83 (.slice (some ⟨b75, 0, none⟩) 1 1) [y66] := h84
          rw [h82] at h84
          replace h46 := h46.wr u85 h86.not (ap_symm p80)
          replace h42 := h42.wr u85 h86.not
          replace C := C.ow h86 u85
          refine W.e (k65 _ _ ?_)
          refine cw_seq fun K87 k88 => ?_
          refine cw_region (sv (rv_fieldAddr st30 rfl rfl) ?_)
          obtain ⟨cs89, h90, h91⟩ := Ow.cellsO h84 (show at_ [y81] (0 : Int) = some y81 from rfl)
          obtain ⟨c92, c94, rfl, g93, g95⟩ := marigraphlaw08_Act.r.1 h90
          refine sr (rw_el1 (off := 0) ag5 (h91 _ (Sm.refl _ _)) rfl rfl) ?_
          obtain ⟨y96, h97, h63⟩ := pur_some h63
          refine sv (rv_rem rfl rfl (by decide) h97) (sv (rv_eql rfl rfl) (W.e (k88 _ _ ?_)))
          rcases bif_some h63 with ⟨b98, h63⟩ | ⟨b98, h63⟩
          · refine cw_t rfl b98 (cw_region (sv (mvv v17 rfl) (sv (rv_fieldAddr st30 rfl rfl) ?_)))
            obtain ⟨cs99, h100, h101⟩ := Ow.cellsO h84 (show at_ [y81] (0 : Int) = some y81 from rfl)
            obtain ⟨c102, c104, rfl, g103, g105⟩ := marigraphlaw08_Act.r.1 h100
            refine sr (rw_el1 (off := 1) ag3 (h101 _ (Sm.refl _ _)) rfl rfl) ?_
            obtain ⟨y106, h107, h63⟩ := bnd_some h63
            refine sc (dc_call (vs := [v17, .int .i64 y81.Id]) can13 rfl ?_)
            refine (index_Index_Drop_w C.sb h46 h107).mono ?_
            rintro _ w108 ⟨S109, cs111, fp112, rfl, c110, h113, h114⟩
            refine ⟨_, rfl, ?_⟩
            have h115 : ∀ b, b ∈ fp47 → ¬ S44 b := fun b hb => (h46.lt b hb).2
            have h116 : ∀ b, b ∈ fp112 → w.heap.size ≤ b := fun b hb => (h114 b hb).elim (h48 b) (fun hl => Nat.le_trans C.up.size hl)
            replace h42 := h42.cf c110 h115
            replace C := C.ofc c110 (fun b hb => .inr (h48 b hb))
            refine W.e ?_
            obtain rfl := Option.some.inj h63
            exact ⟨_, _, _, C, ⟨rfl, rfl, rfl, rfl, rfl, trivial⟩, h42, h113, h116⟩
          · refine cw_f rfl b98 (cw_region (sv (mvv v17 rfl) (sv (rv_fieldAddr st30 rfl rfl) ?_)))
            obtain ⟨cs117, h118, h119⟩ := Ow.cellsO h84 (show at_ [y81] (0 : Int) = some y81 from rfl)
            obtain ⟨c120, c122, rfl, g121, g123⟩ := marigraphlaw08_Act.r.1 h118
            refine sr (rw_el1 (off := 2) ag28 (h119 _ (Sm.refl _ _)) rfl rfl) ?_
            obtain ⟨y124, h125, h63⟩ := bnd_some h63
            refine sc (dc_call (vs := [c120]) can15 rfl ?_)
            refine (marigraphlaw08_few_w C.sb g121 h125).mono ?_
            rintro _ w126 ⟨S127, v129, rfl, c128, h130⟩
            refine ⟨_, rfl, ?_⟩
            replace h46 := h46.cx c128
            replace h42 := h42.cx c128
            replace C := C.trans c128
            obtain ⟨y131, h132, h63⟩ := bnd_some h63
            refine sc (dc_call (vs := [v17, v129]) can14 rfl ?_)
            refine (index_Index_Add_w C.sb h46 h130 h132).mono ?_
            rintro _ w133 ⟨S134, cs136, fp137, rfl, c135, h138, h139⟩
            refine ⟨_, rfl, ?_⟩
            have h140 : ∀ b, b ∈ fp47 → ¬ S127 b := fun b hb => (h46.lt b hb).2
            have h141 : ∀ b, b ∈ fp137 → w.heap.size ≤ b := fun b hb => (h139 b hb).elim (h48 b) (fun hl => Nat.le_trans C.up.size hl)
            replace h42 := h42.cf c135 h140
            replace C := C.ofc c135 (fun b hb => .inr (h48 b hb))
            refine W.e ?_
            obtain rfl := Option.some.inj h63
            exact ⟨_, _, _, C, ⟨rfl, rfl, rfl, rfl, rfl, trivial⟩, h42, h138, h141⟩
        · rintro ρ w143 ⟨S142, fp145, cs147, C, h148, h42, h144, h146⟩
          refine h148.cw fun ρ => ?_
          clear h148
          refine cw_region ?_
          obtain ⟨y149, h150, h54⟩ := pur_some h54
          refine sv (rv_add rfl rfl h150) (sv (mvv (.int .i64 y149) rfl) (W.e ?_))
          obtain rfl := Option.some.inj h54
          exact ⟨_, rfl, ⟨_, _, _, C, ⟨rfl, rfl, rfl, rfl, rfl, trivial⟩, h42, h144, h146⟩⟩
      · refine cw_f rfl b59 (cw_exit ?_)
        obtain rfl := Option.some.inj h54
        have h151 := congrArg some h53
        obtain rfl := Option.some.inj h151
        exact ⟨_, _, _, C, ⟨rfl, rfl, trivial⟩, h46, h48⟩
    · rintro ρ w153 ⟨S152, fp155, cs157, C, h158, h154, h156⟩
      refine h158.cw fun ρ => ?_
      clear h158
      refine cw_seq fun K159 k160 => ?_
      refine cw_region (sv (mvv v17 rfl) ?_)
      obtain ⟨y161, h162, h⟩ := bnd_some h
      refine sc (dc_call (vs := [v17, .slice none 0 0]) can16 rfl ?_)
      refine (index_Index_Find_w C.sb h154 (sl_nil _ _ _) h162).mono ?_
      rintro _ w163 ⟨S164, v166, rfl, c165, h167⟩
      refine ⟨_, rfl, ?_⟩
      have p168 := ap_fresh (fun b hb => (h167.lt b hb).1) (fun b hb => (h154.lt b hb).1)
      replace h167 := h167.base C.up.size
      replace h154 := h154.cx c165
      replace C := C.trans c165
      refine sv (mvv (.tuple (List.toArray [v166, .int .i64 y161.2])) rfl) (sv (rv_extract rfl rfl) (sv (rv_extract rfl rfl) (sv (asv v166 rfl) (sv (asv (.int .i64 y161.2) rfl) (W.e (k160 _ _ ?_))))))
      obtain ⟨o169, h172, h⟩ := bnds_some h
      refine cw_seq' (fun ρ w1 => ∃ o169n, o169 = (.inl o169n) ∧ ∃ S1, Cx No S w S1 w1 ∧ Has ρ [(3, .bool y5), (7, v166), (8, .int .i64 y161.2)] ∧ Ow (kI .i64) 3 S1 w.heap.size w1 v166 y161.1) ?_ ?_
      · refine cw_seq fun K173 k174 => ?_
        refine cw_region (sv (mvv v166 rfl) (sv (rv_lenS el36 h167.sealed rfl) (sv (mvv (.int .i64 0) rfl) (W.e (k174 _ _ (cw_block ?_))))))
        refine cw_iter h172 (fun s ρ w1 => ∃ S1, Cx No S w S1 w1 ∧ Has ρ [(3, .bool y5), (4, v17), (7, v166), (8, .int .i64 y161.2), (45, v166), (46, .int .i64 (y161.1.length : Int)), (47, .int .i64 s)] ∧ Ow (kI .i64) 3 S1 w.heap.size w1 v166 y161.1 ∧ Obo 72 index_Index.fs S1 w1 v17 o30 cs157 fp155 ∧ (∀ b, Blk v166 b → ¬ b ∈ fp155)) ⟨_, C, ⟨rfl, rfl, rfl, rfl, rfl, rfl, rfl, trivial⟩, h167, h154, p168⟩ ?_
        rintro x180 q175 ρ w177 ⟨S176, C, h179, h167, h154, p178⟩ h182 h181
        refine h179.cw fun ρ => ?_
        clear h179
        replace h182 : marigraphlaw08_IndexAll.b5 o30 y161 x180 = some q175 := h182
        unfold marigraphlaw08_IndexAll.b5 at h182
        refine cw_seq fun K183 k184 => ?_
        refine cw_region (sv (rv_lss rfl rfl) (W.e (k184 _ _ ?_)))
        refine cw_seq fun K185 k186 => ?_
        rcases bif_some h182 with ⟨b187, h182⟩ | ⟨b187, h182⟩
        · refine cw_t rfl b187 (cw_skip (k186 _ _ ?_))
          obtain ⟨o188, h191, h182⟩ := bnds_some h182
          refine cw_seq' (fun ρ w1 => ∃ o188n, o188 = (.inl o188n) ∧ ∃ S1, Cx No S w S1 w1 ∧ Has ρ [(3, .bool y5), (4, v17), (7, v166), (8, .int .i64 y161.2), (45, v166), (46, .int .i64 (y161.1.length : Int)), (47, .int .i64 x180)] ∧ Ow (kI .i64) 3 S1 w.heap.size w1 v166 y161.1 ∧ Obo 72 index_Index.fs S1 w1 v17 o30 cs157 fp155 ∧ (∀ b, Blk v166 b → ¬ b ∈ fp155)) ?_ ?_
          · refine cw_block ?_
            refine cw_seq fun K192 k193 => ?_
            refine cw_region (sv (mvv (.int .i64 x180) rfl) ?_)
            obtain ⟨y194, h195, h191⟩ := bnd_some h191
            refine sv (rv_index el36 h167.sealed rfl rfl h195) (sr (rw_loadC el36 h167.sealed h195 rfl _ (Sm.refl _ _)) (sv (asv (.int .i64 x180) rfl) (sv (asv (.int .i64 y194) rfl) (W.e (k193 _ _ ?_)))))
            refine cw_seq fun K196 k197 => ?_
            refine cw_region (sv (mvv v17 rfl) (sv (mvv (.int .i64 y194) rfl) ?_))
            obtain ⟨y198, h199, h191⟩ := bnd_some h191
            refine sc (dc_call (vs := [v17, .int .i64 y194]) can19 rfl ?_)
            refine (index_Index_Labels_w C.sb h154 h199).mono ?_
            rintro _ w200 ⟨S201, v203, rfl, c202, h204⟩
            refine ⟨_, rfl, ?_⟩
            have p205 := ap_fresh (fun b hb => (h204.lt b hb).1) (fun b hb => (h154.lt b hb).1)
            have p206 := ap_fresh (fun b hb => (h204.lt b hb).1) (fun b hb => (h167.lt b hb).2)
            replace h204 := h204.base C.up.size
            replace h154 := h154.cx c202
            replace h167 := h167.cx c202
            replace C := C.trans c202
            refine sv (mvv (.tuple (List.toArray [v203, .bool y198.2])) rfl) (sv (rv_extract rfl rfl) (sv (rv_extract rfl rfl) (sv (asv v203 rfl) (sv (asv (.bool y198.2) rfl) (W.e (k197 _ _ ?_))))))
            refine cw_seq fun K207 k208 => ?_
            refine cw_region (sv (mvv v17 rfl) (sv (mvv v203 rfl) ?_))
            replace h154 := h154.or (ap_symm p205)
            replace h167 := h167.or (ap_symm p206)
            replace C := C.sealO h204
            replace h204 := h204.sealed
            obtain ⟨y209, h210, h191⟩ := bnd_some h191
            refine sc (dc_call (vs := [v17, v203]) can23 rfl ?_)
            refine (index_Index_Id_w C.sb h154 h204 h210).mono ?_
            rintro _ w211 ⟨S212, rfl, c213⟩
            refine ⟨_, rfl, ?_⟩
            replace h154 := h154.cx c213
            replace h167 := h167.cx c213
            replace C := C.trans c213
            refine sv (mvv (.tuple (List.toArray [.int .i64 y209.1, .bool y209.2])) rfl) (sv (rv_extract rfl rfl) (sv (rv_extract rfl rfl) (sv (asv (.int .i64 y209.1) rfl) (sv (asv (.bool y209.2) rfl) (W.e (k208 _ _ ?_))))))
            obtain ⟨o214, h217, h191⟩ := bnd_some h191
            refine cw_seq' (fun ρ w1 => ∃ S1, Cx No S w S1 w1 ∧ Has ρ [(3, .bool y5), (4, v17), (7, v166), (8, .int .i64 y161.2), (45, v166), (46, .int .i64 (y161.1.length : Int)), (47, .int .i64 x180), (87, .bool o214)] ∧ Ow (kI .i64) 3 S1 w.heap.size w1 v166 y161.1 ∧ Obo 72 index_Index.fs S1 w1 v17 o30 cs157 fp155 ∧ (∀ b, Blk v166 b → ¬ b ∈ fp155)) ?_ ?_
            · refine cw_region (sv (mvv (.bool y198.2) rfl) (sv (rv_not rfl) (sv (mvv (.bool (!y198.2)) rfl) ?_)))
              rcases bif_some h217 with ⟨b218, h217⟩ | ⟨b218, h217⟩
              · refine W.n (gn rfl rfl rfl b218) (W.n (gn rfl rfl rfl b218) (sv (ptk (.bool true) rfl b218 rfl) (sv (mvv (.bool true) rfl) (W.n (gn rfl rfl rfl rfl) (W.n (gn rfl rfl rfl rfl) (W.n (gn rfl rfl rfl rfl) (sv (ptk (.bool true) rfl rfl rfl) (sv (mvv (.bool true) rfl) (W.n (gn rfl rfl rfl rfl) (W.n (gn rfl rfl rfl rfl) (W.n (gn rfl rfl rfl rfl) ?_)))))))))))
                refine W.n (gu rfl rfl rfl) (W.n (gu rfl rfl rfl) (W.n (gu rfl rfl rfl) (W.n (gu rfl rfl rfl) (W.n (gu rfl rfl rfl) (W.n (gu rfl rfl rfl) (W.n (gu rfl rfl rfl) (W.n (gn rfl rfl rfl rfl) (sv (ptk (.bool true) rfl rfl rfl) (W.e ?_)))))))))
                obtain rfl := Option.some.inj h217
                exact ⟨_, C, ⟨rfl, rfl, rfl, rfl, rfl, rfl, rfl, rfl, trivial⟩, h167, h154, p178⟩
              · refine W.v (gy rfl rfl rfl b218) (mvv (.bool y209.2) rfl) (W.v (gy rfl rfl rfl b218) (rv_not rfl) (sv (pfk (.bool (!y209.2)) rfl b218 rfl) (sv (mvv (.bool (!y209.2)) rfl) ?_)))
                rcases bif_some h217 with ⟨b219, h217⟩ | ⟨b219, h217⟩
                · refine W.n (gn rfl rfl rfl b219) (W.n (gn rfl rfl rfl b219) (W.n (gn rfl rfl rfl b219) (sv (ptk (.bool true) rfl b219 rfl) (sv (mvv (.bool true) rfl) (W.n (gn rfl rfl rfl rfl) (W.n (gn rfl rfl rfl rfl) (W.n (gn rfl rfl rfl rfl) (W.n (gu rfl rfl rfl) (W.n (gu rfl rfl rfl) (W.n (gu rfl rfl rfl) (W.n (gu rfl rfl rfl) ?_)))))))))))
                  refine W.n (gu rfl rfl rfl) (W.n (gu rfl rfl rfl) (W.n (gu rfl rfl rfl) (W.n (gn rfl rfl rfl rfl) (sv (ptk (.bool true) rfl rfl rfl) (W.e ?_)))))
                  obtain rfl := Option.some.inj h217
                  exact ⟨_, C, ⟨rfl, rfl, rfl, rfl, rfl, rfl, rfl, rfl, trivial⟩, h167, h154, p178⟩
                · refine W.v (gy rfl rfl rfl b219) (mvv (.int .i64 y209.1) rfl) (W.v (gy rfl rfl rfl b219) (mvv (.int .i64 y194) rfl) (W.v (gy rfl rfl rfl b219) (rv_neq rfl rfl) (sv (pfk (.bool (y209.1 != y194)) rfl b219 rfl) (sv (mvv (.bool (y209.1 != y194)) rfl) ?_))))
                  rcases bif_some h217 with ⟨b220, h217⟩ | ⟨b220, h217⟩
                  · refine W.n (gn rfl rfl rfl b220) (W.n (gn rfl rfl rfl b220) (W.n (gn rfl rfl rfl b220) (W.n (gu rfl rfl rfl) (W.n (gu rfl rfl rfl) (W.n (gu rfl rfl rfl) (W.n (gu rfl rfl rfl) (W.n (gu rfl rfl rfl) (W.n (gu rfl rfl rfl) (W.n (gu rfl rfl rfl) (W.n (gn rfl rfl rfl b220) (sv (ptk (.bool true) rfl b220 rfl) ?_)))))))))))
                    refine W.e ?_
                    obtain rfl := Option.some.inj h217
                    exact ⟨_, C, ⟨rfl, rfl, rfl, rfl, rfl, rfl, rfl, rfl, trivial⟩, h167, h154, p178⟩
                  · refine W.v (gy rfl rfl rfl b220) (mvv (.int .i64 x180) rfl) (W.v (gy rfl rfl rfl b220) (rv_gtr rfl rfl) (W.v (gy rfl rfl rfl b220) (mvv (.bool (decide ((0 : Int) < x180))) rfl) ?_))
                    rcases bif_some h217 with ⟨b221, h217⟩ | ⟨b221, h217⟩
                    · refine W.v (gy rfl rfl rfl b221) (mvv (.int .i64 y194) rfl) (W.v (gy rfl rfl rfl b221) (mvv v166 rfl) (W.v (gy rfl rfl rfl b221) (mvv (.int .i64 x180) rfl) ?_))
                      obtain ⟨y222, h223, h217⟩ := pur_some h217
                      refine W.v (gy rfl rfl rfl b221) (rv_sub rfl rfl h223) ?_
                      obtain ⟨y224, h225, h217⟩ := bnd_some h217
                      refine W.v (gy rfl rfl rfl b221) (rv_index el36 h167.sealed rfl rfl h225) (W.r (gy rfl rfl rfl b221) (rw_loadC el36 h167.sealed h225 rfl _ (Sm.refl _ _)) (W.v (gy rfl rfl rfl b221) (rv_leq rfl rfl) (W.v (gy rfl rfl rfl b220) (ptk (.bool (decide (y194 ≤ y224))) rfl b221 rfl) (sv (pfk (.bool (decide (y194 ≤ y224))) rfl b220 rfl) (W.e ?_)))))
                      obtain rfl := Option.some.inj h217
                      exact ⟨_, C, ⟨rfl, rfl, rfl, rfl, rfl, rfl, rfl, rfl, trivial⟩, h167, h154, p178⟩
                    · refine W.n (gn rfl rfl rfl b221) (W.n (gn rfl rfl rfl b221) (W.n (gn rfl rfl rfl b221) (W.n (gn rfl rfl rfl b221) (W.n (gn rfl rfl rfl b221) (W.n (gn rfl rfl rfl b221) (W.n (gn rfl rfl rfl b221) (W.v (gy rfl rfl rfl b220) (pfk (.bool false) rfl b221 rfl) (sv (pfk (.bool false) rfl b220 rfl) (W.e ?_)))))))))
                      obtain rfl := Option.some.inj h217
                      exact ⟨_, C, ⟨rfl, rfl, rfl, rfl, rfl, rfl, rfl, rfl, trivial⟩, h167, h154, p178⟩
            · rintro ρ w227 ⟨S226, C, h229, h167, h154, p228⟩
              refine h229.cw fun ρ => ?_
              clear h229
              rcases bif_some h191 with ⟨b230, h191⟩ | ⟨b230, h191⟩
              · refine cw_t rfl b230 ?_
                refine cw_seq fun K231 k232 => ?_
                refine cw_region (sv (asv (.bool false) rfl) (W.e (k232 _ _ (cw_ret ?_))))
                obtain rfl := Option.some.inj h191
                replace h182 := h182.2 _ rfl
                obtain rfl := Option.some.inj h182
                have h233 := congrArg some h181
                obtain rfl := Option.some.inj h233
                replace h := h.2 _ rfl
                obtain rfl := Option.some.inj h
                exact ⟨_, rfl, _, rfl, C⟩
              · refine cw_f rfl b230 (cw_skip ?_)
                obtain rfl := Option.some.inj h191
                exact ⟨_, rfl, ⟨_, C, ⟨rfl, rfl, rfl, rfl, rfl, rfl, rfl, trivial⟩, h167, h154, p228⟩⟩
          · rintro ρ w235 ⟨o188n, rfl, ⟨S234, C, h237, h167, h154, p236⟩⟩
            replace h182 := h182.1 _ rfl
            refine h237.cw fun ρ => ?_
            clear h237
            refine cw_region ?_
            obtain ⟨y238, h239, h182⟩ := pur_some h182
            refine sv (rv_add rfl rfl h239) (sv (mvv (.int .i64 y238) rfl) (W.e ?_))
            obtain rfl := Option.some.inj h182
            exact ⟨_, rfl, ⟨_, C, ⟨rfl, rfl, rfl, rfl, rfl, rfl, rfl, trivial⟩, h167, h154, p236⟩⟩
        · refine cw_f rfl b187 (cw_exit ?_)
          obtain rfl := Option.some.inj h182
          have h240 := congrArg some h181
          obtain rfl := Option.some.inj h240
          exact ⟨_, rfl, ⟨_, C, ⟨rfl, rfl, rfl, trivial⟩, h167⟩⟩
      · rintro ρ w242 ⟨o169n, rfl, ⟨S241, C, h243, h167⟩⟩
        replace h := h.1 _ rfl
        refine h243.cw fun ρ => ?_
        clear h243
        obtain ⟨o244, h247, h⟩ := bnd_some h
        refine cw_seq' (fun ρ w1 => ∃ S1, Cx No S w S1 w1 ∧ Has ρ [(2, .bool o244)]) ?_ ?_
        · refine cw_region (sv (mvv (.bool y5) rfl) (sv (mvv (.bool y5) rfl) ?_))
          rcases bif_some h247 with ⟨b248, h247⟩ | ⟨b248, h247⟩
          · refine W.v (gy rfl rfl rfl b248) (mvv (.int .i64 y161.2) rfl) (W.v (gy rfl rfl rfl b248) (rv_eql rfl rfl) (sv (ptk (.bool (y161.2 == (0 : Int))) rfl b248 rfl) (sv (mvv (.bool (y161.2 == (0 : Int))) rfl) ?_)))
            rcases bif_some h247 with ⟨b249, h247⟩ | ⟨b249, h247⟩
            · refine W.v (gy rfl rfl rfl b249) (mvv v166 rfl) (W.v (gy rfl rfl rfl b249) (rv_lenS el36 h167.sealed rfl) (W.v (gy rfl rfl rfl b249) (rv_leq rfl rfl) (sv (ptk (.bool (decide ((y161.1.length : Int) ≤ (200 : Int)))) rfl b249 rfl) (sv (asv (.bool (decide ((y161.1.length : Int) ≤ (200 : Int)))) rfl) (W.e ?_)))))
              obtain rfl := Option.some.inj h247
              exact ⟨_, C, ⟨rfl, trivial⟩⟩
            · refine W.n (gn rfl rfl rfl b249) (W.n (gn rfl rfl rfl b249) (W.n (gn rfl rfl rfl b249) (sv (pfk (.bool false) rfl b249 rfl) (sv (asv (.bool false) rfl) (W.e ?_)))))
              obtain rfl := Option.some.inj h247
              exact ⟨_, C, ⟨rfl, trivial⟩⟩
          · refine W.n (gn rfl rfl rfl b248) (W.n (gn rfl rfl rfl b248) (sv (pfk (.bool false) rfl b248 rfl) (sv (mvv (.bool false) rfl) (W.n (gn rfl rfl rfl rfl) (W.n (gn rfl rfl rfl rfl) (W.n (gn rfl rfl rfl rfl) (sv (pfk (.bool false) rfl rfl rfl) (sv (asv (.bool false) rfl) (W.e ?_)))))))))
            obtain rfl := Option.some.inj h247
            exact ⟨_, C, ⟨rfl, trivial⟩⟩
        · rintro ρ w251 ⟨S250, C, h252⟩
          refine h252.cw fun ρ => ?_
          clear h252
          refine cw_ret ?_
          obtain rfl := Option.some.inj h
          exact ⟨_, rfl, _, rfl, C⟩


noncomputable def index_Index_Vals (a0 : Option index_Index) (a1 : ByteArray) : Option (List ByteArray) := match a0 with
  | none => some []
  | some x => if x.posts.length * 16 ≤ lim then some (strSort (((x.posts.map (·.1)).filter fun y => y.Name == a1).map (·.Val))) else none
set_option maxRecDepth 100000 in
set_option maxHeartbeats 4000000 in
theorem index_Index_Vals_w {S : Nat → Prop} {w : World} {a0 : Option index_Index} {a1 : ByteArray} {v0 : Value} {cs0 : List Value} {fp0 : List Nat} {r : List ByteArray} (hS : Sb S w) (h0 : Obo 72 index_Index.fs S w v0 a0 cs0 fp0) (h : index_Index_Vals a0 a1 = some r) :
    Calls Try.prog 24 (List.toArray [v0, .string a1]) w fun e w1 => ∃ S1 u0, e = .returned (u0) ∧ Cx No S w S1 w1 ∧ Ow kS 9 S1 w.heap.size w1 u0 r := by
  refine enter Try.func24 rfl (by kernel_rfl) rfl ?_
  have C := Cx.refl (F := No) hS
  unfold index_Index_Vals at h
  refine cw_seq fun K1 k1 => cw_region (sv (asv (.slice none 0 0) rfl) (W.e (k1 _ _ ?_)))
  refine cw_seq fun K2 k2 => cw_seq fun K3 k3 => cw_region (sv (mvv v0 rfl) (sv (rv_nileq Try.underlying25 rfl rfl h0.ne) (W.e (k3 _ _ ?_))))
  cases a0 with
  | none =>
    refine cw_t rfl rfl (cw_seq fun K4 k4 => cw_region (sv (asv (.slice none 0 0) rfl) (W.e (k4 _ _ (cw_ret ?_)))))
    obtain rfl := Option.some.inj h
    exact ⟨_, rfl, S, _, rfl, C, Ow.nil _ _ _ _ _⟩
  | some x =>
  dsimp only at h
  split at h
  case isFalse => cases h
  rename_i hlen
  have hr := Option.some.inj h
  refine cw_f rfl rfl (cw_skip (k2 _ _ ?_))
  have hq : Ob 72 (index_Index.fs x) S w v0 cs0 fp0 := h0
  refine cw_seq fun K5 k5 => cw_region (sv (asv (.slice none 0 0) rfl) (W.e (k5 _ _ ?_)))
  obtain ⟨c, hc⟩ := hq.at (i := 2) rfl
  obtain ⟨fi, hrep, hsub⟩ := Ob.rep hq (i := 2) rfl hc
  obtain ⟨b, L, cl, rfl, hfi, hSb, hM, hR⟩ := hrep
  have hbf : b ∈ fp0 := hsub b (by rw [hfi]; simp)
  have hlt : ∀ q ∈ fp0, q < w.heap.size := fun q hq2 => (hq.lt q hq2).1
  have hk : L.map (·.1) = x.posts.map (·.1) := hR.keys
  refine cw_seq' (fun ρ w2 => ∃ u, ∃ ks : List api_Label, Cx No S w S w2 ∧ Has ρ [(5, u)] ∧ Ow kS 9 S w.heap.size w2 u ((ks.filter fun y => y.Name == a1).map (·.Val)) ∧ ks.Perm (L.map (·.1))) ?_ ?_
  · refine cw_seq fun K6 k6 => ?_
    refine cw_region (sv (mvv v0 rfl) ?_)
    refine sv (rv_nilcheck rfl hq.ptr) (sv (rv_fieldAddr (b := pb v0) (o := 0) st72 rfl hq.ptr) (sr (rw_ofield (i := 2) (c := .map (some b)) hq ag69 hc rfl) ?_))
    refine sc (dc_range hM Try.underlying69 rfl fun rb w1 hrb hrl hI up => ?_)
    replace C := C.new up
    replace hM := hM.to (up.block b hM.lt fun h => h)
    refine W.e (k6 _ _ ?_)
    refine cw_block (cw_loop (fun n ρ w2 => ∃ rem lst u, ∃ ks : List api_Label, n = rem.length ∧ Cx No S w S w2 ∧ Has ρ [(1, .string a1), (5, u), (13, .pointer (some ⟨rb, 0, none⟩))] ∧ Mp ky_api_Label w2 b L cl ∧ It w2 rb b L cl rem lst ∧ Ow kS 9 S w.heap.size w2 u ((ks.filter fun y => y.Name == a1).map (·.Val)) ∧ (ks ++ rem.map (·.1)).Perm (L.map (·.1)) ∧ ¬ Blk u rb) _ ⟨L, none, _, [], rfl, C, ⟨rfl, rfl, rfl, trivial⟩, hM, hI, Ow.nil _ _ _ _ _, List.Perm.refl _, fun hb => ap_nil (B := fun _ => True) _ hb trivial⟩ ?_)
    clear C hM hI
    rintro n ρ w2 ⟨rem, lst, u, ks, rfl, C, hh, hM, hI, hO, hP, hrb2⟩
    refine hh.cw fun ρ => ?_
    clear hh
    have hbw : b < w.heap.size := hlt b hbf
    refine cw_seq fun K7 k7 => ?_
    refine cw_region (sc (dc_next hM hI rfl ?_ ?_))
    · rintro rfl
      refine sv (rv_extract rfl rfl) (W.e (k7 _ _ ?_))
      refine cw_seq fun K8 k8 => cw_f rfl rfl (cw_exit ⟨u, ks, C, ⟨rfl, trivial⟩, hO, by simpa using hP⟩)
    · intro e w3 he hI2 up2
      refine sv (rv_extract rfl rfl) (W.e (k7 _ _ ?_))
      refine cw_seq fun K8 k8 => cw_t rfl rfl (cw_skip (k8 _ _ ?_))
      replace C := C.ofp up2 (fun q hq => .inr (by have hq : q = rb := hq; omega))
      have hrS : ∀ q, One rb q → ¬ S q := fun q hq hs => by have hq : q = rb := hq; have := hS q hs; omega
      replace hO := hO.wr up2 hrS (fun q h1 h2 => by have h2 : q = rb := h2; rw [h2] at h1; exact hrb2 h1)
      replace hM := hM.to (up2.block b hM.lt fun hq => by have hq : b = rb := hq; omega)
      have heL : e ∈ L := hI.sub.subset he
      refine cw_block (cw_seq fun K10 k10 => ?_)
      refine cw_region (sr (rw_entry hM hI2 heL rfl) (sv (rv_extract rfl rfl) ?_))
      refine sc (dc_alloc zr59 fun lb w4 hl1 hl2 u4 k4 => ?_)
      refine sc (dc_store (vs := [.string e.1.Name, .string e.1.Val]) ag59 k4 rfl rfl (by intro c hc; simp only [List.mem_cons, List.not_mem_nil, or_false] at hc; rcases hc with rfl | rfl <;> rfl) rfl rfl rfl fun w5 u5 hz5 k5 => ?_)
      have u45 := u4.fresh hl1 u5
      replace C := C.new u45
      replace hO := hO.nw u45
      replace hM := hM.to (u45.block b hM.lt fun h => h)
      replace hI2 := hI2.to (u45.block rb hI2.lt fun h => h)
      refine W.e (k10 _ _ ?_)
      have hp1 : (ks ++ [e.1] ++ (rem.filter fun z => !decide (e.2.2 = z.2.2)).map (·.1)).Perm (L.map (·.1)) := (keys_step he (hI.born hM)).trans hP
      refine cw_seq fun K11 k11 => ?_
      refine cw_region (sv (rv_fieldAddr st59 rfl rfl) (sr (rw_bk ag9 k5 rfl rfl) (sv (mvv (.string a1) rfl) (sv (rv_seql rfl rfl) (W.e (k11 _ _ ?_))))))
      have hse : strEq e.1.Name a1 = (e.1.Name == a1) := by unfold strEq; rw [beq_toListBytes]
      cases hb : (e.1.Name == a1) with
      | false =>
        refine cw_f rfl (hse.trans hb) (cw_skip ?_)
        refine ⟨_, rest_lt he, _, some e, u, ks ++ [e.1], rfl, C, ⟨rfl, rfl, rfl, trivial⟩, hM, hI2, ?_, hp1, hrb2⟩
        rw [List.filter_append, List.filter_cons, if_neg (by rw [hb]; simp), List.filter_nil, List.append_nil]
        exact hO
      | true =>
        refine cw_t rfl (hse.trans hb) ?_
        refine cw_region (sv (mvv u rfl) (sv (rv_fieldAddr st59 rfl rfl) (sr (rw_bk ag9 k5 rfl rfl) (sc (dc_lit (vs := [.string e.1.Val]) (xs := [e.1.Val]) (base := w.heap.size) el55 rfl rfl (.cons (sl_sc.2 rfl) .nil) (Nat.le_of_ble_eq_true rfl) C.up.size C.sb fun u2 w6 hO2 hb2 up6 => ?_)))))
        replace C := C.new up6
        replace hO := hO.nw up6
        replace hM := hM.to (up6.block b hM.lt fun h => h)
        replace hI2 := hI2.to (up6.block rb hI2.lt fun h => h)
        have happ : app_ 16 ((ks.filter fun y => y.Name == a1).map (·.Val)) [e.1.Val] = some ((ks.filter fun y => y.Name == a1).map (·.Val) ++ [e.1.Val]) := by
          have h1 := hp1.length_eq
          simp only [List.length_append, List.length_map, List.length_cons, List.length_nil] at h1
          have hk2 := congrArg List.length hk
          simp only [List.length_map] at hk2 hlen
          have h3 := List.length_filter_le (fun y : api_Label => y.Name == a1) ks
          unfold app_
          rw [if_pos (by simp only [List.length_map, List.length_cons, List.length_nil]; omega)]
        refine sc (dc_append el55 (by decide) hO hO2.src rfl rfl happ C.up.size C.sb fun u3 w7 hO3 up7 hb3 => ?_)
        have hbu : ∀ q, q < w.heap.size → ¬ Blk u q := fun q hq hb => by have := (hO.lt q hb).1; omega
        have hrl2 := hI2.lt
        replace C := C.ow hO up7
        replace hM := hM.to (up7.block b hM.lt (hbu b hbw))
        have hI3 := hI2.to (up7.block rb hrl2 hrb2)
        refine sv (asv u3 rfl) (W.e ?_)
        refine ⟨_, rest_lt he, _, some e, u3, ks ++ [e.1], rfl, C, ⟨rfl, rfl, rfl, trivial⟩, hM, hI3, ?_, hp1, fun hb => (hb3 rb hb).elim hrb2 (fun hl => by omega)⟩
        rw [List.filter_append, List.filter_cons, if_pos hb, List.filter_nil, List.map_append]
        exact hO3
  · rintro ρ w2 ⟨u, ks, C, hh, hO, hP⟩
    refine hh.cw fun ρ => ?_
    clear hh
    refine cw_seq fun K11 k11 => cw_region (sv (mvv u rfl) (sc (dc_call (vs := [u]) can39 rfl ?_)))
    have he : strSort ((ks.filter fun y => y.Name == a1).map (·.Val)) = r := by
      rw [← hr, ← hk]
      exact sort_str_perm ((hP.filter _).map _)
    refine (sortS_w Try.slices_Sort_string Try.slices_Sort_string_none C.sb hO he).mono ?_
    rintro _ w3 ⟨rfl, up3, hO3⟩
    refine ⟨_, rfl, W.e (k11 _ _ ?_)⟩
    replace C := C.ow hO up3
    refine cw_seq fun K12 k12 => cw_region (sv (mvv u rfl) (sv (asv u rfl) (W.e (k12 _ _ (cw_ret ?_)))))
    exact ⟨_, rfl, S, u, rfl, C, hO3⟩

noncomputable def index_Index_Post (a0 : Option index_Index) (a1 : api_Label) : Option (List Int) :=
  (bif a0.isNone then some ([] : List Int) else ((a0).bind fun y21 => ((slices_Clone_int_int ((mget a1 y21.posts).getD ([] : List Int))).bind fun y31 => some y31)))
set_option maxRecDepth 100000 in
set_option maxHeartbeats 4000000 in
theorem index_Index_Post_w {S : Nat → Prop} {w : World} {a0 : Option index_Index} {a1 : api_Label} {v0 v1 : Value} {cs0 : List Value} {fp0 : List Nat} {r : (List Int)} (hS : Sb S w) (h0 : Obo 72 index_Index.fs S w v0 a0 cs0 fp0) (h1 : Sl api_Label.k S w v1 a1) (h : index_Index_Post a0 a1 = some r) :
    Calls Try.prog 25 (List.toArray [v0, v1]) w fun e w1 => ∃ S1 u0, e = .returned (u0) ∧ Cx No S w S1 w1 ∧ Ow (kI .i64) 3 S1 w.heap.size w1 u0 r := by
  refine enter Try.func25 rfl (by kernel_rfl) rfl ?_
  have C := Cx.refl (F := No) hS
  unfold index_Index_Post at h
  have hl0 : ∀ b ∈ fp0, b < w.heap.size := fun b hb => (h0.lt b hb).1
  obtain rfl := api_Label.o.1 h1
  refine cw_seq fun K1 k2 => ?_
  refine cw_region ?_
  refine sc (dc_boxS C.sb rfl fun b3 S4 w5 c6 h7 => ?_)
  replace h0 := h0.cx c6
  replace C := C.trans c6
  refine sv (asv (.slice none 0 0) rfl) (W.e (k2 _ _ ?_))
  refine cw_seq fun K9 k10 => ?_
  refine cw_seq fun K11 k12 => ?_
  refine cw_region (sv (mvv v0 rfl) (sv (rv_nileq Try.underlying25 rfl rfl h0.ne) (W.e (k12 _ _ ?_))))
  rcases bif_some h with ⟨b13, h⟩ | ⟨b13, h⟩
  · refine cw_t rfl b13 ?_
    refine cw_seq fun K14 k15 => ?_
    refine cw_region (sv (asv (.slice none 0 0) rfl) (W.e (k15 _ _ (cw_ret ?_))))
    obtain rfl := Option.some.inj h
    exact ⟨_, rfl, _, _, rfl, C, Ow.nil _ _ _ _ _⟩
  · refine cw_f rfl b13 (cw_skip (k10 _ _ ?_))
    refine cw_seq fun K16 k17 => ?_
    refine cw_drawU (.one 0 true (.one 1 true (.one 2 true (.one 3 true (.one 4 true (.one 5 true (.one 6 false (.one 7 true .done)))))))) [(3, [9]), (4, [9]), (5, [9])] [(6, [9])] (fun c => bif Nat.beq c 9 then (fun _ => True) else No) fol (by kernel_rfl) fun w18 u19 => ?_
    replace h0 := h0.nw u19
    replace h7 := h7.nw u19
    replace C := C.new u19
    have h0d := h0
    have h7d := h7
    have m20 := Sm.refl (fun _ => True) w18
    refine mtv rfl rfl (mvv v0 rfl) ?_
    obtain ⟨y21, h22, h⟩ := bnd_some h
    have h23 := h0
    rw [h22] at h23
    replace h23 : Ob 72 (index_Index.fs y21) _ _ _ _ _ := h23
    have h23d := h23
    refine mtv rfl rfl (rv_nilcheck rfl h23.ptr) (mtv rfl rfl (rv_fieldAddr (b := pb v0) (o := 0) st72 rfl h23.ptr) ?_)
    obtain ⟨c24, h25⟩ := h23.at (i := 2) rfl
    refine mtr rfl rfl ⟨m20, trivial⟩ (fun w' hq => rw_ofieldU (i := 2) (c := c24) h23 (hq.1.mono fun _ _ => trivial) ag69 h25 rfl) (mtr rfl rfl ⟨m20, trivial⟩ (fun w' hq => rw_bkA ag59 (h7.sm (hq.1.mono fun _ _ => trivial)) rfl rfl rfl) ?_)
    obtain ⟨_, h26, h27⟩ := Ob.rep h23 (i := 2) rfl h25
    obtain ⟨v28, h29, h30⟩ := rep_look (P := Try.prog) (tm := 69) (te := 36) (y0 := ([] : List Int)) h26 Try.underlying69 zv36 (sl_nil _ _ _) a1
    refine mtr rfl rfl ⟨m20, trivial⟩ (fun w' hq => (h30 (hq.1.mono fun _ _ => trivial) rfl rfl).1) ?_
    obtain ⟨y31, h32, h⟩ := bnd_some h
    refine mtc rfl rfl (dc_call (vs := [v28]) can35 rfl ?_)
    refine (slices_Clone_int_int_w C.sb h29 h32).mono ?_
    rintro _ w33 ⟨S34, v36, rfl, c35, h37⟩
    refine ⟨_, rfl, ?_⟩
    replace h37 := h37.base C.up.size
    replace C := C.trans c35
    have z38 := (c35.up).size
    have m39 := m20.nx c35.up (by omega)
    refine ⟨⟨m39, trivial⟩, ?_⟩
    refine mtv rfl rfl (asv v36 rfl) (MT.e (k17 _ _ (cw_ret ?_)))
    obtain rfl := Option.some.inj h
    exact ⟨_, rfl, _, _, rfl, C, h37⟩

noncomputable def marigraphlaw08_IndexVals.b2 (y36 : (List marigraphlaw08_Act)) (x51 : Int) (x52 : Option index_Index) : Option ((Int × (Option index_Index)) ⊕ ((Option index_Index))) :=
  (bif (decide (x51 < (y36.length : Int))) then (((at_ y36 x51).bind fun y66 => (pur y66 fun y81 => (pur (Int.tmod y81.Kind (5 : Int)) fun y96 => (bif (y96 == (3 : Int)) then ((index_Index_Drop x52 y81.Id).bind fun y106 => some y106.2) else ((marigraphlaw08_few y81.L).bind fun y124 => ((index_Index_Add x52 y124).bind fun y131 => some y131.2.2)))))).bind fun o60 => (pur (IntKind.i64.wrap (x51 + (1 : Int))) fun y149 => some (.inl (y149, o60)))) else some (.inr x52))
noncomputable def marigraphlaw08_IndexVals.b5 (o30 : ((Option index_Index))) (y163 : ByteArray) (y173 : (List ByteArray)) (x186 : Int) (x187 : ByteArray) (x188 : Int) : Option ((Int × ByteArray × Int) ⊕ ((Int) ⊕ (Bool))) :=
  (bif (decide (x188 < (y173.length : Int))) then (((at_ y173 x188).bind fun y202 => ((index_Index_Post o30 (api_Label.mk y163 y202)).bind fun y206 => (((bif (decide ((0 : Int) < x188)) then (bif (strLt y202 x187 || strEq y202 x187) then some true else some ((y206.length : Int) == (0 : Int))) else some ((y206.length : Int) == (0 : Int))).bind fun o219 => (bif o219 then some (.inr (.inr (.inr (.inr false)))) else some (.inl ()))).bind (Sum.elim (fun o215n => (pur (IntKind.i64.wrap (x186 + (y206.length : Int))) fun y241 => some (.inl (y241, y202)))) (fun q => some q))))).bind (Sum.elim (fun o196n => (pur (IntKind.i64.wrap (x188 + (1 : Int))) fun y247 => some (.inl (o196n.1, o196n.2, y247)))) (fun q => some q))) else some (.inr (.inl x186)))
noncomputable def marigraphlaw08_IndexVals (a0 : List marigraphlaw08_Act) (a1 : ByteArray) : Option Bool :=
  ((marigraphlaw08_shown).bind fun y5 => ((index_New).bind fun y12 => (bif y12.isNone then some false else (((marigraphlaw08_acts a0).bind fun y36 => (iter (fun s : Int × (Option index_Index) => marigraphlaw08_IndexVals.b2 y36 s.1 s.2) ((0 : Int), y12))).bind fun o30 => (pur (if (100 : Int) < (a1.size : Int) then (100 : Int) else (a1.size : Int)) fun y161 => ((supto_ a1 y161).bind fun y163 => (((index_Index_Vals o30 y163).bind fun y173 => (iter (fun s : Int × ByteArray × Int => marigraphlaw08_IndexVals.b5 o30 y163 y173 s.1 s.2.1 s.2.2) ((0 : Int), ByteArray.empty, (0 : Int)))).bind (Sum.elim (fun o167n => ((index_Index_Find o30 ([(api_Ask.mk (4 : Int) y163 ByteArray.empty)] : List api_Ask)).bind fun y261 => ((bif y5 then (bif (y261.2 != (0 : Int)) then (bif (o167n == (0 : Int)) then some true else (bif (y261.2 == (0 : Int)) then some ((y261.1.length : Int) == o167n) else some false)) else (bif (y261.2 == (0 : Int)) then some ((y261.1.length : Int) == o167n) else some false)) else some false).bind fun o268 => some o268))) (fun q => some q)))))))))
set_option maxRecDepth 100000 in
set_option maxHeartbeats 4000000 in
theorem marigraphlaw08_IndexVals_w {S : Nat → Prop} {w : World} {a0 : List marigraphlaw08_Act} {a1 : ByteArray} {v0 : Value} {r : Bool} (hS : Sb S w) (h0 : Sl (kSl marigraphlaw08_Act.k) S w v0 a0) (h : marigraphlaw08_IndexVals a0 a1 = some r) :
    Calls Try.prog 7 (List.toArray [v0, .string a1]) w fun e w1 => ∃ S1, e = .returned (.bool r) ∧ Cx No S w S1 w1 := by
  refine enter Try.func7 rfl (by kernel_rfl) rfl ?_
  have C := Cx.refl (F := No) hS
  unfold marigraphlaw08_IndexVals at h
  refine cw_seq fun K1 k2 => ?_
  refine cw_region (sv (asv (.bool false) rfl) (W.e (k2 _ _ ?_)))
  refine cw_seq fun K3 k4 => ?_
  refine cw_region ?_
  obtain ⟨y5, h6, h⟩ := bnd_some h
  refine sc (dc_call (vs := []) can10 rfl ?_)
  refine (marigraphlaw08_shown_w C.sb  h6).mono ?_
  rintro _ w7 ⟨S8, rfl, c9⟩
  refine ⟨_, rfl, ?_⟩
  replace h0 := h0.cx c9
  replace C := C.trans c9
  refine sv (asv (.bool y5) rfl) (W.e (k4 _ _ ?_))
  refine cw_seq fun K10 k11 => ?_
  refine cw_region ?_
  obtain ⟨y12, h13, h⟩ := bnd_some h
  refine sc (dc_call (vs := []) can11 rfl ?_)
  refine (index_New_w C.sb  h13).mono ?_
  rintro _ w14 ⟨S15, v17, cs18, fp19, rfl, c16, h20, h21⟩
  refine ⟨_, rfl, ?_⟩
  have h22 : ∀ b, b ∈ fp19 → w.heap.size ≤ b := fun b hb => Nat.le_trans C.up.size (h21 b hb)
  replace h0 := h0.cx c16
  replace C := C.trans c16
  refine sv (asv v17 rfl) (W.e (k11 _ _ ?_))
  refine cw_seq fun K23 k24 => ?_
  refine cw_seq fun K25 k26 => ?_
  refine cw_region (sv (mvv v17 rfl) (sv (rv_nileq Try.underlying25 rfl rfl h20.ne) (W.e (k26 _ _ ?_))))
  rcases bif_some h with ⟨b27, h⟩ | ⟨b27, h⟩
  · refine cw_t rfl b27 ?_
    refine cw_seq fun K28 k29 => ?_
    refine cw_region (sv (asv (.bool false) rfl) (W.e (k29 _ _ (cw_ret ?_))))
    obtain rfl := Option.some.inj h
    exact ⟨_, rfl, _, rfl, C⟩
  · refine cw_f rfl b27 (cw_skip (k24 _ _ ?_))
    obtain ⟨o30, h33, h⟩ := bnd_some h
    refine cw_seq' (fun ρ w1 => ∃ S1 fp155 cs157, Cx No S w S1 w1 ∧ Has ρ [(1, .string a1), (5, .bool y5), (6, v17)] ∧ Obo 72 index_Index.fs S1 w1 v17 o30 cs157 fp155 ∧ (∀ b, b ∈ fp155 → w.heap.size ≤ b)) ?_ ?_
    · refine cw_seq fun K34 k35 => ?_
      refine cw_region (sv (mvv v0 rfl) ?_)
      obtain ⟨y36, h37, h33⟩ := bnd_some h33
      refine sc (dc_call (vs := [v0]) can12 rfl ?_)
      refine (marigraphlaw08_acts_w C.sb h0 h37).mono ?_
      rintro _ w38 ⟨S39, v41, rfl, c40, h42⟩
      refine ⟨_, rfl, ?_⟩
      replace h20 := h20.cx c40
      replace C := C.trans c40
      refine sv (rv_lenS el22 h42 rfl) (sv (mvv (.int .i64 0) rfl) (W.e (k35 _ _ (cw_block ?_))))
      refine cw_iter h33 (fun s ρ w1 => ∃ S1 fp47 cs49, Cx No S w S1 w1 ∧ Has ρ [(1, .string a1), (5, .bool y5), (6, v17), (22, v41), (23, .int .i64 (y36.length : Int)), (24, .int .i64 s.1)] ∧ Sl (kSl marigraphlaw08_Act.k) S1 w1 v41 y36 ∧ Obo 72 index_Index.fs S1 w1 v17 s.2 cs49 fp47 ∧ (∀ b, b ∈ fp47 → w.heap.size ≤ b)) ⟨_, _, _, C, ⟨rfl, rfl, rfl, rfl, rfl, rfl, trivial⟩, h42, h20, h22⟩ ?_
      rintro ⟨x51, x52⟩ q43 ρ w45 ⟨S44, fp47, cs49, C, h50, h42, h46, h48⟩ h54 h53
      refine h50.cw fun ρ => ?_
      clear h50
      replace h54 : marigraphlaw08_IndexVals.b2 y36 x51 x52 = some q43 := h54
      unfold marigraphlaw08_IndexVals.b2 at h54
      refine cw_seq fun K55 k56 => ?_
      refine cw_region (sv (rv_lss rfl rfl) (W.e (k56 _ _ ?_)))
      refine cw_seq fun K57 k58 => ?_
      rcases bif_some h54 with ⟨b59, h54⟩ | ⟨b59, h54⟩
      · refine cw_t rfl b59 (cw_skip (k58 _ _ ?_))
        obtain ⟨o60, h63, h54⟩ := bnd_some h54
        refine cw_seq' (fun ρ w1 => ∃ S1 fp145 cs147, Cx No S w S1 w1 ∧ Has ρ [(1, .string a1), (5, .bool y5), (6, v17), (22, v41), (23, .int .i64 (y36.length : Int)), (24, .int .i64 x51)] ∧ Sl (kSl marigraphlaw08_Act.k) S1 w1 v41 y36 ∧ Obo 72 index_Index.fs S1 w1 v17 o60 cs147 fp145 ∧ (∀ b, b ∈ fp145 → w.heap.size ≤ b)) ?_ ?_
        · refine cw_block ?_
          refine cw_seq fun K64 k65 => ?_
          refine cw_region ?_
          obtain ⟨y66, h67, h63⟩ := bnd_some h63
          refine sv (rv_index el22 h42 rfl rfl h67) ?_
          obtain ⟨v68, h69, h70⟩ := rw_loadA (P := Try.prog) el22 h42 h67
          obtain ⟨c71, c73, rfl, g72, g74⟩ := marigraphlaw08_Act.o.1 h69
          refine sr (h70 _ (Sm.refl _ _) rfl) ?_
          refine sc (dc_allocO (x0 := (marigraphlaw08_Act.mk (0 : Int) (0 : Int) ([] : List api_Label) ([] : List api_Ask))) (base := w.heap.size) el22 zr30 (fun _ => marigraphlaw08_Act.r.2 ⟨_, _, rfl, sl_nil _ _ _, sl_nil _ _ _⟩) C.up.size C.sb fun b75 w76 h77 h78 u79 => ?_)
          have p80 := ap_fresh h78 (fun b hb => (h46.lt b hb).1)
          replace h46 := h46.nw u79
          replace h42 := h42.nw u79
          replace g72 := g72.nw u79
          replace g74 := g74.nw u79
          replace C := C.new u79
          obtain ⟨y81, h82, h63⟩ := pur_some h63
          have h86 := h77
          refine sc (dc_storeO el22 h86 (show at_ [(marigraphlaw08_Act.mk (0 : Int) (0 : Int) ([] : List api_Label) ([] : List api_Ask))] (0 : Int) = some (marigraphlaw08_Act.mk (0 : Int) (0 : Int) ([] : List api_Label) ([] : List api_Ask)) from rfl) rfl rfl ((marigraphlaw08_Act.o.2 ⟨_, _, rfl, g72, g74⟩)) fun w83 h84 u85 => ?_)
          replace h84 : Ow marigraphlaw08_Act.k 30 S44 w.heap.size w83 (.slice (some ⟨b75, 0, none⟩) 1 1) [y66] := h84
          rw [h82] at h84
          replace h46 := h46.wr u85 h86.not (ap_symm p80)
          replace h42 := h42.wr u85 h86.not
          replace C := C.ow h86 u85
          refine W.e (k65 _ _ ?_)
          refine cw_seq fun K87 k88 => ?_
          refine cw_region (sv (rv_fieldAddr st30 rfl rfl) ?_)
          obtain ⟨cs89, h90, h91⟩ := Ow.cellsO h84 (show at_ [y81] (0 : Int) = some y81 from rfl)
          obtain ⟨c92, c94, rfl, g93, g95⟩ := marigraphlaw08_Act.r.1 h90
          refine sr (rw_el1 (off := 0) ag5 (h91 _ (Sm.refl _ _)) rfl rfl) ?_
          obtain ⟨y96, h97, h63⟩ := pur_some h63
          refine sv (rv_rem rfl rfl (by decide) h97) (sv (rv_eql rfl rfl) (W.e (k88 _ _ ?_)))
          rcases bif_some h63 with ⟨b98, h63⟩ | ⟨b98, h63⟩
          · refine cw_t rfl b98 (cw_region (sv (mvv v17 rfl) (sv (rv_fieldAddr st30 rfl rfl) ?_)))
            obtain ⟨cs99, h100, h101⟩ := Ow.cellsO h84 (show at_ [y81] (0 : Int) = some y81 from rfl)
            obtain ⟨c102, c104, rfl, g103, g105⟩ := marigraphlaw08_Act.r.1 h100
            refine sr (rw_el1 (off := 1) ag3 (h101 _ (Sm.refl _ _)) rfl rfl) ?_
            obtain ⟨y106, h107, h63⟩ := bnd_some h63
            refine sc (dc_call (vs := [v17, .int .i64 y81.Id]) can13 rfl ?_)
            refine (index_Index_Drop_w C.sb h46 h107).mono ?_
            rintro _ w108 ⟨S109, cs111, fp112, rfl, c110, h113, h114⟩
            refine ⟨_, rfl, ?_⟩
            have h115 : ∀ b, b ∈ fp47 → ¬ S44 b := fun b hb => (h46.lt b hb).2
            have h116 : ∀ b, b ∈ fp112 → w.heap.size ≤ b := fun b hb => (h114 b hb).elim (h48 b) (fun hl => Nat.le_trans C.up.size hl)
            replace h42 := h42.cf c110 h115
            replace C := C.ofc c110 (fun b hb => .inr (h48 b hb))
            refine W.e ?_
            obtain rfl := Option.some.inj h63
            exact ⟨_, _, _, C, ⟨rfl, rfl, rfl, rfl, rfl, rfl, trivial⟩, h42, h113, h116⟩
          · refine cw_f rfl b98 (cw_region (sv (mvv v17 rfl) (sv (rv_fieldAddr st30 rfl rfl) ?_)))
            obtain ⟨cs117, h118, h119⟩ := Ow.cellsO h84 (show at_ [y81] (0 : Int) = some y81 from rfl)
            obtain ⟨c120, c122, rfl, g121, g123⟩ := marigraphlaw08_Act.r.1 h118
            refine sr (rw_el1 (off := 2) ag28 (h119 _ (Sm.refl _ _)) rfl rfl) ?_
            obtain ⟨y124, h125, h63⟩ := bnd_some h63
            refine sc (dc_call (vs := [c120]) can15 rfl ?_)
            refine (marigraphlaw08_few_w C.sb g121 h125).mono ?_
            rintro _ w126 ⟨S127, v129, rfl, c128, h130⟩
            refine ⟨_, rfl, ?_⟩
            replace h46 := h46.cx c128
            replace h42 := h42.cx c128
            replace C := C.trans c128
            obtain ⟨y131, h132, h63⟩ := bnd_some h63
            refine sc (dc_call (vs := [v17, v129]) can14 rfl ?_)
            refine (index_Index_Add_w C.sb h46 h130 h132).mono ?_
            rintro _ w133 ⟨S134, cs136, fp137, rfl, c135, h138, h139⟩
            refine ⟨_, rfl, ?_⟩
            have h140 : ∀ b, b ∈ fp47 → ¬ S127 b := fun b hb => (h46.lt b hb).2
            have h141 : ∀ b, b ∈ fp137 → w.heap.size ≤ b := fun b hb => (h139 b hb).elim (h48 b) (fun hl => Nat.le_trans C.up.size hl)
            replace h42 := h42.cf c135 h140
            replace C := C.ofc c135 (fun b hb => .inr (h48 b hb))
            refine W.e ?_
            obtain rfl := Option.some.inj h63
            exact ⟨_, _, _, C, ⟨rfl, rfl, rfl, rfl, rfl, rfl, trivial⟩, h42, h138, h141⟩
        · rintro ρ w143 ⟨S142, fp145, cs147, C, h148, h42, h144, h146⟩
          refine h148.cw fun ρ => ?_
          clear h148
          refine cw_region ?_
          obtain ⟨y149, h150, h54⟩ := pur_some h54
          refine sv (rv_add rfl rfl h150) (sv (mvv (.int .i64 y149) rfl) (W.e ?_))
          obtain rfl := Option.some.inj h54
          exact ⟨_, rfl, ⟨_, _, _, C, ⟨rfl, rfl, rfl, rfl, rfl, rfl, trivial⟩, h42, h144, h146⟩⟩
      · refine cw_f rfl b59 (cw_exit ?_)
        obtain rfl := Option.some.inj h54
        have h151 := congrArg some h53
        obtain rfl := Option.some.inj h151
        exact ⟨_, _, _, C, ⟨rfl, rfl, rfl, trivial⟩, h46, h48⟩
    · rintro ρ w153 ⟨S152, fp155, cs157, C, h158, h154, h156⟩
      refine h158.cw fun ρ => ?_
      clear h158
      refine cw_seq fun K159 k160 => ?_
      refine cw_region (sv (mvv (.string a1) rfl) (sv (mvv (.string a1) rfl) (sv (rv_slen Try.underlying9 rfl) ?_)))
      obtain ⟨y161, h162, h⟩ := pur_some h
      refine sv (rv_min rfl rfl h162) ?_
      obtain ⟨y163, h164, h⟩ := bnd_some h
      refine sv (rv_supto Try.underlying9 rfl rfl h164) (sv (asv (.string y163) rfl) (W.e (k160 _ _ ?_)))
      refine cw_seq fun K165 k166 => ?_
      refine cw_region (sv (asv (.int .i64 0) rfl) (sv (asv (.string ByteArray.empty) rfl) (W.e (k166 _ _ ?_))))
      obtain ⟨o167, h170, h⟩ := bnds_some h
      refine cw_seq' (fun ρ w1 => ∃ o167n, o167 = (.inl o167n) ∧ ∃ S1, Cx No S w S1 w1 ∧ Has ρ [(5, .bool y5), (6, v17), (9, .string y163), (10, .int .i64 o167n)] ∧ Obo 72 index_Index.fs S1 w1 v17 o30 cs157 fp155) ?_ ?_
      · refine cw_seq fun K171 k172 => ?_
        refine cw_region (sv (mvv v17 rfl) (sv (mvv (.string y163) rfl) ?_))
        obtain ⟨y173, h174, h170⟩ := bnd_some h170
        refine sc (dc_call (vs := [v17, .string y163]) can24 rfl ?_)
        refine (index_Index_Vals_w C.sb h154 h174).mono ?_
        rintro _ w175 ⟨S176, v178, rfl, c177, h179⟩
        refine ⟨_, rfl, ?_⟩
        have p180 := ap_fresh (fun b hb => (h179.lt b hb).1) (fun b hb => (h154.lt b hb).1)
        replace h179 := h179.base C.up.size
        replace h154 := h154.cx c177
        replace C := C.trans c177
        refine sv (rv_lenS el55 h179.sealed rfl) (sv (mvv (.int .i64 0) rfl) (W.e (k172 _ _ (cw_block ?_))))
        refine cw_iter h170 (fun s ρ w1 => ∃ S1, Cx No S w S1 w1 ∧ Has ρ [(5, .bool y5), (6, v17), (9, .string y163), (10, .int .i64 s.1), (11, .string s.2.1), (49, v178), (50, .int .i64 (y173.length : Int)), (51, .int .i64 s.2.2)] ∧ Ow kS 9 S1 w.heap.size w1 v178 y173 ∧ Obo 72 index_Index.fs S1 w1 v17 o30 cs157 fp155 ∧ (∀ b, Blk v178 b → ¬ b ∈ fp155)) ⟨_, C, ⟨rfl, rfl, rfl, rfl, rfl, rfl, rfl, rfl, trivial⟩, h179, h154, p180⟩ ?_
        rintro ⟨x186, x187, x188⟩ q181 ρ w183 ⟨S182, C, h185, h179, h154, p184⟩ h190 h189
        refine h185.cw fun ρ => ?_
        clear h185
        replace h190 : marigraphlaw08_IndexVals.b5 o30 y163 y173 x186 x187 x188 = some q181 := h190
        unfold marigraphlaw08_IndexVals.b5 at h190
        refine cw_seq fun K191 k192 => ?_
        refine cw_region (sv (rv_lss rfl rfl) (W.e (k192 _ _ ?_)))
        refine cw_seq fun K193 k194 => ?_
        rcases bif_some h190 with ⟨b195, h190⟩ | ⟨b195, h190⟩
        · refine cw_t rfl b195 (cw_skip (k194 _ _ ?_))
          obtain ⟨o196, h199, h190⟩ := bnds_some h190
          refine cw_seq' (fun ρ w1 => ∃ o196n, o196 = (.inl o196n) ∧ ∃ S1, Cx No S w S1 w1 ∧ Has ρ [(5, .bool y5), (6, v17), (9, .string y163), (10, .int .i64 o196n.1), (11, .string o196n.2), (49, v178), (50, .int .i64 (y173.length : Int)), (51, .int .i64 x188)] ∧ Ow kS 9 S1 w.heap.size w1 v178 y173 ∧ Obo 72 index_Index.fs S1 w1 v17 o30 cs157 fp155 ∧ (∀ b, Blk v178 b → ¬ b ∈ fp155)) ?_ ?_
          · refine cw_block ?_
            refine cw_seq fun K200 k201 => ?_
            refine cw_region (sv (mvv (.int .i64 x188) rfl) ?_)
            obtain ⟨y202, h203, h199⟩ := bnd_some h199
            refine sv (rv_index el55 h179.sealed rfl rfl h203) (sr (rw_loadC el55 h179.sealed h203 rfl _ (Sm.refl _ _)) (sv (asv (.int .i64 x188) rfl) (sv (asv (.string y202) rfl) (W.e (k201 _ _ ?_)))))
            refine cw_seq fun K204 k205 => ?_
            refine cw_region (sv (mvv v17 rfl) (sv (mvv (.string y163) rfl) (sv (mvv (.string y202) rfl) (sv (rv_build (r := [.string y163, .string y202]) st59 zr59 rfl) ?_))))
            obtain ⟨y206, h207, h199⟩ := bnd_some h199
            refine sc (dc_call (vs := [v17, .agg (List.toArray [.string y163, .string y202])]) can25 rfl ?_)
            refine (index_Index_Post_w C.sb h154 ((api_Label.o (x := (api_Label.mk y163 y202))).2 rfl) h207).mono ?_
            rintro _ w208 ⟨S209, v211, rfl, c210, h212⟩
            refine ⟨_, rfl, ?_⟩
            have p213 := ap_fresh (fun b hb => (h212.lt b hb).1) (fun b hb => (h154.lt b hb).1)
            have p214 := ap_fresh (fun b hb => (h212.lt b hb).1) (fun b hb => (h179.lt b hb).2)
            replace h212 := h212.base C.up.size
            replace h154 := h154.cx c210
            replace h179 := h179.cx c210
            replace C := C.trans c210
            refine sv (asv v211 rfl) (W.e (k205 _ _ ?_))
            obtain ⟨o215, h218, h199⟩ := bnds_some h199
            refine cw_seq' (fun ρ w1 => ∃ o215n, o215 = (.inl o215n) ∧ ∃ S1, Cx No S w S1 w1 ∧ Has ρ [(5, .bool y5), (6, v17), (9, .string y163), (10, .int .i64 x186), (13, .string y202), (14, v211), (49, v178), (50, .int .i64 (y173.length : Int)), (51, .int .i64 x188)] ∧ Ow (kI .i64) 3 S1 w.heap.size w1 v211 y206 ∧ Ow kS 9 S1 w.heap.size w1 v178 y173 ∧ Obo 72 index_Index.fs S1 w1 v17 o30 cs157 fp155 ∧ Ap v211 v178 ∧ (∀ b, Blk v211 b → ¬ b ∈ fp155) ∧ (∀ b, Blk v178 b → ¬ b ∈ fp155)) ?_ ?_
            · obtain ⟨o219, h222, h218⟩ := bnd_some h218
              refine cw_seq' (fun ρ w1 => ∃ S1, Cx No S w S1 w1 ∧ Has ρ [(5, .bool y5), (6, v17), (9, .string y163), (10, .int .i64 x186), (13, .string y202), (14, v211), (49, v178), (50, .int .i64 (y173.length : Int)), (51, .int .i64 x188), (72, .bool o219)] ∧ Ow (kI .i64) 3 S1 w.heap.size w1 v211 y206 ∧ Ow kS 9 S1 w.heap.size w1 v178 y173 ∧ Obo 72 index_Index.fs S1 w1 v17 o30 cs157 fp155 ∧ Ap v211 v178 ∧ (∀ b, Blk v211 b → ¬ b ∈ fp155) ∧ (∀ b, Blk v178 b → ¬ b ∈ fp155)) ?_ ?_
              · refine cw_region (sv (mvv (.int .i64 x188) rfl) (sv (rv_gtr rfl rfl) (sv (mvv (.bool (decide ((0 : Int) < x188))) rfl) ?_)))
                rcases bif_some h222 with ⟨b223, h222⟩ | ⟨b223, h222⟩
                · refine W.v (gy rfl rfl rfl b223) (mvv (.string y202) rfl) (W.v (gy rfl rfl rfl b223) (mvv (.string x187) rfl) (W.v (gy rfl rfl rfl b223) (rv_sleq rfl rfl) (sv (ptk (.bool (strLt y202 x187 || strEq y202 x187)) rfl b223 rfl) (sv (mvv (.bool (strLt y202 x187 || strEq y202 x187)) rfl) ?_))))
                  rcases bif_some h222 with ⟨b224, h222⟩ | ⟨b224, h222⟩
                  · refine W.n (gn rfl rfl rfl b224) (W.n (gn rfl rfl rfl b224) (W.n (gn rfl rfl rfl b224) (sv (ptk (.bool true) rfl b224 rfl) (W.e ?_))))
                    obtain rfl := Option.some.inj h222
                    exact ⟨_, C, ⟨rfl, rfl, rfl, rfl, rfl, rfl, rfl, rfl, rfl, rfl, trivial⟩, h212, h179, h154, p214, p213, p184⟩
                  · refine W.v (gy rfl rfl rfl b224) (mvv v211 rfl) (W.v (gy rfl rfl rfl b224) (rv_lenS el36 h212.sealed rfl) (W.v (gy rfl rfl rfl b224) (rv_eql rfl rfl) (sv (pfk (.bool ((y206.length : Int) == (0 : Int))) rfl b224 rfl) (W.e ?_))))
                    obtain rfl := Option.some.inj h222
                    exact ⟨_, C, ⟨rfl, rfl, rfl, rfl, rfl, rfl, rfl, rfl, rfl, rfl, trivial⟩, h212, h179, h154, p214, p213, p184⟩
                · refine W.n (gn rfl rfl rfl b223) (W.n (gn rfl rfl rfl b223) (W.n (gn rfl rfl rfl b223) (sv (pfk (.bool false) rfl b223 rfl) (sv (mvv (.bool false) rfl) (W.v (gy rfl rfl rfl rfl) (mvv v211 rfl) (W.v (gy rfl rfl rfl rfl) (rv_lenS el36 h212.sealed rfl) (W.v (gy rfl rfl rfl rfl) (rv_eql rfl rfl) (sv (pfk (.bool ((y206.length : Int) == (0 : Int))) rfl rfl rfl) (W.e ?_)))))))))
                  obtain rfl := Option.some.inj h222
                  exact ⟨_, C, ⟨rfl, rfl, rfl, rfl, rfl, rfl, rfl, rfl, rfl, rfl, trivial⟩, h212, h179, h154, p214, p213, p184⟩
              · rintro ρ w226 ⟨S225, C, h230, h212, h179, h154, p227, p228, p229⟩
                refine h230.cw fun ρ => ?_
                clear h230
                rcases bif_some h218 with ⟨b231, h218⟩ | ⟨b231, h218⟩
                · refine cw_t rfl b231 ?_
                  refine cw_seq fun K232 k233 => ?_
                  refine cw_region (sv (asv (.bool false) rfl) (W.e (k233 _ _ (cw_ret ?_))))
                  obtain rfl := Option.some.inj h218
                  replace h199 := h199.2 _ rfl
                  obtain rfl := Option.some.inj h199
                  replace h190 := h190.2 _ rfl
                  obtain rfl := Option.some.inj h190
                  have h234 := congrArg some h189
                  obtain rfl := Option.some.inj h234
                  replace h := h.2 _ rfl
                  obtain rfl := Option.some.inj h
                  exact ⟨_, rfl, _, rfl, C⟩
                · refine cw_f rfl b231 (cw_skip ?_)
                  obtain rfl := Option.some.inj h218
                  exact ⟨_, rfl, ⟨_, C, ⟨rfl, rfl, rfl, rfl, rfl, rfl, rfl, rfl, rfl, trivial⟩, h212, h179, h154, p227, p228, p229⟩⟩
            · rintro ρ w236 ⟨o215n, rfl, ⟨S235, C, h240, h212, h179, h154, p237, p238, p239⟩⟩
              replace h199 := h199.1 _ rfl
              refine h240.cw fun ρ => ?_
              clear h240
              refine cw_region (sv (mvv (.int .i64 x186) rfl) (sv (mvv v211 rfl) (sv (rv_lenS el36 h212.sealed rfl) ?_)))
              obtain ⟨y241, h242, h199⟩ := pur_some h199
              refine sv (rv_add rfl rfl h242) (sv (mvv (.string y202) rfl) (sv (asv (.int .i64 y241) rfl) (sv (asv (.string y202) rfl) (W.e ?_))))
              obtain rfl := Option.some.inj h199
              exact ⟨_, rfl, ⟨_, C, ⟨rfl, rfl, rfl, rfl, rfl, rfl, rfl, rfl, trivial⟩, h179, h154, p239⟩⟩
          · rintro ρ w244 ⟨o196n, rfl, ⟨S243, C, h246, h179, h154, p245⟩⟩
            replace h190 := h190.1 _ rfl
            refine h246.cw fun ρ => ?_
            clear h246
            refine cw_region ?_
            obtain ⟨y247, h248, h190⟩ := pur_some h190
            refine sv (rv_add rfl rfl h248) (sv (mvv (.int .i64 y247) rfl) (W.e ?_))
            obtain rfl := Option.some.inj h190
            exact ⟨_, rfl, ⟨_, C, ⟨rfl, rfl, rfl, rfl, rfl, rfl, rfl, rfl, trivial⟩, h179, h154, p245⟩⟩
        · refine cw_f rfl b195 (cw_exit ?_)
          obtain rfl := Option.some.inj h190
          have h249 := congrArg some h189
          obtain rfl := Option.some.inj h249
          exact ⟨_, rfl, ⟨_, C, ⟨rfl, rfl, rfl, rfl, trivial⟩, h154⟩⟩
      · rintro ρ w251 ⟨o167n, rfl, ⟨S250, C, h252, h154⟩⟩
        replace h := h.1 _ rfl
        refine h252.cw fun ρ => ?_
        clear h252
        refine cw_seq fun K253 k254 => ?_
        refine cw_region (sv (mvv v17 rfl) (sv (mvv (.string y163) rfl) (sv (rv_build (r := [.int .u8 4, .string y163, .string ByteArray.empty]) st47 zr47 rfl) ?_)))
        refine sc (dc_lit (vs := [.agg (List.toArray [.int .u8 4, .string y163, .string ByteArray.empty])]) (xs := ([(api_Ask.mk (4 : Int) y163 ByteArray.empty)] : List api_Ask)) (base := w.heap.size) el23 rfl rfl (.cons ((api_Ask.o (x := (api_Ask.mk (4 : Int) y163 ByteArray.empty))).2 rfl) (.nil)) (Nat.le_of_ble_eq_true rfl) C.up.size C.sb fun v255 w256 h257 h258 u259 => ?_)
        have p260 := ap_fresh h258 (fun b hb => (h154.lt b hb).1)
        replace h154 := h154.nw u259
        replace C := C.new u259
        replace h154 := h154.or (ap_symm p260)
        replace C := C.sealO h257
        replace h257 := h257.sealed
        obtain ⟨y261, h262, h⟩ := bnd_some h
        refine sc (dc_call (vs := [v17, v255]) can16 rfl ?_)
        refine (index_Index_Find_w C.sb h154 h257 h262).mono ?_
        rintro _ w263 ⟨S264, v266, rfl, c265, h267⟩
        refine ⟨_, rfl, ?_⟩
        replace h267 := h267.base C.up.size
        replace C := C.trans c265
        refine sv (mvv (.tuple (List.toArray [v266, .int .i64 y261.2])) rfl) (sv (rv_extract rfl rfl) (sv (rv_extract rfl rfl) (sv (asv v266 rfl) (sv (asv (.int .i64 y261.2) rfl) (W.e (k254 _ _ ?_))))))
        obtain ⟨o268, h271, h⟩ := bnd_some h
        refine cw_seq' (fun ρ w1 => ∃ S1, Cx No S w S1 w1 ∧ Has ρ [(4, .bool o268)]) ?_ ?_
        · refine cw_region (sv (mvv (.bool y5) rfl) (sv (mvv (.bool y5) rfl) ?_))
          rcases bif_some h271 with ⟨b272, h271⟩ | ⟨b272, h271⟩
          · refine W.v (gy rfl rfl rfl b272) (mvv (.int .i64 y261.2) rfl) (W.v (gy rfl rfl rfl b272) (rv_neq rfl rfl) (W.v (gy rfl rfl rfl b272) (mvv (.bool (y261.2 != (0 : Int))) rfl) ?_))
            rcases bif_some h271 with ⟨b273, h271⟩ | ⟨b273, h271⟩
            · refine W.v (gy rfl rfl rfl b273) (mvv (.int .i64 o167n) rfl) (W.v (gy rfl rfl rfl b273) (rv_eql rfl rfl) (W.v (gy rfl rfl rfl b272) (ptk (.bool (o167n == (0 : Int))) rfl b273 rfl) (W.v (gy rfl rfl rfl b272) (mvv (.bool (o167n == (0 : Int))) rfl) ?_)))
              rcases bif_some h271 with ⟨b274, h271⟩ | ⟨b274, h271⟩
              · refine W.n (gn rfl rfl rfl b274) (W.n (gn rfl rfl rfl b274) (W.n (gn rfl rfl rfl b274) (W.n (gu rfl rfl rfl) (W.n (gu rfl rfl rfl) (W.n (gu rfl rfl rfl) (W.n (gu rfl rfl rfl) (W.n (gn rfl rfl rfl b274) (W.v (gy rfl rfl rfl b272) (ptk (.bool true) rfl b274 rfl) (sv (ptk (.bool true) rfl b272 rfl) (sv (asv (.bool true) rfl) (W.e ?_)))))))))))
                obtain rfl := Option.some.inj h271
                exact ⟨_, C, ⟨rfl, trivial⟩⟩
              · refine W.v (gy rfl rfl rfl b274) (mvv (.int .i64 y261.2) rfl) (W.v (gy rfl rfl rfl b274) (rv_eql rfl rfl) (W.v (gy rfl rfl rfl b274) (mvv (.bool (y261.2 == (0 : Int))) rfl) ?_))
                rcases bif_some h271 with ⟨b275, h271⟩ | ⟨b275, h271⟩
                · refine W.v (gy rfl rfl rfl b275) (mvv v266 rfl) (W.v (gy rfl rfl rfl b275) (rv_lenS el36 h267.sealed rfl) (W.v (gy rfl rfl rfl b275) (mvv (.int .i64 o167n) rfl) (W.v (gy rfl rfl rfl b275) (rv_eql rfl rfl) (W.v (gy rfl rfl rfl b274) (ptk (.bool ((y261.1.length : Int) == o167n)) rfl b275 rfl) (W.v (gy rfl rfl rfl b272) (pfk (.bool ((y261.1.length : Int) == o167n)) rfl b274 rfl) (sv (ptk (.bool ((y261.1.length : Int) == o167n)) rfl b272 rfl) (sv (asv (.bool ((y261.1.length : Int) == o167n)) rfl) (W.e ?_))))))))
                  obtain rfl := Option.some.inj h271
                  exact ⟨_, C, ⟨rfl, trivial⟩⟩
                · refine W.n (gn rfl rfl rfl b275) (W.n (gn rfl rfl rfl b275) (W.n (gn rfl rfl rfl b275) (W.n (gn rfl rfl rfl b275) (W.v (gy rfl rfl rfl b274) (pfk (.bool false) rfl b275 rfl) (W.v (gy rfl rfl rfl b272) (pfk (.bool false) rfl b274 rfl) (sv (ptk (.bool false) rfl b272 rfl) (sv (asv (.bool false) rfl) (W.e ?_))))))))
                  obtain rfl := Option.some.inj h271
                  exact ⟨_, C, ⟨rfl, trivial⟩⟩
            · refine W.n (gn rfl rfl rfl b273) (W.n (gn rfl rfl rfl b273) (W.v (gy rfl rfl rfl b272) (pfk (.bool false) rfl b273 rfl) (W.v (gy rfl rfl rfl b272) (mvv (.bool false) rfl) (W.v (gy rfl rfl rfl rfl) (mvv (.int .i64 y261.2) rfl) (W.v (gy rfl rfl rfl rfl) (rv_eql rfl rfl) (W.v (gy rfl rfl rfl rfl) (mvv (.bool (y261.2 == (0 : Int))) rfl) ?_))))))
              rcases bif_some h271 with ⟨b276, h271⟩ | ⟨b276, h271⟩
              · refine W.v (gy rfl rfl rfl b276) (mvv v266 rfl) (W.v (gy rfl rfl rfl b276) (rv_lenS el36 h267.sealed rfl) (W.v (gy rfl rfl rfl b276) (mvv (.int .i64 o167n) rfl) (W.v (gy rfl rfl rfl b276) (rv_eql rfl rfl) (W.v (gy rfl rfl rfl rfl) (ptk (.bool ((y261.1.length : Int) == o167n)) rfl b276 rfl) (W.v (gy rfl rfl rfl b272) (pfk (.bool ((y261.1.length : Int) == o167n)) rfl rfl rfl) (sv (ptk (.bool ((y261.1.length : Int) == o167n)) rfl b272 rfl) (sv (asv (.bool ((y261.1.length : Int) == o167n)) rfl) (W.e ?_))))))))
                obtain rfl := Option.some.inj h271
                exact ⟨_, C, ⟨rfl, trivial⟩⟩
              · refine W.n (gn rfl rfl rfl b276) (W.n (gn rfl rfl rfl b276) (W.n (gn rfl rfl rfl b276) (W.n (gn rfl rfl rfl b276) (W.v (gy rfl rfl rfl rfl) (pfk (.bool false) rfl b276 rfl) (W.v (gy rfl rfl rfl b272) (pfk (.bool false) rfl rfl rfl) (sv (ptk (.bool false) rfl b272 rfl) (sv (asv (.bool false) rfl) (W.e ?_))))))))
                obtain rfl := Option.some.inj h271
                exact ⟨_, C, ⟨rfl, trivial⟩⟩
          · refine W.n (gn rfl rfl rfl b272) (W.n (gn rfl rfl rfl b272) (W.n (gn rfl rfl rfl b272) (W.n (gu rfl rfl rfl) (W.n (gu rfl rfl rfl) (W.n (gn rfl rfl rfl b272) (W.n (gn rfl rfl rfl b272) (W.n (gu rfl rfl rfl) (W.n (gu rfl rfl rfl) (W.n (gu rfl rfl rfl) (W.n (gu rfl rfl rfl) (W.n (gu rfl rfl rfl) ?_)))))))))))
            refine W.n (gu rfl rfl rfl) (W.n (gu rfl rfl rfl) (W.n (gu rfl rfl rfl) (W.n (gn rfl rfl rfl b272) (sv (pfk (.bool false) rfl b272 rfl) (sv (asv (.bool false) rfl) (W.e ?_))))))
            obtain rfl := Option.some.inj h271
            exact ⟨_, C, ⟨rfl, trivial⟩⟩
        · rintro ρ w278 ⟨S277, C, h279⟩
          refine h279.cw fun ρ => ?_
          clear h279
          refine cw_ret ?_
          obtain rfl := Option.some.inj h
          exact ⟨_, rfl, _, rfl, C⟩

noncomputable def index_Index_Bytes.b2 (y15 : index_Index) (y52 : (List Int)) (x68 : List Int) (x69 : Int) : Option (((List Int) × Int) ⊕ ((List Int))) :=
  (bif (decide (x69 < (y52.length : Int))) then ((at_ y52 x69).bind fun y81 => ((label_Put ((mget y81 y15.series).getD ([] : List api_Label))).bind fun y90 => (pur (IntKind.u64.wrap y81) fun y100 => ((octs_Put x68 y100).bind fun y102 => ((app_ 1 y102 y90.1).bind fun y112 => (pur (IntKind.i64.wrap (x69 + (1 : Int))) fun y122 => some (.inl (y112, y122)))))))) else some (.inr x68))
noncomputable def index_Index_Bytes (a0 : Option index_Index) : Option (List Int) :=
  (bif a0.isNone then some ([] : List Int) else ((a0).bind fun y15 => (pur (IntKind.u64.wrap y15.given) fun y18 => ((octs_Put ([] : List Int) y18).bind fun y22 => (pur (IntKind.u64.wrap (y15.series.length : Int)) fun y34 => ((octs_Put y22 y34).bind fun y36 => (((index_Index_all y15).bind fun y52 => (iter (fun s : (List Int) × Int => index_Index_Bytes.b2 y15 y52 s.1 s.2) (y36, (0 : Int)))).bind fun o46 => some o46)))))))
set_option maxRecDepth 100000 in
set_option maxHeartbeats 4000000 in
theorem index_Index_Bytes_w {S : Nat → Prop} {w : World} {a0 : Option index_Index} {v0 : Value} {cs0 : List Value} {fp0 : List Nat} {r : (List Int)} (hS : Sb S w) (h0 : Obo 72 index_Index.fs S w v0 a0 cs0 fp0) (h : index_Index_Bytes a0 = some r) :
    Calls Try.prog 26 (List.toArray [v0]) w fun e w1 => ∃ S1 u0, e = .returned (u0) ∧ Cx No S w S1 w1 ∧ Ow (kI .u8) 5 S1 w.heap.size w1 u0 r := by
  refine enter Try.func26 rfl (by kernel_rfl) rfl ?_
  have C := Cx.refl (F := No) hS
  unfold index_Index_Bytes at h
  have hl0 : ∀ b ∈ fp0, b < w.heap.size := fun b hb => (h0.lt b hb).1
  refine cw_seq fun K1 k2 => ?_
  refine cw_region (sv (asv (.slice none 0 0) rfl) (W.e (k2 _ _ ?_)))
  refine cw_seq fun K3 k4 => ?_
  refine cw_seq fun K5 k6 => ?_
  refine cw_region (sv (mvv v0 rfl) (sv (rv_nileq Try.underlying25 rfl rfl h0.ne) (W.e (k6 _ _ ?_))))
  rcases bif_some h with ⟨b7, h⟩ | ⟨b7, h⟩
  · refine cw_t rfl b7 ?_
    refine cw_seq fun K8 k9 => ?_
    refine cw_region (sv (asv (.slice none 0 0) rfl) (W.e (k9 _ _ (cw_ret ?_))))
    obtain rfl := Option.some.inj h
    exact ⟨_, rfl, _, _, rfl, C, Ow.nil _ _ _ _ _⟩
  · refine cw_f rfl b7 (cw_skip (k4 _ _ ?_))
    refine cw_seq fun K10 k11 => ?_
    refine cw_drawU (.one 0 true (.one 1 true (.one 2 true (.one 3 true (.one 4 true (.one 6 true (.one 7 true (.one 8 true (.one 9 true (.one 5 false (.one 10 false (.one 11 true (.one 12 false (.one 13 true .done)))))))))))))) [(3, [10]), (9, [10])] [(5, [10]), (10, [10]), (12, [10])] (fun c => bif Nat.beq c 10 then (One (pb v0)) else No) fol (by kernel_rfl) fun w12 u13 => ?_
    replace h0 := h0.nw u13
    replace C := C.new u13
    have h0d := h0
    have m14 := Sm.refl (One (pb v0)) w12
    refine mtv rfl rfl (mvv v0 rfl) ?_
    obtain ⟨y15, h16, h⟩ := bnd_some h
    have h17 := h0
    rw [h16] at h17
    replace h17 : Ob 72 (index_Index.fs y15) _ _ _ _ _ := h17
    have h17d := h17
    refine mtv rfl rfl (rv_nilcheck rfl h17.ptr) (mtv rfl rfl (rv_fieldAddr (b := pb v0) (o := 0) st72 rfl h17.ptr) (mtr rfl rfl ⟨m14, trivial⟩ (fun w' hq => rw_ofieldU (i := 4) (c := .int .i64 y15.given) h17 hq.1 ag3 (h17.sc (i := 4) rfl) rfl) ?_))
    obtain ⟨y18, h19, h⟩ := pur_some h
    refine mtv rfl rfl (rv_conv Try.underlying3 Try.underlying86 rfl h19) (mtv rfl rfl (mvv v0 rfl) (mtv rfl rfl (rv_nilcheck rfl h17.ptr) (mtv rfl rfl (rv_fieldAddr (b := pb v0) (o := 0) st72 rfl h17.ptr) ?_)))
    obtain ⟨c20, h21⟩ := h17.at (i := 0) rfl
    refine mtr rfl rfl ⟨m14, trivial⟩ (fun w' hq => rw_ofieldU (i := 0) (c := c20) h17 hq.1 ag67 h21 rfl) ?_
    obtain ⟨y22, h23, h⟩ := bnd_some h
    refine mtc rfl rfl (dc_call (vs := [.slice none 0 0, .int .u64 y18]) can40 rfl ?_)
    refine (octs_Put_w C.sb (sl_nil _ _ _) h23).mono ?_
    rintro _ w24 ⟨S25, v27, rfl, c26, h28⟩
    refine ⟨_, rfl, ?_⟩
    have p29 := ap_fresh (fun b hb => (h28.lt b hb).1) (fun b hb => (h17.lt b hb).1)
    replace h28 := h28.base C.up.size
    replace h17 := h17.cx c26
    replace h0 := h0.cx c26
    replace C := C.trans c26
    have z30 := (c26.up).size
    have m31 := m14.nx c26.up (by omega)
    refine ⟨⟨m31, trivial⟩, ?_⟩
    obtain ⟨_, h32, h33⟩ := Ob.rep h17 (i := 0) rfl h21
    refine mtc rfl rfl (Rw.does (rep_mlen h32 Try.underlying67 (Sm.refl _ _) rfl) ⟨⟨m31, trivial⟩, ?_⟩)
    obtain ⟨y34, h35, h⟩ := pur_some h
    refine mtv rfl rfl (rv_conv Try.underlying3 Try.underlying86 rfl h35) ?_
    replace h17 := h17.or (ap_symm p29)
    replace h0 := h0.or (ap_symm p29)
    replace C := C.sealO h28
    replace h28 := h28.sealed
    obtain ⟨y36, h37, h⟩ := bnd_some h
    refine mtc rfl rfl (dc_call (vs := [v27, .int .u64 y34]) can40 rfl ?_)
    refine (octs_Put_w C.sb h28 h37).mono ?_
    rintro _ w38 ⟨S39, v41, rfl, c40, h42⟩
    refine ⟨_, rfl, ?_⟩
    have p43 := ap_fresh (fun b hb => (h42.lt b hb).1) (fun b hb => (h17.lt b hb).1)
    replace h42 := h42.base C.up.size
    replace h17 := h17.cx c40
    replace h0 := h0.cx c40
    replace C := C.trans c40
    have z44 := (c40.up).size
    have m45 := m31.nx c40.up (by omega)
    refine ⟨⟨m45, trivial⟩, ?_⟩
    refine mtv rfl rfl (asv v41 rfl) (MT.e (k11 _ _ ?_))
    obtain ⟨o46, h49, h⟩ := bnd_some h
    refine cw_seq' (fun ρ w1 => ∃ S1 v127, Cx No S w S1 w1 ∧ Has ρ [(3, v127)] ∧ Ow (kI .u8) 5 S1 w.heap.size w1 v127 o46) ?_ ?_
    · refine cw_seq fun K50 k51 => ?_
      refine cw_region (sv (mvv v0 rfl) ?_)
      obtain ⟨y52, h53, h49⟩ := bnd_some h49
      refine sc (dc_call (vs := [v0]) can32 rfl ?_)
      refine (index_Index_all_w C.sb h17 h53).mono ?_
      rintro _ w54 ⟨S55, v57, rfl, c56, h58⟩
      refine ⟨_, rfl, ?_⟩
      have p59 := ap_fresh (fun b hb => (h58.lt b hb).1) (fun b hb => (h17.lt b hb).1)
      have p60 := ap_fresh (fun b hb => (h58.lt b hb).1) (fun b hb => (h42.lt b hb).2)
      replace h58 := h58.base C.up.size
      replace h17 := h17.cx c56
      replace h0 := h0.cx c56
      replace h42 := h42.cx c56
      replace C := C.trans c56
      refine sv (rv_lenS el36 h58.sealed rfl) (sv (mvv (.int .i64 0) rfl) (W.e (k51 _ _ (cw_block ?_))))
      refine cw_iter h49 (fun s ρ w1 => ∃ S1 v64, Cx No S w S1 w1 ∧ Has ρ [(0, v0), (3, v64), (24, v57), (25, .int .i64 (y52.length : Int)), (26, .int .i64 s.2)] ∧ Ow (kI .u8) 5 S1 w.heap.size w1 v64 s.1 ∧ Ow (kI .i64) 3 S1 w.heap.size w1 v57 y52 ∧ Obo 72 index_Index.fs S1 w1 v0 a0 cs0 fp0 ∧ Ob 72 (index_Index.fs y15) S1 w1 v0 cs0 fp0 ∧ Ap v64 v57) ⟨_, _, C, ⟨rfl, rfl, rfl, rfl, rfl, trivial⟩, h42, h58, h0, h17, (ap_symm p60)⟩ ?_
      rintro ⟨x68, x69⟩ q61 ρ w63 ⟨S62, v64, C, h67, h65, h58, h0, h17, p66⟩ h71 h70
      refine h67.cw fun ρ => ?_
      clear h67
      replace h71 : index_Index_Bytes.b2 y15 y52 x68 x69 = some q61 := h71
      unfold index_Index_Bytes.b2 at h71
      refine cw_seq fun K72 k73 => ?_
      refine cw_region (sv (rv_lss rfl rfl) (W.e (k73 _ _ ?_)))
      refine cw_seq fun K74 k75 => ?_
      rcases bif_some h71 with ⟨b76, h71⟩ | ⟨b76, h71⟩
      · refine cw_t rfl b76 (cw_skip (k75 _ _ ?_))
        refine cw_seq fun K77 k78 => ?_
        refine cw_block ?_
        refine cw_seq fun K79 k80 => ?_
        refine cw_region ?_
        obtain ⟨y81, h82, h71⟩ := bnd_some h71
        refine sv (rv_index el36 h58.sealed rfl rfl h82) (sr (rw_loadC el36 h58.sealed h82 rfl _ (Sm.refl _ _)) (sv (asv (.int .i64 y81) rfl) (W.e (k80 _ _ ?_))))
        refine cw_seq fun K83 k84 => ?_
        refine cw_region (sv (mvv v0 rfl) (sv (rv_nilcheck rfl h17.ptr) (sv (rv_fieldAddr (b := pb v0) (o := 0) st72 rfl h17.ptr) (sr (rw_ofield (i := 0) (c := c20) h17 ag67 h21 rfl) (sv (mvv (.int .i64 y81) rfl) ?_)))))
        obtain ⟨_, h85, h86⟩ := Ob.rep h17 (i := 0) rfl h21
        obtain ⟨v87, h88, h89⟩ := rep_look (P := Try.prog) (tm := 67) (te := 28) (y0 := ([] : List api_Label)) h85 Try.underlying67 zv28 (sl_nil _ _ _) y81
        refine sr ((h89 (Sm.refl _ _) rfl rfl).1) ?_
        obtain ⟨y90, h91, h71⟩ := bnd_some h71
        refine sc (dc_call (vs := [v87]) can41 rfl ?_)
        refine (label_Put_w C.sb h88 h91).mono ?_
        rintro _ w92 ⟨S93, v95, rfl, c94, h96⟩
        refine ⟨_, rfl, ?_⟩
        have p97 := ap_fresh (fun b hb => (h96.lt b hb).1) (fun b hb => (h17.lt b hb).1)
        have p98 := ap_fresh (fun b hb => (h96.lt b hb).1) (fun b hb => (h65.lt b hb).2)
        have p99 := ap_fresh (fun b hb => (h96.lt b hb).1) (fun b hb => (h58.lt b hb).2)
        replace h96 := h96.base C.up.size
        replace h17 := h17.cx c94
        replace h0 := h0.cx c94
        replace h65 := h65.cx c94
        replace h58 := h58.cx c94
        replace C := C.trans c94
        refine sv (mvv (.tuple (List.toArray [v95, .int .i64 y90.2])) rfl) (sv (rv_extract rfl rfl) (sv (rv_extract rfl rfl) (sv (asv v95 rfl) (sv (asv (.int .i64 y90.2) rfl) (W.e (k84 _ _ (cw_region (sv (mvv v64 rfl) (sv (mvv (.int .i64 y81) rfl) ?_)))))))))
        obtain ⟨y100, h101, h71⟩ := pur_some h71
        refine sv (rv_conv Try.underlying3 Try.underlying86 rfl h101) ?_
        replace h17 := h17.or (fun b hq hb => absurd (h65.lt b hb).1 (Nat.not_le_of_lt (hl0 b hq)))
        replace h0 := h0.or (fun b hq hb => absurd (h65.lt b hb).1 (Nat.not_le_of_lt (hl0 b hq)))
        replace h96 := h96.or p98
        replace h58 := h58.or (ap_symm p66)
        replace C := C.sealO h65
        replace h65 := h65.sealed
        obtain ⟨y102, h103, h71⟩ := bnd_some h71
        refine sc (dc_call (vs := [v64, .int .u64 y100]) can40 rfl ?_)
        refine (octs_Put_w C.sb h65 h103).mono ?_
        rintro _ w104 ⟨S105, v107, rfl, c106, h108⟩
        refine ⟨_, rfl, ?_⟩
        have p109 := ap_fresh (fun b hb => (h108.lt b hb).1) (fun b hb => (h17.lt b hb).1)
        have p110 := ap_fresh (fun b hb => (h108.lt b hb).1) (fun b hb => (h96.lt b hb).2)
        have p111 := ap_fresh (fun b hb => (h108.lt b hb).1) (fun b hb => (h58.lt b hb).2)
        replace h108 := h108.base C.up.size
        replace h17 := h17.cx c106
        replace h0 := h0.cx c106
        replace h96 := h96.cx c106
        replace h58 := h58.cx c106
        replace C := C.trans c106
        refine sv (mvv v95 rfl) ?_
        obtain ⟨y112, h113, h71⟩ := bnd_some h71
        have h119 := h108
        refine sc (dc_append el61 (by decide) h119 h96.src rfl rfl h113 C.up.size C.sb fun v114 w115 h116 u117 h118 => ?_)
        have p120 := ap_grow p109 h118 (fun b hb => (h17.lt b hb).1)
        have p121 := ap_grow p111 h118 (fun b hb => (h58.lt b hb).2)
        replace h17 := h17.wr u117 h119.not (ap_symm p109)
        replace h0 := h0.wr u117 h119.not (ap_symm p109)
        replace h58 := h58.wr u117 h119.not (ap_symm p111)
        replace C := C.ow h119 u117
        refine sv (asv v114 rfl) (W.e (k78 _ _ (cw_region ?_)))
        obtain ⟨y122, h123, h71⟩ := pur_some h71
        refine sv (rv_add rfl rfl h123) (sv (mvv (.int .i64 y122) rfl) (W.e ?_))
        obtain rfl := Option.some.inj h71
        exact ⟨_, rfl, ⟨_, _, C, ⟨rfl, rfl, rfl, rfl, rfl, trivial⟩, h116, h58, h0, h17, p121⟩⟩
      · refine cw_f rfl b76 (cw_exit ?_)
        obtain rfl := Option.some.inj h71
        have h124 := congrArg some h70
        obtain rfl := Option.some.inj h124
        exact ⟨_, _, C, ⟨rfl, trivial⟩, h65⟩
    · rintro ρ w126 ⟨S125, v127, C, h129, h128⟩
      refine h129.cw fun ρ => ?_
      clear h129
      refine cw_seq fun K130 k131 => ?_
      refine cw_region (sv (mvv v127 rfl) (sv (asv v127 rfl) (W.e (k131 _ _ (cw_ret ?_)))))
      obtain rfl := Option.some.inj h
      exact ⟨_, rfl, _, _, rfl, C, h128⟩

noncomputable def marigraphlaw08_IndexNil (a0 : marigraphlaw08_Act) : Option Bool :=
  ((marigraphlaw08_shown).bind fun y15 => ((marigraphlaw08_few a0.L).bind fun y24 => ((index_Index_Add none y24).bind fun y31 => ((marigraphlaw08_few a0.L).bind fun y40 => ((index_Index_Id none y40).bind fun y47 => ((index_Index_Labels none a0.Id).bind fun y54 => ((marigraphlaw08_some a0.A).bind fun y63 => ((index_Index_Find none y63).bind fun y70 => ((bif y15 then (bif (y31.1 == (0 : Int)) then (bif (y31.2.1 == (2 : Int)) then (bif (y47.1 == (0 : Int)) then (bif (!y47.2) then (bif ((y54.1.length : Int) == (0 : Int)) then (bif (!y54.2) then ((index_Index_Drop none a0.Id).bind fun y89 => (bif (y89.1 == (2 : Int)) then (bif ((y70.1.length : Int) == (0 : Int)) then (bif (y70.2 == (2 : Int)) then ((index_Index_Post none (api_Label.mk ByteArray.empty ByteArray.empty)).bind fun y99 => (bif ((y99.length : Int) == (0 : Int)) then ((index_Index_Vals none (ByteArray.mk #[97])).bind fun y107 => (bif ((y107.length : Int) == (0 : Int)) then ((index_Index_Bytes none).bind fun y115 => some ((y115.length : Int) == (0 : Int))) else some false)) else some false)) else some false) else some false) else some false)) else some false) else some false) else some false) else some false) else some false) else some false) else some false).bind fun o78 => some o78)))))))))
set_option maxRecDepth 100000 in
set_option maxHeartbeats 4000000 in
theorem marigraphlaw08_IndexNil_w {S : Nat → Prop} {w : World} {a0 : marigraphlaw08_Act} {v0 : Value} {r : Bool} (hS : Sb S w) (h0 : Sl marigraphlaw08_Act.k S w v0 a0) (h : marigraphlaw08_IndexNil a0 = some r) :
    Calls Try.prog 8 (List.toArray [v0]) w fun e w1 => ∃ S1, e = .returned (.bool r) ∧ Cx No S w S1 w1 := by
  refine enter Try.func8 rfl (by kernel_rfl) rfl ?_
  have C := Cx.refl (F := No) hS
  unfold marigraphlaw08_IndexNil at h
  obtain ⟨c1, c3, rfl, g2, g4⟩ := marigraphlaw08_Act.o.1 h0
  refine cw_seq fun K5 k6 => ?_
  refine cw_region ?_
  refine sc (dc_boxS C.sb rfl fun b7 S8 w9 c10 h11 => ?_)
  replace g2 := g2.cx c10
  replace g4 := g4.cx c10
  replace C := C.trans c10
  refine sv (asv (.bool false) rfl) (W.e (k6 _ _ ?_))
  refine cw_seq fun K13 k14 => ?_
  refine cw_region ?_
  obtain ⟨y15, h16, h⟩ := bnd_some h
  refine sc (dc_call (vs := []) can10 rfl ?_)
  refine (marigraphlaw08_shown_w C.sb  h16).mono ?_
  rintro _ w17 ⟨S18, rfl, c19⟩
  refine ⟨_, rfl, ?_⟩
  replace h11 := h11.cx c19
  replace g2 := g2.cx c19
  replace g4 := g4.cx c19
  replace C := C.trans c19
  refine sv (asv (.bool y15) rfl) (W.e (k14 _ _ ?_))
  refine cw_seq fun K20 k21 => ?_
  refine cw_region (sv (asv (.pointer none) rfl) (W.e (k21 _ _ ?_)))
  refine cw_seq fun K22 k23 => ?_
  refine cw_region (sv (mvv (.pointer none) rfl) (sv (rv_fieldAddr st30 rfl rfl) (sr (rw_bk ag28 h11.2 rfl rfl) ?_)))
  obtain ⟨y24, h25, h⟩ := bnd_some h
  refine sc (dc_call (vs := [c1]) can15 rfl ?_)
  refine (marigraphlaw08_few_w C.sb g2 h25).mono ?_
  rintro _ w26 ⟨S27, v29, rfl, c28, h30⟩
  refine ⟨_, rfl, ?_⟩
  replace h11 := h11.cx c28
  replace g2 := g2.cx c28
  replace g4 := g4.cx c28
  replace C := C.trans c28
  obtain ⟨y31, h32, h⟩ := bnd_some h
  refine sc (dc_call (vs := [.pointer none, v29]) can14 rfl ?_)
  refine (index_Index_Add_w C.sb (show Obo 72 index_Index.fs S27 w26 (.pointer none) none [] [] from ⟨rfl, rfl, rfl⟩) h30 h32).mono ?_
  rintro _ w33 ⟨S34, cs36, fp37, rfl, c35, _, _⟩
  refine ⟨_, rfl, ?_⟩
  replace c35 := c35.f (G := No) fun b _ hb => (by cases hb)
  replace h11 := h11.cx c35
  replace g2 := g2.cx c35
  replace g4 := g4.cx c35
  replace C := C.trans c35
  skip
  refine sv (mvv (.tuple (List.toArray [.int .i64 y31.1, .int .i64 y31.2.1])) rfl) (sv (rv_extract rfl rfl) (sv (rv_extract rfl rfl) (sv (asv (.int .i64 y31.1) rfl) (sv (asv (.int .i64 y31.2.1) rfl) (W.e (k23 _ _ ?_))))))
  refine cw_seq fun K38 k39 => ?_
  refine cw_region (sv (mvv (.pointer none) rfl) (sv (rv_fieldAddr st30 rfl rfl) (sr (rw_bk ag28 h11.2 rfl rfl) ?_)))
  obtain ⟨y40, h41, h⟩ := bnd_some h
  refine sc (dc_call (vs := [c1]) can15 rfl ?_)
  refine (marigraphlaw08_few_w C.sb g2 h41).mono ?_
  rintro _ w42 ⟨S43, v45, rfl, c44, h46⟩
  refine ⟨_, rfl, ?_⟩
  replace h11 := h11.cx c44
  replace g2 := g2.cx c44
  replace g4 := g4.cx c44
  replace C := C.trans c44
  obtain ⟨y47, h48, h⟩ := bnd_some h
  refine sc (dc_call (vs := [.pointer none, v45]) can23 rfl ?_)
  refine (index_Index_Id_w C.sb (show Obo 72 index_Index.fs S43 w42 (.pointer none) none [] [] from ⟨rfl, rfl, rfl⟩) h46 h48).mono ?_
  rintro _ w49 ⟨S50, rfl, c51⟩
  refine ⟨_, rfl, ?_⟩
  replace h11 := h11.cx c51
  replace g2 := g2.cx c51
  replace g4 := g4.cx c51
  replace C := C.trans c51
  refine sv (mvv (.tuple (List.toArray [.int .i64 y47.1, .bool y47.2])) rfl) (sv (rv_extract rfl rfl) (sv (rv_extract rfl rfl) (sv (asv (.int .i64 y47.1) rfl) (sv (asv (.bool y47.2) rfl) (W.e (k39 _ _ ?_))))))
  refine cw_seq fun K52 k53 => ?_
  refine cw_region (sv (mvv (.pointer none) rfl) (sv (rv_fieldAddr st30 rfl rfl) (sr (rw_bk ag3 h11.2 rfl rfl) ?_)))
  obtain ⟨y54, h55, h⟩ := bnd_some h
  refine sc (dc_call (vs := [.pointer none, .int .i64 a0.Id]) can19 rfl ?_)
  refine (index_Index_Labels_w C.sb (show Obo 72 index_Index.fs S50 w49 (.pointer none) none [] [] from ⟨rfl, rfl, rfl⟩) h55).mono ?_
  rintro _ w56 ⟨S57, v59, rfl, c58, h60⟩
  refine ⟨_, rfl, ?_⟩
  replace h60 := h60.base C.up.size
  replace h11 := h11.cx c58
  replace g2 := g2.cx c58
  replace g4 := g4.cx c58
  replace C := C.trans c58
  refine sv (mvv (.tuple (List.toArray [v59, .bool y54.2])) rfl) (sv (rv_extract rfl rfl) (sv (rv_extract rfl rfl) (sv (asv v59 rfl) (sv (asv (.bool y54.2) rfl) (W.e (k53 _ _ ?_))))))
  refine cw_seq fun K61 k62 => ?_
  refine cw_region (sv (mvv (.pointer none) rfl) (sv (rv_fieldAddr st30 rfl rfl) (sr (rw_bk ag23 h11.2 rfl rfl) ?_)))
  obtain ⟨y63, h64, h⟩ := bnd_some h
  refine sc (dc_call (vs := [c3]) can17 rfl ?_)
  refine (marigraphlaw08_some_w C.sb g4 h64).mono ?_
  rintro _ w65 ⟨S66, v68, rfl, c67, h69⟩
  refine ⟨_, rfl, ?_⟩
  replace h11 := h11.cx c67
  replace g2 := g2.cx c67
  replace g4 := g4.cx c67
  replace h60 := h60.cx c67
  replace C := C.trans c67
  obtain ⟨y70, h71, h⟩ := bnd_some h
  refine sc (dc_call (vs := [.pointer none, v68]) can16 rfl ?_)
  refine (index_Index_Find_w C.sb (show Obo 72 index_Index.fs S66 w65 (.pointer none) none [] [] from ⟨rfl, rfl, rfl⟩) h69 h71).mono ?_
  rintro _ w72 ⟨S73, v75, rfl, c74, h76⟩
  refine ⟨_, rfl, ?_⟩
  have p77 := ap_fresh (fun b hb => (h76.lt b hb).1) (fun b hb => (h60.lt b hb).2)
  replace h76 := h76.base C.up.size
  replace h11 := h11.cx c74
  replace g2 := g2.cx c74
  replace g4 := g4.cx c74
  replace h60 := h60.cx c74
  replace C := C.trans c74
  refine sv (mvv (.tuple (List.toArray [v75, .int .i64 y70.2])) rfl) (sv (rv_extract rfl rfl) (sv (rv_extract rfl rfl) (sv (asv v75 rfl) (sv (asv (.int .i64 y70.2) rfl) (W.e (k62 _ _ ?_))))))
  obtain ⟨o78, h81, h⟩ := bnd_some h
  refine cw_seq' (fun ρ w1 => ∃ S1, Cx No S w S1 w1 ∧ Has ρ [(2, .bool o78)]) ?_ ?_
  · refine cw_region (sv (mvv (.bool y15) rfl) (sv (mvv (.bool y15) rfl) ?_))
    rcases bif_some h81 with ⟨b82, h81⟩ | ⟨b82, h81⟩
    · refine W.v (gy rfl rfl rfl b82) (mvv (.int .i64 y31.1) rfl) (W.v (gy rfl rfl rfl b82) (rv_eql rfl rfl) (sv (ptk (.bool (y31.1 == (0 : Int))) rfl b82 rfl) (sv (mvv (.bool (y31.1 == (0 : Int))) rfl) ?_)))
      rcases bif_some h81 with ⟨b83, h81⟩ | ⟨b83, h81⟩
      · refine W.v (gy rfl rfl rfl b83) (mvv (.int .i64 y31.2.1) rfl) (W.v (gy rfl rfl rfl b83) (rv_eql rfl rfl) (sv (ptk (.bool (y31.2.1 == (2 : Int))) rfl b83 rfl) (sv (mvv (.bool (y31.2.1 == (2 : Int))) rfl) ?_)))
        rcases bif_some h81 with ⟨b84, h81⟩ | ⟨b84, h81⟩
        · refine W.v (gy rfl rfl rfl b84) (mvv (.int .i64 y47.1) rfl) (W.v (gy rfl rfl rfl b84) (rv_eql rfl rfl) (sv (ptk (.bool (y47.1 == (0 : Int))) rfl b84 rfl) (sv (mvv (.bool (y47.1 == (0 : Int))) rfl) ?_)))
          rcases bif_some h81 with ⟨b85, h81⟩ | ⟨b85, h81⟩
          · refine W.v (gy rfl rfl rfl b85) (mvv (.bool y47.2) rfl) (W.v (gy rfl rfl rfl b85) (rv_not rfl) (sv (ptk (.bool (!y47.2)) rfl b85 rfl) (sv (mvv (.bool (!y47.2)) rfl) ?_)))
            rcases bif_some h81 with ⟨b86, h81⟩ | ⟨b86, h81⟩
            · refine W.v (gy rfl rfl rfl b86) (mvv v59 rfl) (W.v (gy rfl rfl rfl b86) (rv_lenS el28 h60.sealed rfl) (W.v (gy rfl rfl rfl b86) (rv_eql rfl rfl) (sv (ptk (.bool ((y54.1.length : Int) == (0 : Int))) rfl b86 rfl) (sv (mvv (.bool ((y54.1.length : Int) == (0 : Int))) rfl) ?_))))
              rcases bif_some h81 with ⟨b87, h81⟩ | ⟨b87, h81⟩
              · refine W.v (gy rfl rfl rfl b87) (mvv (.bool y54.2) rfl) (W.v (gy rfl rfl rfl b87) (rv_not rfl) (sv (ptk (.bool (!y54.2)) rfl b87 rfl) (sv (mvv (.bool (!y54.2)) rfl) ?_)))
                rcases bif_some h81 with ⟨b88, h81⟩ | ⟨b88, h81⟩
                · refine W.v (gy rfl rfl rfl b88) (mvv (.pointer none) rfl) (W.v (gy rfl rfl rfl b88) (rv_fieldAddr st30 rfl rfl) (W.r (gy rfl rfl rfl b88) (rw_bk ag3 h11.2 rfl rfl) ?_))
                  obtain ⟨y89, h90, h81⟩ := bnd_some h81
                  refine W.c (gy rfl rfl rfl b88) (dc_call (vs := [.pointer none, .int .i64 a0.Id]) can13 rfl ?_)
                  refine (index_Index_Drop_w C.sb (show Obo 72 index_Index.fs S73 w72 (.pointer none) none [] [] from ⟨rfl, rfl, rfl⟩) h90).mono ?_
                  rintro _ w91 ⟨S92, cs94, fp95, rfl, c93, _, _⟩
                  refine ⟨_, rfl, ?_⟩
                  replace c93 := c93.f (G := No) fun b _ hb => (by cases hb)
                  replace h76 := h76.cx c93
                  replace C := C.trans c93
                  skip
                  refine W.v (gy rfl rfl rfl b88) (rv_eql rfl rfl) (sv (ptk (.bool (y89.1 == (2 : Int))) rfl b88 rfl) (sv (mvv (.bool (y89.1 == (2 : Int))) rfl) ?_))
                  rcases bif_some h81 with ⟨b96, h81⟩ | ⟨b96, h81⟩
                  · refine W.v (gy rfl rfl rfl b96) (mvv v75 rfl) (W.v (gy rfl rfl rfl b96) (rv_lenS el36 h76.sealed rfl) (W.v (gy rfl rfl rfl b96) (rv_eql rfl rfl) (sv (ptk (.bool ((y70.1.length : Int) == (0 : Int))) rfl b96 rfl) (sv (mvv (.bool ((y70.1.length : Int) == (0 : Int))) rfl) ?_))))
                    rcases bif_some h81 with ⟨b97, h81⟩ | ⟨b97, h81⟩
                    · refine W.v (gy rfl rfl rfl b97) (mvv (.int .i64 y70.2) rfl) (W.v (gy rfl rfl rfl b97) (rv_eql rfl rfl) (sv (ptk (.bool (y70.2 == (2 : Int))) rfl b97 rfl) (sv (mvv (.bool (y70.2 == (2 : Int))) rfl) ?_)))
                      rcases bif_some h81 with ⟨b98, h81⟩ | ⟨b98, h81⟩
                      · refine W.v (gy rfl rfl rfl b98) (mvv (.pointer none) rfl) (W.v (gy rfl rfl rfl b98) (rv_build (r := [.string ByteArray.empty, .string ByteArray.empty]) st59 zr59 rfl) ?_)
                        obtain ⟨y99, h100, h81⟩ := bnd_some h81
                        refine W.c (gy rfl rfl rfl b98) (dc_call (vs := [.pointer none, .agg (List.toArray [.string ByteArray.empty, .string ByteArray.empty])]) can25 rfl ?_)
                        refine (index_Index_Post_w C.sb (show Obo 72 index_Index.fs S92 w91 (.pointer none) none [] [] from ⟨rfl, rfl, rfl⟩) ((api_Label.o (x := (api_Label.mk ByteArray.empty ByteArray.empty))).2 rfl) h100).mono ?_
                        rintro _ w101 ⟨S102, v104, rfl, c103, h105⟩
                        refine ⟨_, rfl, ?_⟩
                        replace h105 := h105.base C.up.size
                        replace C := C.trans c103
                        refine W.v (gy rfl rfl rfl b98) (rv_lenS el36 h105.sealed rfl) (W.v (gy rfl rfl rfl b98) (rv_eql rfl rfl) (sv (ptk (.bool ((y99.length : Int) == (0 : Int))) rfl b98 rfl) (sv (mvv (.bool ((y99.length : Int) == (0 : Int))) rfl) ?_)))
                        rcases bif_some h81 with ⟨b106, h81⟩ | ⟨b106, h81⟩
                        · refine W.v (gy rfl rfl rfl b106) (mvv (.pointer none) rfl) ?_
                          obtain ⟨y107, h108, h81⟩ := bnd_some h81
                          refine W.c (gy rfl rfl rfl b106) (dc_call (vs := [.pointer none, .string (ByteArray.mk #[97])]) can24 rfl ?_)
                          refine (index_Index_Vals_w C.sb (show Obo 72 index_Index.fs S102 w101 (.pointer none) none [] [] from ⟨rfl, rfl, rfl⟩) h108).mono ?_
                          rintro _ w109 ⟨S110, v112, rfl, c111, h113⟩
                          refine ⟨_, rfl, ?_⟩
                          replace h113 := h113.base C.up.size
                          replace C := C.trans c111
                          refine W.v (gy rfl rfl rfl b106) (rv_lenS el55 h113.sealed rfl) (W.v (gy rfl rfl rfl b106) (rv_eql rfl rfl) (sv (ptk (.bool ((y107.length : Int) == (0 : Int))) rfl b106 rfl) (sv (mvv (.bool ((y107.length : Int) == (0 : Int))) rfl) ?_)))
                          rcases bif_some h81 with ⟨b114, h81⟩ | ⟨b114, h81⟩
                          · refine W.v (gy rfl rfl rfl b114) (mvv (.pointer none) rfl) ?_
                            obtain ⟨y115, h116, h81⟩ := bnd_some h81
                            refine W.c (gy rfl rfl rfl b114) (dc_call (vs := [.pointer none]) can26 rfl ?_)
                            refine (index_Index_Bytes_w C.sb (show Obo 72 index_Index.fs S110 w109 (.pointer none) none [] [] from ⟨rfl, rfl, rfl⟩) h116).mono ?_
                            rintro _ w117 ⟨S118, v120, rfl, c119, h121⟩
                            refine ⟨_, rfl, ?_⟩
                            replace h121 := h121.base C.up.size
                            replace C := C.trans c119
                            refine W.v (gy rfl rfl rfl b114) (rv_lenS el61 h121.sealed rfl) (W.v (gy rfl rfl rfl b114) (rv_eql rfl rfl) (sv (ptk (.bool ((y115.length : Int) == (0 : Int))) rfl b114 rfl) (sv (asv (.bool ((y115.length : Int) == (0 : Int))) rfl) (W.e ?_))))
                            obtain rfl := Option.some.inj h81
                            exact ⟨_, C, ⟨rfl, trivial⟩⟩
                          · refine W.n (gn rfl rfl rfl b114) (W.n (gn rfl rfl rfl b114) (W.n (gn rfl rfl rfl b114) (W.n (gn rfl rfl rfl b114) (sv (pfk (.bool false) rfl b114 rfl) (sv (asv (.bool false) rfl) (W.e ?_))))))
                            obtain rfl := Option.some.inj h81
                            exact ⟨_, C, ⟨rfl, trivial⟩⟩
                        · refine W.n (gn rfl rfl rfl b106) (W.n (gn rfl rfl rfl b106) (W.n (gn rfl rfl rfl b106) (W.n (gn rfl rfl rfl b106) (sv (pfk (.bool false) rfl b106 rfl) (sv (mvv (.bool false) rfl) (W.n (gn rfl rfl rfl rfl) (W.n (gn rfl rfl rfl rfl) (W.n (gn rfl rfl rfl rfl) (W.n (gn rfl rfl rfl rfl) (sv (pfk (.bool false) rfl rfl rfl) (sv (asv (.bool false) rfl) ?_)))))))))))
                          refine W.e ?_
                          obtain rfl := Option.some.inj h81
                          exact ⟨_, C, ⟨rfl, trivial⟩⟩
                      · refine W.n (gn rfl rfl rfl b98) (W.n (gn rfl rfl rfl b98) (W.n (gn rfl rfl rfl b98) (W.n (gn rfl rfl rfl b98) (W.n (gn rfl rfl rfl b98) (sv (pfk (.bool false) rfl b98 rfl) (sv (mvv (.bool false) rfl) (W.n (gn rfl rfl rfl rfl) (W.n (gn rfl rfl rfl rfl) (W.n (gn rfl rfl rfl rfl) (W.n (gn rfl rfl rfl rfl) (sv (pfk (.bool false) rfl rfl rfl) ?_)))))))))))
                        refine sv (mvv (.bool false) rfl) (W.n (gn rfl rfl rfl rfl) (W.n (gn rfl rfl rfl rfl) (W.n (gn rfl rfl rfl rfl) (W.n (gn rfl rfl rfl rfl) (sv (pfk (.bool false) rfl rfl rfl) (sv (asv (.bool false) rfl) (W.e ?_)))))))
                        obtain rfl := Option.some.inj h81
                        exact ⟨_, C, ⟨rfl, trivial⟩⟩
                    · refine W.n (gn rfl rfl rfl b97) (W.n (gn rfl rfl rfl b97) (sv (pfk (.bool false) rfl b97 rfl) (sv (mvv (.bool false) rfl) (W.n (gn rfl rfl rfl rfl) (W.n (gn rfl rfl rfl rfl) (W.n (gn rfl rfl rfl rfl) (W.n (gn rfl rfl rfl rfl) (W.n (gn rfl rfl rfl rfl) (sv (pfk (.bool false) rfl rfl rfl) (sv (mvv (.bool false) rfl) (W.n (gn rfl rfl rfl rfl) ?_)))))))))))
                      refine W.n (gn rfl rfl rfl rfl) (W.n (gn rfl rfl rfl rfl) (W.n (gn rfl rfl rfl rfl) (sv (pfk (.bool false) rfl rfl rfl) (sv (mvv (.bool false) rfl) (W.n (gn rfl rfl rfl rfl) (W.n (gn rfl rfl rfl rfl) (W.n (gn rfl rfl rfl rfl) (W.n (gn rfl rfl rfl rfl) (sv (pfk (.bool false) rfl rfl rfl) (sv (asv (.bool false) rfl) (W.e ?_)))))))))))
                      obtain rfl := Option.some.inj h81
                      exact ⟨_, C, ⟨rfl, trivial⟩⟩
                  · refine W.n (gn rfl rfl rfl b96) (W.n (gn rfl rfl rfl b96) (W.n (gn rfl rfl rfl b96) (sv (pfk (.bool false) rfl b96 rfl) (sv (mvv (.bool false) rfl) (W.n (gn rfl rfl rfl rfl) (W.n (gn rfl rfl rfl rfl) (sv (pfk (.bool false) rfl rfl rfl) (sv (mvv (.bool false) rfl) (W.n (gn rfl rfl rfl rfl) (W.n (gn rfl rfl rfl rfl) (W.n (gn rfl rfl rfl rfl) ?_)))))))))))
                    refine W.n (gn rfl rfl rfl rfl) (W.n (gn rfl rfl rfl rfl) (sv (pfk (.bool false) rfl rfl rfl) (sv (mvv (.bool false) rfl) (W.n (gn rfl rfl rfl rfl) (W.n (gn rfl rfl rfl rfl) (W.n (gn rfl rfl rfl rfl) (W.n (gn rfl rfl rfl rfl) (sv (pfk (.bool false) rfl rfl rfl) (sv (mvv (.bool false) rfl) (W.n (gn rfl rfl rfl rfl) (W.n (gn rfl rfl rfl rfl) ?_)))))))))))
                    refine W.n (gn rfl rfl rfl rfl) (W.n (gn rfl rfl rfl rfl) (sv (pfk (.bool false) rfl rfl rfl) (sv (asv (.bool false) rfl) (W.e ?_))))
                    obtain rfl := Option.some.inj h81
                    exact ⟨_, C, ⟨rfl, trivial⟩⟩
                · refine W.n (gn rfl rfl rfl b88) (W.n (gn rfl rfl rfl b88) (W.n (gn rfl rfl rfl b88) (W.n (gn rfl rfl rfl b88) (W.n (gn rfl rfl rfl b88) (sv (pfk (.bool false) rfl b88 rfl) (sv (mvv (.bool false) rfl) (W.n (gn rfl rfl rfl rfl) (W.n (gn rfl rfl rfl rfl) (W.n (gn rfl rfl rfl rfl) (sv (pfk (.bool false) rfl rfl rfl) (sv (mvv (.bool false) rfl) ?_)))))))))))
                  refine W.n (gn rfl rfl rfl rfl) (W.n (gn rfl rfl rfl rfl) (sv (pfk (.bool false) rfl rfl rfl) (sv (mvv (.bool false) rfl) (W.n (gn rfl rfl rfl rfl) (W.n (gn rfl rfl rfl rfl) (W.n (gn rfl rfl rfl rfl) (W.n (gn rfl rfl rfl rfl) (W.n (gn rfl rfl rfl rfl) (sv (pfk (.bool false) rfl rfl rfl) (sv (mvv (.bool false) rfl) (W.n (gn rfl rfl rfl rfl) ?_)))))))))))
                  refine W.n (gn rfl rfl rfl rfl) (W.n (gn rfl rfl rfl rfl) (W.n (gn rfl rfl rfl rfl) (sv (pfk (.bool false) rfl rfl rfl) (sv (mvv (.bool false) rfl) (W.n (gn rfl rfl rfl rfl) (W.n (gn rfl rfl rfl rfl) (W.n (gn rfl rfl rfl rfl) (W.n (gn rfl rfl rfl rfl) (sv (pfk (.bool false) rfl rfl rfl) (sv (asv (.bool false) rfl) (W.e ?_)))))))))))
                  obtain rfl := Option.some.inj h81
                  exact ⟨_, C, ⟨rfl, trivial⟩⟩
              · refine W.n (gn rfl rfl rfl b87) (W.n (gn rfl rfl rfl b87) (sv (pfk (.bool false) rfl b87 rfl) (sv (mvv (.bool false) rfl) (W.n (gn rfl rfl rfl rfl) (W.n (gn rfl rfl rfl rfl) (W.n (gn rfl rfl rfl rfl) (W.n (gn rfl rfl rfl rfl) (W.n (gn rfl rfl rfl rfl) (sv (pfk (.bool false) rfl rfl rfl) (sv (mvv (.bool false) rfl) (W.n (gn rfl rfl rfl rfl) ?_)))))))))))
                refine W.n (gn rfl rfl rfl rfl) (W.n (gn rfl rfl rfl rfl) (sv (pfk (.bool false) rfl rfl rfl) (sv (mvv (.bool false) rfl) (W.n (gn rfl rfl rfl rfl) (W.n (gn rfl rfl rfl rfl) (sv (pfk (.bool false) rfl rfl rfl) (sv (mvv (.bool false) rfl) (W.n (gn rfl rfl rfl rfl) (W.n (gn rfl rfl rfl rfl) (W.n (gn rfl rfl rfl rfl) (W.n (gn rfl rfl rfl rfl) ?_)))))))))))
                refine W.n (gn rfl rfl rfl rfl) (sv (pfk (.bool false) rfl rfl rfl) (sv (mvv (.bool false) rfl) (W.n (gn rfl rfl rfl rfl) (W.n (gn rfl rfl rfl rfl) (W.n (gn rfl rfl rfl rfl) (W.n (gn rfl rfl rfl rfl) (sv (pfk (.bool false) rfl rfl rfl) (sv (mvv (.bool false) rfl) (W.n (gn rfl rfl rfl rfl) (W.n (gn rfl rfl rfl rfl) (W.n (gn rfl rfl rfl rfl) ?_)))))))))))
                refine W.n (gn rfl rfl rfl rfl) (sv (pfk (.bool false) rfl rfl rfl) (sv (asv (.bool false) rfl) (W.e ?_)))
                obtain rfl := Option.some.inj h81
                exact ⟨_, C, ⟨rfl, trivial⟩⟩
            · refine W.n (gn rfl rfl rfl b86) (W.n (gn rfl rfl rfl b86) (W.n (gn rfl rfl rfl b86) (sv (pfk (.bool false) rfl b86 rfl) (sv (mvv (.bool false) rfl) (W.n (gn rfl rfl rfl rfl) (W.n (gn rfl rfl rfl rfl) (sv (pfk (.bool false) rfl rfl rfl) (sv (mvv (.bool false) rfl) (W.n (gn rfl rfl rfl rfl) (W.n (gn rfl rfl rfl rfl) (W.n (gn rfl rfl rfl rfl) ?_)))))))))))
              refine W.n (gn rfl rfl rfl rfl) (W.n (gn rfl rfl rfl rfl) (sv (pfk (.bool false) rfl rfl rfl) (sv (mvv (.bool false) rfl) (W.n (gn rfl rfl rfl rfl) (W.n (gn rfl rfl rfl rfl) (W.n (gn rfl rfl rfl rfl) (sv (pfk (.bool false) rfl rfl rfl) (sv (mvv (.bool false) rfl) (W.n (gn rfl rfl rfl rfl) (W.n (gn rfl rfl rfl rfl) (sv (pfk (.bool false) rfl rfl rfl) ?_)))))))))))
              refine sv (mvv (.bool false) rfl) (W.n (gn rfl rfl rfl rfl) (W.n (gn rfl rfl rfl rfl) (W.n (gn rfl rfl rfl rfl) (W.n (gn rfl rfl rfl rfl) (W.n (gn rfl rfl rfl rfl) (sv (pfk (.bool false) rfl rfl rfl) (sv (mvv (.bool false) rfl) (W.n (gn rfl rfl rfl rfl) (W.n (gn rfl rfl rfl rfl) (W.n (gn rfl rfl rfl rfl) (W.n (gn rfl rfl rfl rfl) ?_)))))))))))
              refine sv (pfk (.bool false) rfl rfl rfl) (sv (mvv (.bool false) rfl) (W.n (gn rfl rfl rfl rfl) (W.n (gn rfl rfl rfl rfl) (W.n (gn rfl rfl rfl rfl) (W.n (gn rfl rfl rfl rfl) (sv (pfk (.bool false) rfl rfl rfl) (sv (asv (.bool false) rfl) (W.e ?_))))))))
              obtain rfl := Option.some.inj h81
              exact ⟨_, C, ⟨rfl, trivial⟩⟩
          · refine W.n (gn rfl rfl rfl b85) (W.n (gn rfl rfl rfl b85) (sv (pfk (.bool false) rfl b85 rfl) (sv (mvv (.bool false) rfl) (W.n (gn rfl rfl rfl rfl) (W.n (gn rfl rfl rfl rfl) (W.n (gn rfl rfl rfl rfl) (sv (pfk (.bool false) rfl rfl rfl) (sv (mvv (.bool false) rfl) (W.n (gn rfl rfl rfl rfl) (W.n (gn rfl rfl rfl rfl) (sv (pfk (.bool false) rfl rfl rfl) ?_)))))))))))
            refine sv (mvv (.bool false) rfl) (W.n (gn rfl rfl rfl rfl) (W.n (gn rfl rfl rfl rfl) (W.n (gn rfl rfl rfl rfl) (W.n (gn rfl rfl rfl rfl) (W.n (gn rfl rfl rfl rfl) (sv (pfk (.bool false) rfl rfl rfl) (sv (mvv (.bool false) rfl) (W.n (gn rfl rfl rfl rfl) (W.n (gn rfl rfl rfl rfl) (W.n (gn rfl rfl rfl rfl) (sv (pfk (.bool false) rfl rfl rfl) ?_)))))))))))
            refine sv (mvv (.bool false) rfl) (W.n (gn rfl rfl rfl rfl) (W.n (gn rfl rfl rfl rfl) (sv (pfk (.bool false) rfl rfl rfl) (sv (mvv (.bool false) rfl) (W.n (gn rfl rfl rfl rfl) (W.n (gn rfl rfl rfl rfl) (W.n (gn rfl rfl rfl rfl) (W.n (gn rfl rfl rfl rfl) (W.n (gn rfl rfl rfl rfl) (sv (pfk (.bool false) rfl rfl rfl) (sv (mvv (.bool false) rfl) ?_)))))))))))
            refine W.n (gn rfl rfl rfl rfl) (W.n (gn rfl rfl rfl rfl) (W.n (gn rfl rfl rfl rfl) (W.n (gn rfl rfl rfl rfl) (sv (pfk (.bool false) rfl rfl rfl) (sv (mvv (.bool false) rfl) (W.n (gn rfl rfl rfl rfl) (W.n (gn rfl rfl rfl rfl) (W.n (gn rfl rfl rfl rfl) (W.n (gn rfl rfl rfl rfl) (sv (pfk (.bool false) rfl rfl rfl) (sv (asv (.bool false) rfl) ?_)))))))))))
            refine W.e ?_
            obtain rfl := Option.some.inj h81
            exact ⟨_, C, ⟨rfl, trivial⟩⟩
        · refine W.n (gn rfl rfl rfl b84) (W.n (gn rfl rfl rfl b84) (sv (pfk (.bool false) rfl b84 rfl) (sv (mvv (.bool false) rfl) (W.n (gn rfl rfl rfl rfl) (W.n (gn rfl rfl rfl rfl) (sv (pfk (.bool false) rfl rfl rfl) (sv (mvv (.bool false) rfl) (W.n (gn rfl rfl rfl rfl) (W.n (gn rfl rfl rfl rfl) (W.n (gn rfl rfl rfl rfl) (sv (pfk (.bool false) rfl rfl rfl) ?_)))))))))))
          refine sv (mvv (.bool false) rfl) (W.n (gn rfl rfl rfl rfl) (W.n (gn rfl rfl rfl rfl) (sv (pfk (.bool false) rfl rfl rfl) (sv (mvv (.bool false) rfl) (W.n (gn rfl rfl rfl rfl) (W.n (gn rfl rfl rfl rfl) (W.n (gn rfl rfl rfl rfl) (W.n (gn rfl rfl rfl rfl) (W.n (gn rfl rfl rfl rfl) (sv (pfk (.bool false) rfl rfl rfl) (sv (mvv (.bool false) rfl) ?_)))))))))))
          refine W.n (gn rfl rfl rfl rfl) (W.n (gn rfl rfl rfl rfl) (W.n (gn rfl rfl rfl rfl) (sv (pfk (.bool false) rfl rfl rfl) (sv (mvv (.bool false) rfl) (W.n (gn rfl rfl rfl rfl) (W.n (gn rfl rfl rfl rfl) (sv (pfk (.bool false) rfl rfl rfl) (sv (mvv (.bool false) rfl) (W.n (gn rfl rfl rfl rfl) (W.n (gn rfl rfl rfl rfl) (W.n (gn rfl rfl rfl rfl) ?_)))))))))))
          refine W.n (gn rfl rfl rfl rfl) (W.n (gn rfl rfl rfl rfl) (sv (pfk (.bool false) rfl rfl rfl) (sv (mvv (.bool false) rfl) (W.n (gn rfl rfl rfl rfl) (W.n (gn rfl rfl rfl rfl) (W.n (gn rfl rfl rfl rfl) (W.n (gn rfl rfl rfl rfl) (sv (pfk (.bool false) rfl rfl rfl) (sv (mvv (.bool false) rfl) (W.n (gn rfl rfl rfl rfl) (W.n (gn rfl rfl rfl rfl) ?_)))))))))))
          refine W.n (gn rfl rfl rfl rfl) (W.n (gn rfl rfl rfl rfl) (sv (pfk (.bool false) rfl rfl rfl) (sv (asv (.bool false) rfl) (W.e ?_))))
          obtain rfl := Option.some.inj h81
          exact ⟨_, C, ⟨rfl, trivial⟩⟩
      · refine W.n (gn rfl rfl rfl b83) (W.n (gn rfl rfl rfl b83) (sv (pfk (.bool false) rfl b83 rfl) (sv (mvv (.bool false) rfl) (W.n (gn rfl rfl rfl rfl) (W.n (gn rfl rfl rfl rfl) (sv (pfk (.bool false) rfl rfl rfl) (sv (mvv (.bool false) rfl) (W.n (gn rfl rfl rfl rfl) (W.n (gn rfl rfl rfl rfl) (sv (pfk (.bool false) rfl rfl rfl) (sv (mvv (.bool false) rfl) ?_)))))))))))
        refine W.n (gn rfl rfl rfl rfl) (W.n (gn rfl rfl rfl rfl) (W.n (gn rfl rfl rfl rfl) (sv (pfk (.bool false) rfl rfl rfl) (sv (mvv (.bool false) rfl) (W.n (gn rfl rfl rfl rfl) (W.n (gn rfl rfl rfl rfl) (sv (pfk (.bool false) rfl rfl rfl) (sv (mvv (.bool false) rfl) (W.n (gn rfl rfl rfl rfl) (W.n (gn rfl rfl rfl rfl) (W.n (gn rfl rfl rfl rfl) ?_)))))))))))
        refine W.n (gn rfl rfl rfl rfl) (W.n (gn rfl rfl rfl rfl) (sv (pfk (.bool false) rfl rfl rfl) (sv (mvv (.bool false) rfl) (W.n (gn rfl rfl rfl rfl) (W.n (gn rfl rfl rfl rfl) (W.n (gn rfl rfl rfl rfl) (sv (pfk (.bool false) rfl rfl rfl) (sv (mvv (.bool false) rfl) (W.n (gn rfl rfl rfl rfl) (W.n (gn rfl rfl rfl rfl) (sv (pfk (.bool false) rfl rfl rfl) ?_)))))))))))
        refine sv (mvv (.bool false) rfl) (W.n (gn rfl rfl rfl rfl) (W.n (gn rfl rfl rfl rfl) (W.n (gn rfl rfl rfl rfl) (W.n (gn rfl rfl rfl rfl) (W.n (gn rfl rfl rfl rfl) (sv (pfk (.bool false) rfl rfl rfl) (sv (mvv (.bool false) rfl) (W.n (gn rfl rfl rfl rfl) (W.n (gn rfl rfl rfl rfl) (W.n (gn rfl rfl rfl rfl) (W.n (gn rfl rfl rfl rfl) ?_)))))))))))
        refine sv (pfk (.bool false) rfl rfl rfl) (sv (mvv (.bool false) rfl) (W.n (gn rfl rfl rfl rfl) (W.n (gn rfl rfl rfl rfl) (W.n (gn rfl rfl rfl rfl) (W.n (gn rfl rfl rfl rfl) (sv (pfk (.bool false) rfl rfl rfl) (sv (asv (.bool false) rfl) (W.e ?_))))))))
        obtain rfl := Option.some.inj h81
        exact ⟨_, C, ⟨rfl, trivial⟩⟩
    · refine W.n (gn rfl rfl rfl b82) (W.n (gn rfl rfl rfl b82) (sv (pfk (.bool false) rfl b82 rfl) (sv (mvv (.bool false) rfl) (W.n (gn rfl rfl rfl rfl) (W.n (gn rfl rfl rfl rfl) (sv (pfk (.bool false) rfl rfl rfl) (sv (mvv (.bool false) rfl) (W.n (gn rfl rfl rfl rfl) (W.n (gn rfl rfl rfl rfl) (sv (pfk (.bool false) rfl rfl rfl) (sv (mvv (.bool false) rfl) ?_)))))))))))
      refine W.n (gn rfl rfl rfl rfl) (W.n (gn rfl rfl rfl rfl) (sv (pfk (.bool false) rfl rfl rfl) (sv (mvv (.bool false) rfl) (W.n (gn rfl rfl rfl rfl) (W.n (gn rfl rfl rfl rfl) (W.n (gn rfl rfl rfl rfl) (sv (pfk (.bool false) rfl rfl rfl) (sv (mvv (.bool false) rfl) (W.n (gn rfl rfl rfl rfl) (W.n (gn rfl rfl rfl rfl) (sv (pfk (.bool false) rfl rfl rfl) ?_)))))))))))
      refine sv (mvv (.bool false) rfl) (W.n (gn rfl rfl rfl rfl) (W.n (gn rfl rfl rfl rfl) (W.n (gn rfl rfl rfl rfl) (W.n (gn rfl rfl rfl rfl) (W.n (gn rfl rfl rfl rfl) (sv (pfk (.bool false) rfl rfl rfl) (sv (mvv (.bool false) rfl) (W.n (gn rfl rfl rfl rfl) (W.n (gn rfl rfl rfl rfl) (W.n (gn rfl rfl rfl rfl) (sv (pfk (.bool false) rfl rfl rfl) ?_)))))))))))
      refine sv (mvv (.bool false) rfl) (W.n (gn rfl rfl rfl rfl) (W.n (gn rfl rfl rfl rfl) (sv (pfk (.bool false) rfl rfl rfl) (sv (mvv (.bool false) rfl) (W.n (gn rfl rfl rfl rfl) (W.n (gn rfl rfl rfl rfl) (W.n (gn rfl rfl rfl rfl) (W.n (gn rfl rfl rfl rfl) (W.n (gn rfl rfl rfl rfl) (sv (pfk (.bool false) rfl rfl rfl) (sv (mvv (.bool false) rfl) ?_)))))))))))
      refine W.n (gn rfl rfl rfl rfl) (W.n (gn rfl rfl rfl rfl) (W.n (gn rfl rfl rfl rfl) (W.n (gn rfl rfl rfl rfl) (sv (pfk (.bool false) rfl rfl rfl) (sv (mvv (.bool false) rfl) (W.n (gn rfl rfl rfl rfl) (W.n (gn rfl rfl rfl rfl) (W.n (gn rfl rfl rfl rfl) (W.n (gn rfl rfl rfl rfl) (sv (pfk (.bool false) rfl rfl rfl) (sv (asv (.bool false) rfl) ?_)))))))))))
      refine W.e ?_
      obtain rfl := Option.some.inj h81
      exact ⟨_, C, ⟨rfl, trivial⟩⟩
  · rintro ρ w123 ⟨S122, C, h124⟩
    refine h124.cw fun ρ => ?_
    clear h124
    refine cw_ret ?_
    obtain rfl := Option.some.inj h
    exact ⟨_, rfl, _, rfl, C⟩

noncomputable def octs_New (a0 : List Int) : Option (Option octs_Taker) :=
  ((app_ 1 ([] : List Int) a0).bind fun y10 => some (some (octs_Taker.mk y10 false)))
set_option maxRecDepth 100000 in
set_option maxHeartbeats 4000000 in
theorem octs_New_w {S : Nat → Prop} {w : World} {a0 : List Int} {v0 : Value} {r : (Option octs_Taker)} (hS : Sb S w) (h0 : Sl (kSl (kI .u8)) S w v0 a0) (h : octs_New a0 = some r) :
    Calls Try.prog 42 (List.toArray [v0]) w fun e w1 => ∃ S1 u0 us0 up0, e = .returned (u0) ∧ Cx No S w S1 w1 ∧ Obo 112 octs_Taker.fs S1 w1 u0 r us0 up0 ∧ (∀ b, b ∈ up0 → w.heap.size ≤ b) := by
  refine enter Try.func42 rfl (by kernel_rfl) rfl ?_
  have C := Cx.refl (F := No) hS
  unfold octs_New at h
  refine cw_seq fun K1 k2 => ?_
  refine cw_region (sv (asv (.pointer none) rfl) (W.e (k2 _ _ ?_)))
  refine cw_seq fun K3 k4 => ?_
  refine cw_region ?_
  refine sc (dc_lit (vs := []) (xs := ([] : List Int)) (base := w.heap.size) el61 rfl rfl (.nil) (Nat.le_of_ble_eq_true rfl) C.up.size C.sb fun v5 w6 h7 h8 u9 => ?_)
  replace h0 := h0.nw u9
  replace C := C.new u9
  refine sv (mvv v0 rfl) ?_
  obtain ⟨y10, h11, h⟩ := bnd_some h
  have h17 := h7
  refine sc (dc_append el61 (by decide) h17 (h0.src fun _ h => h) rfl rfl h11 C.up.size C.sb fun v12 w13 h14 u15 h16 => ?_)
  replace C := C.ow h17 u15
  replace h0 := h0.or (T := Blk v12)
  replace C := C.sealO h14
  replace h14 := h14.sealed
  refine sv (rv_build (r := [v12, .bool false]) st112 zr112 (by obtain ⟨_, _, rfl⟩ := h14.len; rfl)) ?_
  refine sc (dc_obox (l := octs_Taker.fs (octs_Taker.mk y10 false)) (S := (Or S (Blk v12))) (cs := [v12, .bool false]) (.cons ⟨rep_sl.2 ⟨_, rfl, h14⟩, rfl⟩ (.cons ⟨rep_sc.2 rfl, rfl⟩ (.nil))) (by simp) C.sb rfl fun v18 w19 h20 h21 u22 => ?_)
  have h24p := C.up.size
  obtain ⟨fp23, h20, h24⟩ : ∃ fp, Ob 112 (octs_Taker.fs (octs_Taker.mk y10 false)) (Or S (Blk v12)) w19 v18 [v12, .bool false] fp ∧ ∀ q, q ∈ fp → w.heap.size ≤ q := ⟨_, h20, fun q hq => by simp at hq; omega⟩
  replace C := C.new u22
  refine sv (asv v18 rfl) (W.e (k4 _ _ (cw_ret ?_)))
  obtain rfl := Option.some.inj h
  exact ⟨_, rfl, _, _, _, _, rfl, C, h20, h24⟩

def math_bits_Len64 (a0 : Int) : Option Int := if 0 ≤ a0 ∧ a0 ≤ 18446744073709551615 then some (Lib.bitLen a0.toNat : Int) else none
set_option maxRecDepth 100000 in
theorem math_bits_Len64_w {S : Nat → Prop} {w : World} {a0 : Int} {r : Int} (hS : Sb S w) (h : math_bits_Len64 a0 = some r) :
    Calls Try.prog 63 (List.toArray [.int .u64 a0]) w fun e w1 => ∃ S1, e = .returned (.int .i64 r) ∧ Cx No S w S1 w1 := by
  unfold math_bits_Len64 at h
  split at h
  case isFalse => cases h
  rename_i hc
  obtain rfl := Option.some.inj h
  exact (Try.bits_Len64 a0 w hc.1 hc.2).mono fun e w1 hp => ⟨S, hp.1, by rw [hp.2]; exact Cx.refl hS⟩

noncomputable def octs_Taker_fail (a0 : octs_Taker) : Option octs_Taker :=
  (pur ({ a0 with rest := ([] : List Int) } : octs_Taker) fun y1 => (pur ({ y1 with bad := true } : octs_Taker) fun y10 => some y10))
set_option maxRecDepth 100000 in
set_option maxHeartbeats 4000000 in
theorem octs_Taker_fail_w {S : Nat → Prop} {w : World} {a0 : octs_Taker} {v0 : Value} {cs0 : List Value} {fp0 : List Nat} {r : octs_Taker} (hS : Sb S w) (h0 : Ob 112 (octs_Taker.fs a0) S w v0 cs0 fp0) (h : octs_Taker_fail a0 = some r) :
    Calls Try.prog 64 (List.toArray [v0]) w fun e w1 => ∃ S1 us_0 up_0, e = .returned (.tuple (List.toArray [])) ∧ Cx (fun b => b ∈ fp0) S w S1 w1 ∧ Ob 112 (octs_Taker.fs r) S1 w1 v0 us_0 up_0 ∧ (∀ b, b ∈ up_0 → b ∈ fp0 ∨ w.heap.size ≤ b) := by
  refine enter Try.func64 rfl (by kernel_rfl) rfl ?_
  have C := Cx.refl (F := (fun b => b ∈ fp0)) hS
  unfold octs_Taker_fail at h
  have hs0 : ∀ b, b ∈ fp0 → b ∈ fp0 ∨ w.heap.size ≤ b := fun b hb => .inl hb
  have hl0 : ∀ b ∈ fp0, b < w.heap.size := fun b hb => (h0.lt b hb).1
  refine cw_region (sv (mvv v0 rfl) (sv (mvv v0 rfl) (sv (rv_nilcheck rfl h0.ptr) (sv (rv_fieldAddr (b := pb v0) (o := 0) st112 rfl h0.ptr) ?_))))
  obtain ⟨y1, h2, h⟩ := pur_some h
  have h7 : ∀ b, b ∈ fp0 → ¬ S b := fun b hb => (h0.lt b hb).2
  refine sc (dc_ofield (i := 0) (k := (kSl (kI .u8))) (h1 := rfl) (a' := ([] : List Int)) h0 rfl ag61 rfl rfl (rep_sl.2 ⟨_, rfl, (sl_nil _ _ _)⟩) fun w3 h4 u5 => ?_)
  replace h4 : Ob 112 (octs_Taker.fs ({ a0 with rest := ([] : List Int) } : octs_Taker)) S w3 v0 (cs0.set 0 (.slice none 0 0)) fp0 := h4
  rw [h2] at h4
  obtain ⟨cs8, h9⟩ : ∃ cs, cs = cs0.set 0 (.slice none 0 0) := ⟨_, rfl⟩
  rw [← h9] at h4
  have c6 := Cx.ofUp C.sb u5
  replace C := C.ofc c6 hs0
  refine sv (rv_nilcheck rfl h4.ptr) (sv (rv_fieldAddr (b := pb v0) (o := 0) st112 rfl h4.ptr) ?_)
  obtain ⟨y10, h11, h⟩ := pur_some h
  have h16 : ∀ b, b ∈ fp0 → ¬ S b := fun b hb => (h4.lt b hb).2
  refine sc (dc_ofield (i := 1) (k := kB) (h1 := rfl) (a' := true) h4 rfl ag4 rfl rfl (rep_sc.2 rfl) fun w12 h13 u14 => ?_)
  replace h13 : Ob 112 (octs_Taker.fs ({ y1 with bad := true } : octs_Taker)) S w12 v0 (cs8.set 1 (.bool true)) fp0 := h13
  rw [h11] at h13
  obtain ⟨cs17, h18⟩ : ∃ cs, cs = cs8.set 1 (.bool true) := ⟨_, rfl⟩
  rw [← h18] at h13
  have c15 := Cx.ofUp C.sb u14
  replace C := C.ofc c15 hs0
  refine W.e ?_
  obtain rfl := Option.some.inj h
  exact ⟨_, rfl, _, _, _, rfl, C, h13, hs0⟩

end Go.Proofs.Ytikdgllagijidaa
