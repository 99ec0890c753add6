/- What each function computes, and that the program computes it (part 3). Printed by gen.py, a program of this session. -/
import Derived.Test.YtikdgllagijidaaGreatW2
set_option linter.unusedVariables false
namespace Go.Proofs.YtikdgllagijidaaGreat
open Go Go.Mg
noncomputable def marigraphref08_Index_Bytes.b2 (a0 : marigraphref08_Index) (x42 : List Int) (x43 : Int) : Option (((List Int) × Int) ⊕ ((List Int))) :=
  (bif (decide (x43 < (a0.S.length : Int))) then ((at_ a0.S x43).bind fun y61 => (pur (IntKind.u64.wrap y61.Id) fun y68 => ((marigraphref01_Put x42 y68).bind fun y70 => ((at_ a0.S x43).bind fun y83 => ((marigraphref05_Put y83.L).bind fun y90 => ((app_ 1 y70 y90.1).bind fun y99 => (pur (IntKind.i64.wrap (x43 + (1 : Int))) fun y108 => some (.inl (y99, y108))))))))) else some (.inr x42))
noncomputable def marigraphref08_Index_Bytes (a0 : marigraphref08_Index) : Option (List Int) :=
  (pur (IntKind.u64.wrap a0.Given) fun y5 => ((marigraphref01_Put ([] : List Int) y5).bind fun y7 => (pur (IntKind.u64.wrap (a0.S.length : Int)) fun y20 => ((marigraphref01_Put y7 y20).bind fun y22 => ((iter (fun s : (List Int) × Int => marigraphref08_Index_Bytes.b2 a0 s.1 s.2) (y22, (0 : Int))).bind fun o30 => some o30)))))
set_option maxRecDepth 100000 in
set_option maxHeartbeats 4000000 in
theorem marigraphref08_Index_Bytes_w {S : Nat → Prop} {w : World} {a0 : marigraphref08_Index} {v0 : Value} {cs0 : List Value} {fp0 : List Nat} {r : (List Int)} (hS : Sb S w) (h0 : Ob 29 (marigraphref08_Index.fs a0) S w v0 cs0 fp0) (h : marigraphref08_Index_Bytes a0 = some r) :
    Calls Tryz.prog 11 (List.toArray [v0]) w fun e w1 => ∃ S1 u0, e = .returned (u0) ∧ Cx No S w S1 w1 ∧ Ow (kI .u8) 5 S1 w.heap.size w1 u0 r := by
  refine enter Tryz.func11 rfl (by kernel_rfl) rfl ?_
  have C := Cx.refl (F := No) hS
  unfold marigraphref08_Index_Bytes at h
  have hl0 : ∀ b ∈ fp0, b < w.heap.size := fun b hb => (h0.lt b hb).1
  refine cw_seq fun K1 k2 => ?_
  refine cw_region (sv (asv (.slice none 0 0) rfl) (W.e (k2 _ _ ?_)))
  refine cw_seq fun K3 k4 => ?_
  refine cw_region (sv (mvv v0 rfl) (sv (rv_nilcheck rfl h0.ptr) (sv (rv_fieldAddr (b := pb v0) (o := 0) st29 rfl h0.ptr) (sr (rw_ofield (i := 1) (c := .int .i64 a0.Given) h0 ag3 (h0.sc (i := 1) rfl) rfl) ?_))))
  obtain ⟨y5, h6, h⟩ := pur_some h
  refine sv (rv_conv Tryz.underlying3 Tryz.underlying74 rfl h6) ?_
  obtain ⟨y7, h8, h⟩ := bnd_some h
  refine sc (dc_call (vs := [.slice none 0 0, .int .u64 y5]) can36 rfl ?_)
  refine (marigraphref01_Put_w C.sb (sl_nil _ _ _) h8).mono ?_
  rintro _ w9 ⟨S10, v12, rfl, c11, h13⟩
  refine ⟨_, rfl, ?_⟩
  have p14 := ap_fresh (fun b hb => (h13.lt b hb).1) (fun b hb => (h0.lt b hb).1)
  replace h13 := h13.base C.up.size
  replace h0 := h0.cx c11
  replace C := C.trans c11
  refine sv (asv v12 rfl) (W.e (k4 _ _ ?_))
  refine cw_seq fun K15 k16 => ?_
  refine cw_region (sv (mvv v12 rfl) (sv (mvv v0 rfl) (sv (rv_nilcheck rfl h0.ptr) (sv (rv_fieldAddr (b := pb v0) (o := 0) st29 rfl h0.ptr) ?_))))
  obtain ⟨c17, h18, h19⟩ := h0.sl (i := 0) rfl
  refine sr (rw_ofield (i := 0) (c := c17) h0 ag27 h18 rfl) (sv (rv_lenS el27 h19 rfl) ?_)
  obtain ⟨y20, h21, h⟩ := pur_some h
  refine sv (rv_conv Tryz.underlying3 Tryz.underlying74 rfl h21) ?_
  replace h0 := h0.or (ap_symm p14)
  replace C := C.sealO h13
  replace h13 := h13.sealed
  obtain ⟨y22, h23, h⟩ := bnd_some h
  refine sc (dc_call (vs := [v12, .int .u64 y20]) can36 rfl ?_)
  refine (marigraphref01_Put_w C.sb h13 h23).mono ?_
  rintro _ w24 ⟨S25, v27, rfl, c26, h28⟩
  refine ⟨_, rfl, ?_⟩
  have p29 := ap_fresh (fun b hb => (h28.lt b hb).1) (fun b hb => (h0.lt b hb).1)
  replace h28 := h28.base C.up.size
  replace h0 := h0.cx c26
  replace C := C.trans c26
  refine sv (asv v27 rfl) (W.e (k16 _ _ ?_))
  obtain ⟨o30, h33, h⟩ := bnd_some h
  refine cw_seq' (fun ρ w1 => ∃ S1 v113, Cx No S w S1 w1 ∧ Has ρ [(3, v113)] ∧ Ow (kI .u8) 5 S1 w.heap.size w1 v113 o30) ?_ ?_
  · refine cw_seq fun K34 k35 => ?_
    refine cw_region (sv (asv (.int .i64 0) rfl) (W.e (k35 _ _ (cw_block ?_))))
    refine cw_iter h33 (fun s ρ w1 => ∃ S1 v39, Cx No S w S1 w1 ∧ Has ρ [(0, v0), (3, v39), (4, .int .i64 s.2)] ∧ Ow (kI .u8) 5 S1 w.heap.size w1 v39 s.1 ∧ Ob 29 (marigraphref08_Index.fs a0) S1 w1 v0 cs0 fp0) ⟨_, _, C, ⟨rfl, rfl, rfl, trivial⟩, h28, h0⟩ ?_
    rintro ⟨x42, x43⟩ q36 ρ w38 ⟨S37, v39, C, h41, h40, h0⟩ h45 h44
    refine h41.cw fun ρ => ?_
    clear h41
    replace h45 : marigraphref08_Index_Bytes.b2 a0 x42 x43 = some q36 := h45
    unfold marigraphref08_Index_Bytes.b2 at h45
    refine cw_seq fun K46 k47 => ?_
    refine cw_seq fun K48 k49 => ?_
    refine cw_region (sv (mvv (.int .i64 x43) rfl) (sv (mvv v0 rfl) (sv (rv_nilcheck rfl h0.ptr) (sv (rv_fieldAddr (b := pb v0) (o := 0) st29 rfl h0.ptr) ?_))))
    obtain ⟨c50, h51, h52⟩ := h0.sl (i := 0) rfl
    refine sr (rw_ofield (i := 0) (c := c50) h0 ag27 h51 rfl) (sv (rv_lenS el27 h52 rfl) (sv (rv_lss rfl rfl) (W.e (k49 _ _ ?_))))
    rcases bif_some h45 with ⟨b53, h45⟩ | ⟨b53, h45⟩
    · refine cw_t rfl b53 (cw_skip (k47 _ _ ?_))
      refine cw_seq fun K54 k55 => ?_
      refine cw_block ?_
      refine cw_seq fun K56 k57 => ?_
      refine cw_region (sv (mvv v39 rfl) (sv (mvv v0 rfl) (sv (rv_nilcheck rfl h0.ptr) (sv (rv_fieldAddr (b := pb v0) (o := 0) st29 rfl h0.ptr) ?_))))
      obtain ⟨c58, h59, h60⟩ := h0.sl (i := 0) rfl
      refine sr (rw_ofield (i := 0) (c := c58) h0 ag27 h59 rfl) (sv (mvv (.int .i64 x43) rfl) ?_)
      obtain ⟨y61, h62, h45⟩ := bnd_some h45
      refine sv (rv_index el27 h60 rfl rfl h62) (sv (rv_fieldAddr st79 rfl rfl) ?_)
      obtain ⟨cs63, h64, h65⟩ := Sl.cells h60 h62
      obtain ⟨c66, rfl, g67⟩ := marigraphref08_Series.r.1 h64
      refine sr (rw_el1 (off := 0) ag3 (h65 _ (Sm.refl _ _)) rfl rfl) ?_
      obtain ⟨y68, h69, h45⟩ := pur_some h45
      refine sv (rv_conv Tryz.underlying3 Tryz.underlying74 rfl h69) ?_
      replace h0 := h0.or (fun b hq hb => absurd (h40.lt b hb).1 (Nat.not_le_of_lt (hl0 b hq)))
      replace C := C.sealO h40
      replace h40 := h40.sealed
      obtain ⟨y70, h71, h45⟩ := bnd_some h45
      refine sc (dc_call (vs := [v39, .int .u64 y68]) can36 rfl ?_)
      refine (marigraphref01_Put_w C.sb h40 h71).mono ?_
      rintro _ w72 ⟨S73, v75, rfl, c74, h76⟩
      refine ⟨_, rfl, ?_⟩
      have p77 := ap_fresh (fun b hb => (h76.lt b hb).1) (fun b hb => (h0.lt b hb).1)
      replace h76 := h76.base C.up.size
      replace h0 := h0.cx c74
      replace C := C.trans c74
      refine sv (asv v75 rfl) (W.e (k57 _ _ ?_))
      refine cw_seq fun K78 k79 => ?_
      refine cw_region (sv (mvv v0 rfl) (sv (rv_nilcheck rfl h0.ptr) (sv (rv_fieldAddr (b := pb v0) (o := 0) st29 rfl h0.ptr) ?_)))
      obtain ⟨c80, h81, h82⟩ := h0.sl (i := 0) rfl
      refine sr (rw_ofield (i := 0) (c := c80) h0 ag27 h81 rfl) (sv (mvv (.int .i64 x43) rfl) ?_)
      obtain ⟨y83, h84, h45⟩ := bnd_some h45
      refine sv (rv_index el27 h82 rfl rfl h84) (sv (rv_fieldAddr st79 rfl rfl) ?_)
      obtain ⟨cs85, h86, h87⟩ := Sl.cells h82 h84
      obtain ⟨c88, rfl, g89⟩ := marigraphref08_Series.r.1 h86
      refine sr (rw_el1 (off := 1) ag31 (h87 _ (Sm.refl _ _)) rfl rfl) ?_
      obtain ⟨y90, h91, h45⟩ := bnd_some h45
      refine sc (dc_call (vs := [c88]) can37 rfl ?_)
      refine (marigraphref05_Put_w C.sb g89 h91).mono ?_
      rintro _ w92 ⟨S93, v95, rfl, c94, h96⟩
      refine ⟨_, rfl, ?_⟩
      have p97 := ap_fresh (fun b hb => (h96.lt b hb).1) (fun b hb => (h0.lt b hb).1)
      have p98 := ap_fresh (fun b hb => (h96.lt b hb).1) (fun b hb => (h76.lt b hb).2)
      replace h96 := h96.base C.up.size
      replace h0 := h0.cx c94
      replace h76 := h76.cx c94
      replace C := C.trans c94
      refine sv (mvv (.tuple (List.toArray [v95, .int .i64 y90.2])) rfl) (sv (rv_extract rfl rfl) (sv (rv_extract rfl rfl) (sv (asv v95 rfl) (sv (asv (.int .i64 y90.2) rfl) (W.e (k79 _ _ (cw_region (sv (mvv v75 rfl) (sv (mvv v95 rfl) ?_)))))))))
      obtain ⟨y99, h100, h45⟩ := bnd_some h45
      have h106 := h76
      refine sc (dc_append el36 (by decide) h106 h96.src rfl rfl h100 C.up.size C.sb fun v101 w102 h103 u104 h105 => ?_)
      have p107 := ap_grow p77 h105 (fun b hb => (h0.lt b hb).1)
      replace h0 := h0.wr u104 h106.not (ap_symm p77)
      replace C := C.ow h106 u104
      refine sv (asv v101 rfl) (W.e (k55 _ _ (cw_region (sv (mvv (.int .i64 x43) rfl) ?_))))
      obtain ⟨y108, h109, h45⟩ := pur_some h45
      refine sv (rv_add rfl rfl h109) (sv (asv (.int .i64 y108) rfl) (W.e ?_))
      obtain rfl := Option.some.inj h45
      exact ⟨_, rfl, ⟨_, _, C, ⟨rfl, rfl, rfl, trivial⟩, h103, h0⟩⟩
    · refine cw_f rfl b53 (cw_exit ?_)
      obtain rfl := Option.some.inj h45
      have h110 := congrArg some h44
      obtain rfl := Option.some.inj h110
      exact ⟨_, _, C, ⟨rfl, trivial⟩, h40⟩
  · rintro ρ w112 ⟨S111, v113, C, h115, h114⟩
    refine h115.cw fun ρ => ?_
    clear h115
    refine cw_seq fun K116 k117 => ?_
    refine cw_region (sv (mvv v113 rfl) (sv (asv v113 rfl) (W.e (k117 _ _ (cw_ret ?_)))))
    obtain rfl := Option.some.inj h
    exact ⟨_, rfl, _, _, rfl, C, h114⟩

noncomputable def marigraphlaw08_IndexPlays.b2 (y45 : (List marigraphlaw08_Act)) (x65 : Int) (x66 : Option index_Index) (x67 : marigraphref08_Index) : Option ((Int × (Option index_Index) × marigraphref08_Index) ⊕ (((Option index_Index) × marigraphref08_Index) ⊕ (Bool))) :=
  (bif (decide (x65 < (y45.length : Int))) then (((at_ y45 x65).bind fun y81 => (pur y81 fun y97 => (((marigraphlaw08_does x66 x67 y97).bind fun y114 => (bif (!y114.1) then some (true, y114.2.1, y114.2.2) else ((marigraphlaw08_seen y114.2.1 y114.2.2 y97).bind fun y141 => some ((!y141), y114.2.1, y114.2.2)))).bind fun o103 => (bif o103.1 then some (.inr (.inr (.inr false))) else some (.inl (o103.2.1, o103.2.2)))))).bind (Sum.elim (fun o75n => (pur (IntKind.i64.wrap (x65 + (1 : Int))) fun y174 => some (.inl (y174, o75n.1, o75n.2)))) (fun q => some q))) else some (.inr (.inl (x66, x67))))
noncomputable def marigraphlaw08_IndexPlays (a0 : List marigraphlaw08_Act) : Option Bool :=
  ((marigraphlaw08_shown).bind fun y5 => ((index_New).bind fun y12 => (bif y12.isNone then some false else (((marigraphlaw08_acts a0).bind fun y45 => (iter (fun s : Int × (Option index_Index) × marigraphref08_Index => marigraphlaw08_IndexPlays.b2 y45 s.1 s.2.1 s.2.2) ((0 : Int), y12, (marigraphref08_Index.mk ([] : List marigraphref08_Series) (0 : Int))))).bind (Sum.elim (fun o39n => ((bif y5 then ((index_Index_Bytes o39n.1).bind fun y11_3_1 => ((marigraphref08_Index_Bytes o39n.2).bind fun y11_6_1 => some (strEq (strOf y11_3_1) (strOf y11_6_1)))) else some false).bind fun o189 => some o189)) (fun q => some q))))))
set_option maxRecDepth 100000 in
set_option maxHeartbeats 4000000 in
theorem marigraphlaw08_IndexPlays_w {S : Nat → Prop} {w : World} {a0 : List marigraphlaw08_Act} {v0 : Value} {r : Bool} (hS : Sb S w) (h0 : Sl (kSl marigraphlaw08_Act.k) S w v0 a0) (h : marigraphlaw08_IndexPlays a0 = some r) :
    Calls Tryz.prog 3 (List.toArray [v0]) w fun e w1 => ∃ S1, e = .returned (.bool r) ∧ Cx No S w S1 w1 := by
  refine enter Tryz.func3 rfl (by kernel_rfl) rfl ?_
  have C := Cx.refl (F := No) hS
  unfold marigraphlaw08_IndexPlays at h
  refine cw_seq fun K1 k2 => ?_
  refine cw_region (sv (asv (.bool false) rfl) (W.e (k2 _ _ ?_)))
  refine cw_seq fun K3 k4 => ?_
  refine cw_region ?_
  obtain ⟨y5, h6, h⟩ := bnd_some h
  refine sc (dc_call (vs := []) can5 rfl ?_)
  refine (marigraphlaw08_shown_w C.sb  h6).mono ?_
  rintro _ w7 ⟨S8, rfl, c9⟩
  refine ⟨_, rfl, ?_⟩
  replace h0 := h0.cx c9
  replace C := C.trans c9
  refine sv (asv (.bool y5) rfl) (W.e (k4 _ _ ?_))
  refine cw_seq fun K10 k11 => ?_
  refine cw_region ?_
  obtain ⟨y12, h13, h⟩ := bnd_some h
  refine sc (dc_call (vs := []) can6 rfl ?_)
  refine (index_New_w C.sb  h13).mono ?_
  rintro _ w14 ⟨S15, v17, cs18, fp19, rfl, c16, h20, h21⟩
  refine ⟨_, rfl, ?_⟩
  have h22 : ∀ b, b ∈ fp19 → w.heap.size ≤ b := fun b hb => Nat.le_trans C.up.size (h21 b hb)
  replace h0 := h0.cx c16
  replace C := C.trans c16
  refine sv (rv_build (r := [.slice none 0 0, .int .i64 0]) st29 zr29 rfl) ?_
  refine sc (dc_obox (l := marigraphref08_Index.fs (marigraphref08_Index.mk ([] : List marigraphref08_Series) (0 : Int))) (S := S15) (cs := [.slice none 0 0, .int .i64 0]) (.cons ⟨rep_sl.2 ⟨_, rfl, (sl_nil _ _ _)⟩, rfl⟩ (.cons ⟨rep_sc.2 rfl, rfl⟩ (.nil))) (by simp) C.sb rfl fun v23 w24 h25 h26 u27 => ?_)
  have h29p := C.up.size
  obtain ⟨fp28, h25, h29, h29fr⟩ : ∃ fp, Ob 29 (marigraphref08_Index.fs (marigraphref08_Index.mk ([] : List marigraphref08_Series) (0 : Int))) S15 w24 v23 [.slice none 0 0, .int .i64 0] fp ∧ (∀ q, q ∈ fp → w.heap.size ≤ q) ∧ ∀ q, q ∈ fp → w14.heap.size ≤ q := ⟨_, h25, fun q hq => by simp at hq; omega, fun q hq => by simp at hq; omega⟩
  have h30 := h29fr
  have p31 := ap_fresh h30 (fun b hb => (h20.lt b hb).1)
  replace h0 := h0.nw u27
  replace h20 := h20.nw u27
  replace C := C.new u27
  refine sv (asv v17 rfl) (sv (asv v23 rfl) (W.e (k11 _ _ ?_)))
  refine cw_seq fun K32 k33 => ?_
  refine cw_seq fun K34 k35 => ?_
  refine cw_region (sv (mvv v17 rfl) (sv (rv_nileq Tryz.underlying24 rfl rfl h20.ne) (W.e (k35 _ _ ?_))))
  rcases bif_some h with ⟨b36, h⟩ | ⟨b36, h⟩
  · refine cw_t rfl b36 ?_
    refine cw_seq fun K37 k38 => ?_
    refine cw_region (sv (asv (.bool false) rfl) (W.e (k38 _ _ (cw_ret ?_))))
    obtain rfl := Option.some.inj h
    exact ⟨_, rfl, _, rfl, C⟩
  · refine cw_f rfl b36 (cw_skip (k33 _ _ ?_))
    obtain ⟨o39, h42, h⟩ := bnds_some h
    refine cw_seq' (fun ρ w1 => ∃ o39n, o39 = (.inl o39n) ∧ ∃ S1 fp180 cs182 fp184 cs186, Cx No S w S1 w1 ∧ Has ρ [(3, .bool y5), (4, v17), (5, v23)] ∧ Obo 61 index_Index.fs S1 w1 v17 o39n.1 cs182 fp180 ∧ (∀ b, b ∈ fp180 → w.heap.size ≤ b) ∧ Ob 29 (marigraphref08_Index.fs o39n.2) S1 w1 v23 cs186 fp184 ∧ (∀ b, b ∈ fp184 → w.heap.size ≤ b) ∧ (∀ b, b ∈ fp180 → ¬ b ∈ fp184)) ?_ ?_
    · refine cw_seq fun K43 k44 => ?_
      refine cw_region (sv (mvv v0 rfl) ?_)
      obtain ⟨y45, h46, h42⟩ := bnd_some h42
      refine sc (dc_call (vs := [v0]) can7 rfl ?_)
      refine (marigraphlaw08_acts_w C.sb h0 h46).mono ?_
      rintro _ w47 ⟨S48, v50, rfl, c49, h51⟩
      refine ⟨_, rfl, ?_⟩
      replace h20 := h20.cx c49
      replace h25 := h25.cx c49
      replace C := C.trans c49
      refine sv (rv_lenS el22 h51 rfl) (sv (mvv (.int .i64 0) rfl) (W.e (k44 _ _ (cw_block ?_))))
      refine cw_iter h42 (fun s ρ w1 => ∃ S1 fp56 cs58 fp60 cs62, Cx No S w S1 w1 ∧ Has ρ [(3, .bool y5), (4, v17), (5, v23), (15, v50), (16, .int .i64 (y45.length : Int)), (17, .int .i64 s.1)] ∧ Sl (kSl marigraphlaw08_Act.k) S1 w1 v50 y45 ∧ Obo 61 index_Index.fs S1 w1 v17 s.2.1 cs58 fp56 ∧ (∀ b, b ∈ fp56 → w.heap.size ≤ b) ∧ Ob 29 (marigraphref08_Index.fs s.2.2) S1 w1 v23 cs62 fp60 ∧ (∀ b, b ∈ fp60 → w.heap.size ≤ b) ∧ (∀ b, b ∈ fp56 → ¬ b ∈ fp60)) ⟨_, _, _, _, _, C, ⟨rfl, rfl, rfl, rfl, rfl, rfl, trivial⟩, h51, h20, h22, h25, h29, (ap_symm p31)⟩ ?_
      rintro ⟨x65, x66, x67⟩ q52 ρ w54 ⟨S53, fp56, cs58, fp60, cs62, C, h64, h51, h55, h57, h59, h61, p63⟩ h69 h68
      refine h64.cw fun ρ => ?_
      clear h64
      replace h69 : marigraphlaw08_IndexPlays.b2 y45 x65 x66 x67 = some q52 := h69
      unfold marigraphlaw08_IndexPlays.b2 at h69
      refine cw_seq fun K70 k71 => ?_
      refine cw_region (sv (rv_lss rfl rfl) (W.e (k71 _ _ ?_)))
      refine cw_seq fun K72 k73 => ?_
      rcases bif_some h69 with ⟨b74, h69⟩ | ⟨b74, h69⟩
      · refine cw_t rfl b74 (cw_skip (k73 _ _ ?_))
        obtain ⟨o75, h78, h69⟩ := bnds_some h69
        refine cw_seq' (fun ρ w1 => ∃ o75n, o75 = (.inl o75n) ∧ ∃ S1 fp165 cs167 fp169 cs171, Cx No S w S1 w1 ∧ Has ρ [(3, .bool y5), (4, v17), (5, v23), (15, v50), (16, .int .i64 (y45.length : Int)), (17, .int .i64 x65)] ∧ Sl (kSl marigraphlaw08_Act.k) S1 w1 v50 y45 ∧ Obo 61 index_Index.fs S1 w1 v17 o75n.1 cs167 fp165 ∧ (∀ b, b ∈ fp165 → w.heap.size ≤ b) ∧ Ob 29 (marigraphref08_Index.fs o75n.2) S1 w1 v23 cs171 fp169 ∧ (∀ b, b ∈ fp169 → w.heap.size ≤ b) ∧ (∀ b, b ∈ fp165 → ¬ b ∈ fp169)) ?_ ?_
        · refine cw_block ?_
          refine cw_seq fun K79 k80 => ?_
          refine cw_region ?_
          obtain ⟨y81, h82, h78⟩ := bnd_some h78
          refine sv (rv_index el22 h51 rfl rfl h82) ?_
          obtain ⟨v83, h84, h85⟩ := rw_loadA (P := Tryz.prog) el22 h51 h82
          obtain ⟨c86, c88, rfl, g87, g89⟩ := marigraphlaw08_Act.o.1 h84
          refine sr (h85 _ (Sm.refl _ _) rfl) ?_
          refine sc (dc_allocO (x0 := (marigraphlaw08_Act.mk (0 : Int) (0 : Int) ([] : List api_Label) ([] : List api_Ask))) (base := w.heap.size) el22 zr34 (fun _ => marigraphlaw08_Act.r.2 ⟨_, _, rfl, sl_nil _ _ _, sl_nil _ _ _⟩) C.up.size C.sb fun b90 w91 h92 h93 u94 => ?_)
          have p95 := ap_fresh h93 (fun b hb => (h55.lt b hb).1)
          have p96 := ap_fresh h93 (fun b hb => (h59.lt b hb).1)
          replace h55 := h55.nw u94
          replace h59 := h59.nw u94
          replace h51 := h51.nw u94
          replace g87 := g87.nw u94
          replace g89 := g89.nw u94
          replace C := C.new u94
          obtain ⟨y97, h98, h78⟩ := pur_some h78
          have h102 := h92
          refine sc (dc_storeO el22 h102 (show at_ [(marigraphlaw08_Act.mk (0 : Int) (0 : Int) ([] : List api_Label) ([] : List api_Ask))] (0 : Int) = some (marigraphlaw08_Act.mk (0 : Int) (0 : Int) ([] : List api_Label) ([] : List api_Ask)) from rfl) rfl rfl ((marigraphlaw08_Act.o.2 ⟨_, _, rfl, g87, g89⟩)) fun w99 h100 u101 => ?_)
          replace h100 : Ow marigraphlaw08_Act.k 34 S53 w.heap.size w99 (.slice (some ⟨b90, 0, none⟩) 1 1) [y81] := h100
          rw [h98] at h100
          replace h55 := h55.wr u101 h102.not (ap_symm p95)
          replace h59 := h59.wr u101 h102.not (ap_symm p96)
          replace h51 := h51.wr u101 h102.not
          replace C := C.ow h102 u101
          refine W.e (k80 _ _ ?_)
          obtain ⟨o103, h106, h78⟩ := bnd_some h78
          refine cw_seq' (fun ρ w1 => ∃ S1 fp149 cs151 fp153 cs155, Cx No S w S1 w1 ∧ Has ρ [(3, .bool y5), (4, v17), (5, v23), (15, v50), (16, .int .i64 (y45.length : Int)), (17, .int .i64 x65), (32, .bool o103.1)] ∧ Sl (kSl marigraphlaw08_Act.k) S1 w1 v50 y45 ∧ Obo 61 index_Index.fs S1 w1 v17 o103.2.1 cs151 fp149 ∧ (∀ b, b ∈ fp149 → w.heap.size ≤ b) ∧ Ob 29 (marigraphref08_Index.fs o103.2.2) S1 w1 v23 cs155 fp153 ∧ (∀ b, b ∈ fp153 → w.heap.size ≤ b) ∧ (∀ b, b ∈ fp149 → ¬ b ∈ fp153)) ?_ ?_
          · refine cw_region (sv (mvv v17 rfl) (sv (mvv v23 rfl) ?_))
            obtain ⟨v107, h108, h109⟩ := rw_loadO (P := Tryz.prog) el22 h100 (show at_ [y97] (0 : Int) = some y97 from rfl)
            obtain ⟨c110, c112, rfl, g111, g113⟩ := marigraphlaw08_Act.o.1 h108
            refine sr (h109 _ (Sm.refl _ _) rfl) ?_
            obtain ⟨y114, h115, h106⟩ := bnd_some h106
            refine sc (dc_call (vs := [v17, v23, .agg (List.toArray [.int .u8 y97.Kind, .int .i64 y97.Id, c110, c112])]) can8 rfl ?_)
            refine (marigraphlaw08_does_w C.sb h55 h59 (marigraphlaw08_Act.o.2 ⟨_, _, rfl, g111, g113⟩) p63 h115).mono ?_
            rintro _ w116 ⟨S117, cs119, fp120, cs123, fp124, rfl, c118, h121, h122, h125, h126, p127⟩
            refine ⟨_, rfl, ?_⟩
            have h128 : ∀ b, b ∈ fp56 ∨ b ∈ fp60 → ¬ S53 b := fun b hb => hb.elim (fun h => (h55.lt b h).2) (fun h => (h59.lt b h).2)
            have p129 := ap_grow (ap_symm p95) h122 (fun b hb => (h100.lt b hb).2)
            have h130 : ∀ b, b ∈ fp120 → w.heap.size ≤ b := fun b hb => (h122 b hb).elim (h57 b) (fun hl => Nat.le_trans C.up.size hl)
            have p131 := ap_grow (ap_symm p96) h126 (fun b hb => (h100.lt b hb).2)
            have h132 : ∀ b, b ∈ fp124 → w.heap.size ≤ b := fun b hb => (h126 b hb).elim (h61 b) (fun hl => Nat.le_trans C.up.size hl)
            replace h100 := h100.cf c118 h128 (fun b h1 h2 => h2.elim (p95 b h1) (p96 b h1))
            replace h51 := h51.cf c118 h128
            replace C := C.ofc2 c118 (fun b hb => .inr (h57 b hb)) (fun b hb => .inr (h61 b hb))
            refine sv (rv_not rfl) (sv (mvv (.bool (!y114.1)) rfl) ?_)
            rcases bif_some h106 with ⟨b133, h106⟩ | ⟨b133, h106⟩
            · refine W.n (gn rfl rfl rfl b133) (W.n (gn rfl rfl rfl b133) (W.n (gn rfl rfl rfl b133) (W.n (gn rfl rfl rfl b133) (W.n (gn rfl rfl rfl b133) (sv (ptk (.bool true) rfl b133 rfl) (W.e ?_))))))
              obtain rfl := Option.some.inj h106
              exact ⟨_, _, _, _, _, C, ⟨rfl, rfl, rfl, rfl, rfl, rfl, rfl, trivial⟩, h51, h121, h130, h125, h132, p127⟩
            · refine W.v (gy rfl rfl rfl b133) (mvv v17 rfl) (W.v (gy rfl rfl rfl b133) (mvv v23 rfl) ?_)
              obtain ⟨v134, h135, h136⟩ := rw_loadO (P := Tryz.prog) el22 h100 (show at_ [y97] (0 : Int) = some y97 from rfl)
              obtain ⟨c137, c139, rfl, g138, g140⟩ := marigraphlaw08_Act.o.1 h135
              refine W.r (gy rfl rfl rfl b133) (h136 _ (Sm.refl _ _) rfl) ?_
              obtain ⟨y141, h142, h106⟩ := bnd_some h106
              refine W.c (gy rfl rfl rfl b133) (dc_call (vs := [v17, v23, .agg (List.toArray [.int .u8 y97.Kind, .int .i64 y97.Id, c137, c139])]) can9 rfl ?_)
              refine (marigraphlaw08_seen_w C.sb h121 h125 (marigraphlaw08_Act.o.2 ⟨_, _, rfl, g138, g140⟩) h142).mono ?_
              rintro _ w143 ⟨S144, rfl, c145⟩
              refine ⟨_, rfl, ?_⟩
              replace h121 := h121.cx c145
              replace h125 := h125.cx c145
              replace h51 := h51.cx c145
              replace C := C.trans c145
              refine W.v (gy rfl rfl rfl b133) (rv_not rfl) (sv (pfk (.bool (!y141)) rfl b133 rfl) (W.e ?_))
              obtain rfl := Option.some.inj h106
              exact ⟨_, _, _, _, _, C, ⟨rfl, rfl, rfl, rfl, rfl, rfl, rfl, trivial⟩, h51, h121, h130, h125, h132, p127⟩
          · rintro ρ w147 ⟨S146, fp149, cs151, fp153, cs155, C, h157, h51, h148, h150, h152, h154, p156⟩
            refine h157.cw fun ρ => ?_
            clear h157
            rcases bif_some h78 with ⟨b158, h78⟩ | ⟨b158, h78⟩
            · refine cw_t rfl b158 ?_
              refine cw_seq fun K159 k160 => ?_
              refine cw_region (sv (asv (.bool false) rfl) (W.e (k160 _ _ (cw_ret ?_))))
              obtain rfl := Option.some.inj h78
              replace h69 := h69.2 _ rfl
              obtain rfl := Option.some.inj h69
              have h161 := congrArg some h68
              obtain rfl := Option.some.inj h161
              replace h := h.2 _ rfl
              obtain rfl := Option.some.inj h
              exact ⟨_, rfl, _, rfl, C⟩
            · refine cw_f rfl b158 (cw_skip ?_)
              obtain rfl := Option.some.inj h78
              exact ⟨_, rfl, ⟨_, _, _, _, _, C, ⟨rfl, rfl, rfl, rfl, rfl, rfl, trivial⟩, h51, h148, h150, h152, h154, p156⟩⟩
        · rintro ρ w163 ⟨o75n, rfl, ⟨S162, fp165, cs167, fp169, cs171, C, h173, h51, h164, h166, h168, h170, p172⟩⟩
          replace h69 := h69.1 _ rfl
          refine h173.cw fun ρ => ?_
          clear h173
          refine cw_region ?_
          obtain ⟨y174, h175, h69⟩ := pur_some h69
          refine sv (rv_add rfl rfl h175) (sv (mvv (.int .i64 y174) rfl) (W.e ?_))
          obtain rfl := Option.some.inj h69
          exact ⟨_, rfl, ⟨_, _, _, _, _, C, ⟨rfl, rfl, rfl, rfl, rfl, rfl, trivial⟩, h51, h164, h166, h168, h170, p172⟩⟩
      · refine cw_f rfl b74 (cw_exit ?_)
        obtain rfl := Option.some.inj h69
        have h176 := congrArg some h68
        obtain rfl := Option.some.inj h176
        exact ⟨_, rfl, ⟨_, _, _, _, _, C, ⟨rfl, rfl, rfl, trivial⟩, h55, h57, h59, h61, p63⟩⟩
    · rintro ρ w178 ⟨o39n, rfl, ⟨S177, fp180, cs182, fp184, cs186, C, h188, h179, h181, h183, h185, p187⟩⟩
      replace h := h.1 _ rfl
      refine h188.cw fun ρ => ?_
      clear h188
      obtain ⟨o189, h192, h⟩ := bnd_some h
      refine cw_seq' (fun ρ w1 => ∃ S1, Cx No S w S1 w1 ∧ Has ρ [(2, .bool o189)]) ?_ ?_
      · refine cw_drawU (.one 0 true (.one 1 true (.one 2 true (.one 5 true (.one 3 false (.two 4 6 (.one 6 false (.one 7 false (.one 8 true (.one 9 true (.one 10 true .done))))) (.two 4 7 (.one 7 false (.one 8 true (.one 9 true (.one 10 true .done)))) (.one 4 false (.one 8 true (.one 9 true (.one 10 true .done))))))))))) [] [(3, []), (4, []), (6, []), (7, [])] (fun c => No) fol (by kernel_rfl) fun w193 u194 => ?_
        replace h179 := h179.nw u194
        replace h183 := h183.nw u194
        replace C := C.new u194
        have h179d := h179
        have h183d := h183
        refine mtv rfl rfl (mvv (.bool y5) rfl) (mtv rfl rfl (mvv (.bool y5) rfl) ?_)
        rcases bif_some h192 with ⟨b195, h192⟩ | ⟨b195, h192⟩
        · refine MT.vv rfl rfl (gy rfl rfl rfl b195) (mvv v17 rfl) (MT.vv rfl rfl (gy rfl rfl rfl b195) (mvv v23 rfl) ?_)
          obtain ⟨y11_3_1, h196, h192⟩ := bnd_some h192
          refine MT.c rfl rfl (gy rfl rfl rfl b195) (dc_call (vs := [v17]) can10 rfl ?_)
          refine (index_Index_Bytes_w C.sb h179 h196).mono ?_
          rintro _ w197 ⟨S198, v200, rfl, c199, h201⟩
          refine ⟨_, rfl, ?_⟩
          have p202 := ap_fresh (fun b hb => (h201.lt b hb).1) (fun b hb => (h183.lt b hb).1)
          replace h201 := h201.base C.up.size
          replace h183 := h183.cx c199
          replace C := C.trans c199
          have z203 := (c199.up).size
          refine ⟨trivial, ?_⟩
          refine MT.two ?_ ?_
          · refine MT.c rfl rfl (gy rfl rfl rfl b195) (Rw.does (rw_str h201.sealed (Sm.refl _ _) Tryz.underlying36 Tryz.underlying5 Tryz.underlying9 rfl) ⟨trivial, ?_⟩)
            obtain ⟨y11_6_1, h204, h192⟩ := bnd_some h192
            refine MT.c rfl rfl (gy rfl rfl rfl b195) (dc_call (vs := [v23]) can11 rfl ?_)
            refine (marigraphref08_Index_Bytes_w C.sb h183 h204).mono ?_
            rintro _ w205 ⟨S206, v208, rfl, c207, h209⟩
            refine ⟨_, rfl, ?_⟩
            replace h209 := h209.base C.up.size
            replace C := C.trans c207
            have z210 := (c207.up).size
            refine ⟨trivial, ?_⟩
            refine MT.c rfl rfl (gy rfl rfl rfl b195) (Rw.does (rw_str h209.sealed (Sm.refl _ _) Tryz.underlying36 Tryz.underlying5 Tryz.underlying9 rfl) ⟨trivial, MT.vv rfl rfl (gy rfl rfl rfl b195) (rv_seql rfl rfl) (mtv rfl rfl (ptk (.bool (strEq (strOf y11_3_1) (strOf y11_6_1))) rfl b195 rfl) (mtv rfl rfl (asv (.bool (strEq (strOf y11_3_1) (strOf y11_6_1))) rfl) (MT.e ?_)))⟩)
            obtain rfl := Option.some.inj h192
            exact ⟨_, C, ⟨rfl, trivial⟩⟩
          · obtain ⟨y11_6_1, h211, h192⟩ := bnd_some h192
            refine MT.c rfl rfl (gy rfl rfl rfl b195) (dc_call (vs := [v23]) can11 rfl ?_)
            refine (marigraphref08_Index_Bytes_w C.sb h183 h211).mono ?_
            rintro _ w212 ⟨S213, v215, rfl, c214, h216⟩
            refine ⟨_, rfl, ?_⟩
            have p217 := ap_fresh (fun b hb => (h216.lt b hb).1) (fun b hb => (h201.lt b hb).2)
            replace h216 := h216.base C.up.size
            replace h201 := h201.cx c214
            replace C := C.trans c214
            have z218 := (c214.up).size
            refine ⟨trivial, ?_⟩
            refine MT.two ?_ ?_
            · refine MT.c rfl rfl (gy rfl rfl rfl b195) (Rw.does (rw_str h201.sealed (Sm.refl _ _) Tryz.underlying36 Tryz.underlying5 Tryz.underlying9 rfl) ⟨trivial, MT.c rfl rfl (gy rfl rfl rfl b195) (Rw.does (rw_str h216.sealed (Sm.refl _ _) Tryz.underlying36 Tryz.underlying5 Tryz.underlying9 rfl) ⟨trivial, MT.vv rfl rfl (gy rfl rfl rfl b195) (rv_seql rfl rfl) (mtv rfl rfl (ptk (.bool (strEq (strOf y11_3_1) (strOf y11_6_1))) rfl b195 rfl) (mtv rfl rfl (asv (.bool (strEq (strOf y11_3_1) (strOf y11_6_1))) rfl) (MT.e ?_)))⟩)⟩)
              obtain rfl := Option.some.inj h192
              exact ⟨_, C, ⟨rfl, trivial⟩⟩
            · refine MT.c rfl rfl (gy rfl rfl rfl b195) (Rw.does (rw_str h216.sealed (Sm.refl _ _) Tryz.underlying36 Tryz.underlying5 Tryz.underlying9 rfl) ⟨trivial, MT.c rfl rfl (gy rfl rfl rfl b195) (Rw.does (rw_str h201.sealed (Sm.refl _ _) Tryz.underlying36 Tryz.underlying5 Tryz.underlying9 rfl) ⟨trivial, MT.vv rfl rfl (gy rfl rfl rfl b195) (rv_seql rfl rfl) (mtv rfl rfl (ptk (.bool (strEq (strOf y11_3_1) (strOf y11_6_1))) rfl b195 rfl) (mtv rfl rfl (asv (.bool (strEq (strOf y11_3_1) (strOf y11_6_1))) rfl) (MT.e ?_)))⟩)⟩)
              obtain rfl := Option.some.inj h192
              exact ⟨_, C, ⟨rfl, trivial⟩⟩
        · refine MT.n rfl rfl (gn rfl rfl rfl b195) trivial (MT.n rfl rfl (gn rfl rfl rfl b195) trivial (MT.m rfl rfl (gn rfl rfl rfl b195) trivial ?_))
          refine MT.two ?_ ?_
          · refine MT.m rfl rfl (gn rfl rfl rfl b195) trivial (MT.m rfl rfl (gn rfl rfl rfl b195) trivial (MT.m rfl rfl (gn rfl rfl rfl b195) trivial (MT.n rfl rfl (gn rfl rfl rfl b195) trivial (mtv rfl rfl (pfk (.bool false) rfl b195 rfl) (mtv rfl rfl (asv (.bool false) rfl) (MT.e ?_))))))
            obtain rfl := Option.some.inj h192
            exact ⟨_, C, ⟨rfl, trivial⟩⟩
          · refine MT.m rfl rfl (gn rfl rfl rfl b195) trivial ?_
            refine MT.two ?_ ?_
            · refine MT.m rfl rfl (gn rfl rfl rfl b195) trivial (MT.m rfl rfl (gn rfl rfl rfl b195) trivial (MT.n rfl rfl (gn rfl rfl rfl b195) trivial (mtv rfl rfl (pfk (.bool false) rfl b195 rfl) (mtv rfl rfl (asv (.bool false) rfl) (MT.e ?_)))))
              obtain rfl := Option.some.inj h192
              exact ⟨_, C, ⟨rfl, trivial⟩⟩
            · refine MT.m rfl rfl (gn rfl rfl rfl b195) trivial (MT.m rfl rfl (gn rfl rfl rfl b195) trivial (MT.n rfl rfl (gn rfl rfl rfl b195) trivial (mtv rfl rfl (pfk (.bool false) rfl b195 rfl) (mtv rfl rfl (asv (.bool false) rfl) (MT.e ?_)))))
              obtain rfl := Option.some.inj h192
              exact ⟨_, C, ⟨rfl, trivial⟩⟩
      · rintro ρ w220 ⟨S219, C, h221⟩
        refine h221.cw fun ρ => ?_
        clear h221
        refine cw_ret ?_
        obtain rfl := Option.some.inj h
        exact ⟨_, rfl, _, rfl, C⟩

end Go.Proofs.YtikdgllagijidaaGreat
