/- What each function computes, and that the program computes it (part 3). Printed by gen.py, a program of this session. -/
import Derived.Test.YtikdgllagijidaaGreatW2
set_option linter.unusedVariables false
set_option maxRecDepth 100000
set_option maxHeartbeats 4000000
namespace Go.Proofs.YtikdgllagijidaaGreat
open Go Go.Mg
noncomputable def index_Index_Id (a0 : Option index_Index) (a1 : List api_Label) : Option (Int × Bool) :=
  ((index_key a1).bind fun y5 => (((bif a0.isNone then some true else some (y5.2.2 != (0 : Int))).bind fun o16 => (bif o16 then some (.inr ((0 : Int), false)) else some (.inl ()))).bind (Sum.elim (fun o12n => ((a0).bind fun y32 => some (((mget y5.2.1 y32.ids).getD (0 : Int)), (mget y5.2.1 y32.ids).isSome))) (fun q => some q))))
theorem index_Index_Id_w {S : Nat → Prop} {w : World} {a0 : Option index_Index} {a1 : List api_Label} {v0 v1 : Value} {cs0 : List Value} {fp0 : List Nat} {r : Int × Bool} (hS : Sb S w) (h0 : Obo 61 index_Index.fs S w v0 a0 cs0 fp0) (h1 : Sl (kSl api_Label.k) S w v1 a1) (h : index_Index_Id a0 a1 = some r) :
    Calls Tryz.prog 23 (List.toArray [v0, v1]) w fun e w1 => ∃ S1, e = .returned (.tuple (List.toArray [.int .i64 r.1, .bool r.2])) ∧ Cx No S w S1 w1 := by
  refine enter Tryz.func23 rfl (by kernel_rfl) rfl ?_
  have C := Cx.refl (F := No) hS
  unfold index_Index_Id at h
  have hl0 : ∀ b ∈ fp0, b < w.heap.size := fun b hb => (h0.lt b hb).1
  refine cw_seq fun K1 k2 => ?_
  refine cw_region (sv (asv (.int .i64 0) rfl) (sv (asv (.bool false) rfl) (W.e (k2 _ _ ?_))))
  refine cw_seq fun K3 k4 => ?_
  refine cw_region (sv (mvv v1 rfl) ?_)
  obtain ⟨y5, h6, h⟩ := bnd_some h
  refine sc (dc_call (vs := [v1]) can43 rfl ?_)
  refine (index_key_w C.sb h1 h6).mono ?_
  rintro _ w7 ⟨S8, v10, rfl, c9, h11⟩
  refine ⟨_, rfl, ?_⟩
  replace h0 := h0.cx c9
  replace C := C.trans c9
  refine sv (mvv (.tuple (List.toArray [v10, .string y5.2.1, .int .i64 y5.2.2])) rfl) (sv (rv_extract rfl rfl) (sv (rv_extract rfl rfl) (sv (rv_extract rfl rfl) (sv (asv v10 rfl) (sv (asv (.string y5.2.1) rfl) (sv (asv (.int .i64 y5.2.2) rfl) (W.e (k4 _ _ ?_))))))))
  obtain ⟨o12, h15, h⟩ := bnds_some h
  refine cw_seq' (fun ρ w1 => ∃ o12n, o12 = (.inl o12n) ∧ ∃ S1, Cx No S w S1 w1 ∧ Has ρ [(0, v0), (7, .string y5.2.1)] ∧ Obo 61 index_Index.fs S1 w1 v0 a0 cs0 fp0) ?_ ?_
  · obtain ⟨o16, h19, h15⟩ := bnd_some h15
    refine cw_seq' (fun ρ w1 => ∃ S1, Cx No S w S1 w1 ∧ Has ρ [(0, v0), (7, .string y5.2.1), (22, .bool o16)] ∧ Obo 61 index_Index.fs S1 w1 v0 a0 cs0 fp0) ?_ ?_
    · refine cw_region (sv (mvv v0 rfl) (sv (rv_nileq Tryz.underlying24 rfl rfl h0.ne) (sv (mvv (.bool a0.isNone) rfl) ?_)))
      rcases bif_some h19 with ⟨b20, h19⟩ | ⟨b20, h19⟩
      · refine W.n (gn rfl rfl rfl b20) (W.n (gn rfl rfl rfl b20) (sv (ptk (.bool true) rfl b20 rfl) (W.e ?_)))
        obtain rfl := osi h19
        exact ⟨_, C, ⟨rfl, rfl, rfl, trivial⟩, h0⟩
      · refine W.v (gy rfl rfl rfl b20) (mvv (.int .i64 y5.2.2) rfl) (W.v (gy rfl rfl rfl b20) (rv_neq rfl rfl) (sv (pfk (.bool (y5.2.2 != (0 : Int))) rfl b20 rfl) (W.e ?_)))
        obtain rfl := osi h19
        exact ⟨_, C, ⟨rfl, rfl, rfl, trivial⟩, h0⟩
    · rintro ρ w22 ⟨S21, C, h23, h0⟩
      refine h23.cw fun ρ => ?_
      clear h23
      rcases bif_some h15 with ⟨b24, h15⟩ | ⟨b24, h15⟩
      · refine cw_t rfl b24 ?_
        refine cw_seq fun K25 k26 => ?_
        refine cw_region (sv (asv (.int .i64 0) rfl) (sv (asv (.bool false) rfl) (W.e (k26 _ _ (cw_ret ?_)))))
        obtain rfl := osi h15
        replace h := h.2 _ rfl
        obtain rfl := osi h
        exact ⟨_, rfl, _, rfl, C⟩
      · refine cw_f rfl b24 (cw_skip ?_)
        obtain rfl := osi h15
        exact ⟨_, rfl, ⟨_, C, ⟨rfl, rfl, trivial⟩, h0⟩⟩
  · rintro ρ w28 ⟨o12n, rfl, ⟨S27, C, h29, h0⟩⟩
    replace h := h.1 _ rfl
    refine h29.cw fun ρ => ?_
    clear h29
    refine cw_seq fun K30 k31 => ?_
    refine cw_region (sv (mvv v0 rfl) ?_)
    obtain ⟨y32, h33, h⟩ := bnd_some h
    have h34 := h0
    rw [h33] at h34
    replace h34 : Ob 61 (index_Index.fs y32) _ _ _ _ _ := h34
    refine sv (rv_nilcheck rfl h34.ptr) (sv (rv_fieldAddr (b := pb v0) (o := 0) st61 rfl h34.ptr) ?_)
    obtain ⟨c35, h36⟩ := h34.at (i := 1) rfl
    refine sr (rw_ofield (i := 1) (c := c35) h34 ag57 h36 rfl) (sv (mvv (.string y5.2.1) rfl) ?_)
    obtain ⟨_, h37, h38⟩ := Ob.rep h34 (i := 1) rfl h36
    obtain ⟨v39, h40, h41⟩ := rep_look (P := Tryz.prog) (tm := 57) (te := 3) (y0 := (0 : Int)) h37 Tryz.underlying57 zv3 (sl_sc.2 rfl) y5.2.1
    obtain rfl := sl_sc.1 h40
    refine sr ((h41 (Sm.refl _ _) rfl rfl).2) (sv (mvv (.tuple (List.toArray [.int .i64 ((mget y5.2.1 y32.ids).getD (0 : Int)), .bool (mget y5.2.1 y32.ids).isSome])) rfl) (sv (rv_extract rfl rfl) (sv (rv_extract rfl rfl) (sv (asv (.int .i64 ((mget y5.2.1 y32.ids).getD (0 : Int))) rfl) (sv (asv (.bool (mget y5.2.1 y32.ids).isSome) rfl) (W.e (k31 _ _ ?_)))))))
    refine cw_seq fun K42 k43 => ?_
    refine cw_region (sv (mvv (.int .i64 ((mget y5.2.1 y32.ids).getD (0 : Int))) rfl) (sv (mvv (.bool (mget y5.2.1 y32.ids).isSome) rfl) (sv (asv (.int .i64 ((mget y5.2.1 y32.ids).getD (0 : Int))) rfl) (sv (asv (.bool (mget y5.2.1 y32.ids).isSome) rfl) (W.e (k43 _ _ (cw_ret ?_)))))))
    obtain rfl := osi h
    exact ⟨_, rfl, _, rfl, C⟩

noncomputable def marigraphref08_Index_Id (a0 : marigraphref08_Index) (a1 : List api_Label) : Option (Int × Bool) :=
  ((marigraphref05_Sort a1).bind fun y5 => ((marigraphref08_Index_find a0 y5.1).bind fun y14 => (((bif (y5.2 != (0 : Int)) then some true else some (decide (y14 < (0 : Int)))).bind fun o23 => (bif o23 then some (.inr ((0 : Int), false)) else some (.inl ()))).bind (Sum.elim (fun o19n => ((at_ a0.S y14).bind fun y43 => some (y43.Id, true))) (fun q => some q)))))
theorem marigraphref08_Index_Id_w {S : Nat → Prop} {w : World} {a0 : marigraphref08_Index} {a1 : List api_Label} {v0 v1 : Value} {cs0 : List Value} {fp0 : List Nat} {r : Int × Bool} (hS : Sb S w) (h0 : Ob 29 (marigraphref08_Index.fs a0) S w v0 cs0 fp0) (h1 : Sl (kSl api_Label.k) S w v1 a1) (h : marigraphref08_Index_Id a0 a1 = some r) :
    Calls Tryz.prog 24 (List.toArray [v0, v1]) w fun e w1 => ∃ S1, e = .returned (.tuple (List.toArray [.int .i64 r.1, .bool r.2])) ∧ Cx No S w S1 w1 := by
  refine enter Tryz.func24 rfl (by kernel_rfl) rfl ?_
  have C := Cx.refl (F := No) hS
  unfold marigraphref08_Index_Id at h
  have hl0 : ∀ b ∈ fp0, b < w.heap.size := fun b hb => (h0.lt b hb).1
  refine cw_seq fun K1 k2 => ?_
  refine cw_region (sv (asv (.int .i64 0) rfl) (sv (asv (.bool false) rfl) (W.e (k2 _ _ ?_))))
  refine cw_seq fun K3 k4 => ?_
  refine cw_region (sv (mvv v1 rfl) ?_)
  obtain ⟨y5, h6, h⟩ := bnd_some h
  refine sc (dc_call (vs := [v1]) can57 rfl ?_)
  refine (marigraphref05_Sort_w C.sb h1 h6).mono ?_
  rintro _ w7 ⟨S8, v10, rfl, c9, h11⟩
  refine ⟨_, rfl, ?_⟩
  replace h0 := h0.cx c9
  replace C := C.trans c9
  refine sv (mvv (.tuple (List.toArray [v10, .int .i64 y5.2])) rfl) (sv (rv_extract rfl rfl) (sv (rv_extract rfl rfl) (sv (asv v10 rfl) (sv (asv (.int .i64 y5.2) rfl) (W.e (k4 _ _ ?_))))))
  refine cw_seq fun K12 k13 => ?_
  refine cw_region (sv (mvv v0 rfl) (sv (mvv v10 rfl) ?_))
  obtain ⟨y14, h15, h⟩ := bnd_some h
  refine sc (dc_call (vs := [v0, v10]) can47 rfl ?_)
  refine (marigraphref08_Index_find_w C.sb h0 h11 h15).mono ?_
  rintro _ w16 ⟨S17, rfl, c18⟩
  refine ⟨_, rfl, ?_⟩
  replace h0 := h0.cx c18
  replace C := C.trans c18
  refine sv (asv (.int .i64 y14) rfl) (W.e (k13 _ _ ?_))
  obtain ⟨o19, h22, h⟩ := bnds_some h
  refine cw_seq' (fun ρ w1 => ∃ o19n, o19 = (.inl o19n) ∧ ∃ S1, Cx No S w S1 w1 ∧ Has ρ [(0, v0), (8, .int .i64 y14)] ∧ Ob 29 (marigraphref08_Index.fs a0) S1 w1 v0 cs0 fp0) ?_ ?_
  · obtain ⟨o23, h26, h22⟩ := bnd_some h22
    refine cw_seq' (fun ρ w1 => ∃ S1, Cx No S w S1 w1 ∧ Has ρ [(0, v0), (8, .int .i64 y14), (22, .bool o23)] ∧ Ob 29 (marigraphref08_Index.fs a0) S1 w1 v0 cs0 fp0) ?_ ?_
    · refine cw_region (sv (mvv (.int .i64 y5.2) rfl) (sv (rv_neq rfl rfl) (sv (mvv (.bool (y5.2 != (0 : Int))) rfl) ?_)))
      rcases bif_some h26 with ⟨b27, h26⟩ | ⟨b27, h26⟩
      · refine W.n (gn rfl rfl rfl b27) (W.n (gn rfl rfl rfl b27) (sv (ptk (.bool true) rfl b27 rfl) (W.e ?_)))
        obtain rfl := osi h26
        exact ⟨_, C, ⟨rfl, rfl, rfl, trivial⟩, h0⟩
      · refine W.v (gy rfl rfl rfl b27) (mvv (.int .i64 y14) rfl) (W.v (gy rfl rfl rfl b27) (rv_lss rfl rfl) (sv (pfk (.bool (decide (y14 < (0 : Int)))) rfl b27 rfl) (W.e ?_)))
        obtain rfl := osi h26
        exact ⟨_, C, ⟨rfl, rfl, rfl, trivial⟩, h0⟩
    · rintro ρ w29 ⟨S28, C, h30, h0⟩
      refine h30.cw fun ρ => ?_
      clear h30
      rcases bif_some h22 with ⟨b31, h22⟩ | ⟨b31, h22⟩
      · refine cw_t rfl b31 ?_
        refine cw_seq fun K32 k33 => ?_
        refine cw_region (sv (asv (.int .i64 0) rfl) (sv (asv (.bool false) rfl) (W.e (k33 _ _ (cw_ret ?_)))))
        obtain rfl := osi h22
        replace h := h.2 _ rfl
        obtain rfl := osi h
        exact ⟨_, rfl, _, rfl, C⟩
      · refine cw_f rfl b31 (cw_skip ?_)
        obtain rfl := osi h22
        exact ⟨_, rfl, ⟨_, C, ⟨rfl, rfl, trivial⟩, h0⟩⟩
  · rintro ρ w35 ⟨o19n, rfl, ⟨S34, C, h36, h0⟩⟩
    replace h := h.1 _ rfl
    refine h36.cw fun ρ => ?_
    clear h36
    refine cw_seq fun K37 k38 => ?_
    refine cw_region (sv (mvv v0 rfl) (sv (rv_nilcheck rfl h0.ptr) (sv (rv_fieldAddr (b := pb v0) (o := 0) st29 rfl h0.ptr) ?_)))
    obtain ⟨c39, h40, h41, h42⟩ := Ob.rowR (i := 0) h0 rfl
    refine sr (rw_ofield (i := 0) (c := c39) h0 ag27 h40 rfl) (sv (mvv (.int .i64 y14) rfl) ?_)
    obtain ⟨y43, h44, h⟩ := bnd_some h
    refine sv (rv_index el27 h41.sealed rfl rfl h44) (sv (rv_fieldAddr st79 rfl rfl) ?_)
    obtain ⟨cs45, h46, h47⟩ := Ow.cellsO h41 h44
    obtain ⟨c48, rfl, g49⟩ := marigraphref08_Series.r.1 h46
    refine sr (rw_el1 (off := 0) ag3 (h47 _ (Sm.refl _ _)) rfl rfl) (sv (asv (.int .i64 y43.Id) rfl) (sv (asv (.bool true) rfl) (W.e (k38 _ _ (cw_ret ?_)))))
    obtain rfl := osi h
    exact ⟨_, rfl, _, rfl, C⟩

noncomputable def marigraphref08_Index_Labels (a0 : marigraphref08_Index) (a1 : Int) : Option ((List api_Label) × Bool) :=
  ((marigraphref08_Index_at a0 a1).bind fun y5 => (bif (decide (y5 < (0 : Int))) then some (([] : List api_Label), false) else ((at_ a0.S y5).bind fun y23 => some (y23.L, true))))
theorem marigraphref08_Index_Labels_w {S : Nat → Prop} {w : World} {a0 : marigraphref08_Index} {a1 : Int} {v0 : Value} {cs0 : List Value} {fp0 : List Nat} {r : (List api_Label) × Bool} (hS : Sb S w) (h0 : Ob 29 (marigraphref08_Index.fs a0) S w v0 cs0 fp0) (h : marigraphref08_Index_Labels a0 a1 = some r) :
    Calls Tryz.prog 26 (List.toArray [v0, .int .i64 a1]) w fun e w1 => ∃ S1 u0, e = .returned (.tuple (List.toArray [u0, .bool r.2])) ∧ Cx No S w S1 w1 ∧ Sl (kSl api_Label.k) S1 w1 u0 r.1 := by
  refine enter Tryz.func26 rfl (by kernel_rfl) rfl ?_
  have C := Cx.refl (F := No) hS
  unfold marigraphref08_Index_Labels at h
  have hl0 : ∀ b ∈ fp0, b < w.heap.size := fun b hb => (h0.lt b hb).1
  refine cw_seq fun K1 k2 => ?_
  refine cw_region (sv (asv (.slice none 0 0) rfl) (sv (asv (.bool false) rfl) (W.e (k2 _ _ ?_))))
  refine cw_seq fun K3 k4 => ?_
  refine cw_region (sv (mvv v0 rfl) (sv (mvv (.int .i64 a1) rfl) ?_))
  obtain ⟨y5, h6, h⟩ := bnd_some h
  refine sc (dc_call (vs := [v0, .int .i64 a1]) can54 rfl ?_)
  refine (marigraphref08_Index_at_w C.sb h0 h6).mono ?_
  rintro _ w7 ⟨S8, rfl, c9⟩
  refine ⟨_, rfl, ?_⟩
  replace h0 := h0.cx c9
  replace C := C.trans c9
  refine sv (asv (.int .i64 y5) rfl) (W.e (k4 _ _ ?_))
  refine cw_seq fun K10 k11 => ?_
  refine cw_seq fun K12 k13 => ?_
  refine cw_region (sv (mvv (.int .i64 y5) rfl) (sv (rv_lss rfl rfl) (W.e (k13 _ _ ?_))))
  rcases bif_some h with ⟨b14, h⟩ | ⟨b14, h⟩
  · refine cw_t rfl b14 ?_
    refine cw_seq fun K15 k16 => ?_
    refine cw_region (sv (asv (.slice none 0 0) rfl) (sv (asv (.bool false) rfl) (W.e (k16 _ _ (cw_ret ?_)))))
    obtain rfl := osi h
    exact ⟨_, rfl, _, _, rfl, C, (sl_nil _ _ _)⟩
  · refine cw_f rfl b14 (cw_skip (k11 _ _ ?_))
    refine cw_seq fun K17 k18 => ?_
    refine cw_region (sv (mvv v0 rfl) (sv (rv_nilcheck rfl h0.ptr) (sv (rv_fieldAddr (b := pb v0) (o := 0) st29 rfl h0.ptr) ?_)))
    obtain ⟨c19, h20, h21, h22⟩ := Ob.rowR (i := 0) h0 rfl
    refine sr (rw_ofield (i := 0) (c := c19) h0 ag27 h20 rfl) (sv (mvv (.int .i64 y5) rfl) ?_)
    obtain ⟨y23, h24, h⟩ := bnd_some h
    refine sv (rv_index el27 h21.sealed rfl rfl h24) (sv (rv_fieldAddr st79 rfl rfl) ?_)
    obtain ⟨cs25, h26, h27⟩ := Ow.cellsO h21 h24
    obtain ⟨c28, rfl, g29⟩ := marigraphref08_Series.r.1 h26
    refine sr (rw_el1 (off := 1) ag31 (h27 _ (Sm.refl _ _)) rfl rfl) (sv (asv c28 rfl) (sv (asv (.bool true) rfl) (W.e (k18 _ _ (cw_ret ?_)))))
    obtain rfl := osi h
    exact ⟨_, rfl, _, _, rfl, C, g29⟩

noncomputable def marigraphref08_Index_Vals.b5 (x17 : List ByteArray) (y47 : ByteArray × Bool) (x62 : Int) : Option ((Int) ⊕ (Int)) :=
  (((bif (decide (x62 < (x17.length : Int))) then ((at_ x17 x62).bind fun y74 => some (strLt y74 y47.1)) else some false).bind fun o69 => (bif o69 then some (.inl ()) else some (.inr (.inr x62)))).bind (Sum.elim (fun o65n => (pur (IntKind.i64.wrap (x62 + (1 : Int))) fun y84 => some (.inl y84))) (fun q => some q)))
noncomputable def marigraphref08_Index_Vals.b2 (a0 : marigraphref08_Index) (a1 : ByteArray) (x17 : List ByteArray) (x18 : Int) : Option (((List ByteArray) × Int) ⊕ ((List ByteArray))) :=
  (bif (decide (x18 < (a0.S.length : Int))) then (((at_ a0.S x18).bind fun y40 => ((marigraphref05_Get y40.L a1).bind fun y47 => ((iter (fun s : Int => marigraphref08_Index_Vals.b5 x17 y47 s) (0 : Int)).bind fun o54 => (((bif (!y47.2) then some true else (bif (decide (o54 < (x17.length : Int))) then ((at_ x17 o54).bind fun y99 => some (strEq y99 y47.1)) else some false)).bind fun o93 => (bif o93 then some (.inr x17) else some (.inl ()))).bind (Sum.elim (fun o89n => ((from_ x17 o54).bind fun y117 => ((app_ 16 ([] : List ByteArray) y117).bind fun y123 => ((upto_ x17 o54).bind fun y143 => ((app_ 16 ([] : List ByteArray) y143).bind fun y151 => ((app_ 16 y151 ([y47.1] : List ByteArray)).bind fun y169 => ((app_ 16 y169 y123).bind fun y179 => some y179))))))) (fun q => some q)))))).bind fun o30 => (pur (IntKind.i64.wrap (x18 + (1 : Int))) fun y193 => some (.inl (o30, y193)))) else some (.inr x17))
noncomputable def marigraphref08_Index_Vals (a0 : marigraphref08_Index) (a1 : ByteArray) : Option (List ByteArray) :=
  ((iter (fun s : (List ByteArray) × Int => marigraphref08_Index_Vals.b2 a0 a1 s.1 s.2) (([] : List ByteArray), (0 : Int))).bind fun o5 => some o5)
theorem marigraphref08_Index_Vals_w {S : Nat → Prop} {w : World} {a0 : marigraphref08_Index} {a1 : ByteArray} {v0 : Value} {cs0 : List Value} {fp0 : List Nat} {r : (List ByteArray)} (hS : Sb S w) (h0 : Ob 29 (marigraphref08_Index.fs a0) S w v0 cs0 fp0) (h : marigraphref08_Index_Vals a0 a1 = some r) :
    Calls Tryz.prog 31 (List.toArray [v0, .string a1]) w fun e w1 => ∃ S1 u0, e = .returned (u0) ∧ Cx No S w S1 w1 ∧ Ow kS 9 S1 w.heap.size w1 u0 r := by
  refine enter Tryz.func31 rfl (by kernel_rfl) rfl ?_
  have C := Cx.refl (F := No) hS
  unfold marigraphref08_Index_Vals at h
  have hl0 : ∀ b ∈ fp0, b < w.heap.size := fun b hb => (h0.lt b hb).1
  refine cw_seq fun K1 k2 => ?_
  refine cw_region (sv (asv (.slice none 0 0) rfl) (W.e (k2 _ _ ?_)))
  refine cw_seq fun K3 k4 => ?_
  refine cw_region (sv (asv (.slice none 0 0) rfl) (W.e (k4 _ _ ?_)))
  obtain ⟨o5, h8, h⟩ := bnd_some h
  refine cw_seq' (fun ρ w1 => ∃ S1 v198, Cx No S w S1 w1 ∧ Has ρ [(5, v198)] ∧ Ow kS 9 S1 w.heap.size w1 v198 o5) ?_ ?_
  · refine cw_seq fun K9 k10 => ?_
    refine cw_region (sv (asv (.int .i64 0) rfl) (W.e (k10 _ _ (cw_block ?_))))
    refine cw_iter h8 (fun s ρ w1 => ∃ S1 v14, Cx No S w S1 w1 ∧ Has ρ [(0, v0), (1, .string a1), (5, v14), (6, .int .i64 s.2)] ∧ Ow kS 9 S1 w.heap.size w1 v14 s.1 ∧ Ob 29 (marigraphref08_Index.fs a0) S1 w1 v0 cs0 fp0) ⟨_, _, C, ⟨rfl, rfl, rfl, rfl, trivial⟩, Ow.nil _ _ _ _ _, h0⟩ ?_
    rintro ⟨x17, x18⟩ q11 ρ w13 ⟨S12, v14, C, h16, h15, h0⟩ h20 h19
    refine h16.cw fun ρ => ?_
    clear h16
    replace h20 : marigraphref08_Index_Vals.b2 a0 a1 x17 x18 = some q11 := h20
    unfold marigraphref08_Index_Vals.b2 at h20
    refine cw_seq fun K21 k22 => ?_
    refine cw_seq fun K23 k24 => ?_
    refine cw_region (sv (mvv (.int .i64 x18) rfl) (sv (mvv v0 rfl) (sv (rv_nilcheck rfl h0.ptr) (sv (rv_fieldAddr (b := pb v0) (o := 0) st29 rfl h0.ptr) ?_))))
    obtain ⟨c25, h26, h27, h28⟩ := Ob.rowR (i := 0) h0 rfl
    refine sr (rw_ofield (i := 0) (c := c25) h0 ag27 h26 rfl) (sv (rv_lenS el27 h27.sealed rfl) (sv (rv_lss rfl rfl) (W.e (k24 _ _ ?_))))
    rcases bif_some h20 with ⟨b29, h20⟩ | ⟨b29, h20⟩
    · refine cw_t rfl b29 (cw_skip (k22 _ _ ?_))
      obtain ⟨o30, h33, h20⟩ := bnd_some h20
      refine cw_seq' (fun ρ w1 => ∃ S1 v190, Cx No S w S1 w1 ∧ Has ρ [(0, v0), (1, .string a1), (5, v190), (6, .int .i64 x18)] ∧ Ow kS 9 S1 w.heap.size w1 v190 o30 ∧ Ob 29 (marigraphref08_Index.fs a0) S1 w1 v0 cs0 fp0) ?_ ?_
      · refine cw_block ?_
        refine cw_seq fun K34 k35 => ?_
        refine cw_region (sv (mvv v0 rfl) (sv (rv_nilcheck rfl h0.ptr) (sv (rv_fieldAddr (b := pb v0) (o := 0) st29 rfl h0.ptr) ?_)))
        obtain ⟨c36, h37, h38, h39⟩ := Ob.rowR (i := 0) h0 rfl
        refine sr (rw_ofield (i := 0) (c := c36) h0 ag27 h37 rfl) (sv (mvv (.int .i64 x18) rfl) ?_)
        obtain ⟨y40, h41, h33⟩ := bnd_some h33
        refine sv (rv_index el27 h38.sealed rfl rfl h41) (sv (rv_fieldAddr st79 rfl rfl) ?_)
        obtain ⟨cs42, h43, h44⟩ := Ow.cellsO h38 h41
        obtain ⟨c45, rfl, g46⟩ := marigraphref08_Series.r.1 h43
        refine sr (rw_el1 (off := 1) ag31 (h44 _ (Sm.refl _ _)) rfl rfl) (sv (mvv (.string a1) rfl) ?_)
        obtain ⟨y47, h48, h33⟩ := bnd_some h33
        refine sc (dc_call (vs := [c45, .string a1]) can60 rfl ?_)
        refine (marigraphref05_Get_w C.sb g46 h48).mono ?_
        rintro _ w49 ⟨S50, rfl, c51⟩
        refine ⟨_, rfl, ?_⟩
        replace h0 := h0.cx c51
        replace h15 := h15.cx c51
        replace C := C.trans c51
        refine sv (mvv (.tuple (List.toArray [.string y47.1, .bool y47.2])) rfl) (sv (rv_extract rfl rfl) (sv (rv_extract rfl rfl) (sv (asv (.string y47.1) rfl) (sv (asv (.bool y47.2) rfl) (W.e (k35 _ _ ?_))))))
        refine cw_seq fun K52 k53 => ?_
        refine cw_region (sv (asv (.int .i64 0) rfl) (W.e (k53 _ _ ?_)))
        obtain ⟨o54, h57, h33⟩ := bnd_some h33
        refine cw_seq' (fun ρ w1 => ∃ S1, Cx No S w S1 w1 ∧ Has ρ [(0, v0), (1, .string a1), (5, v14), (6, .int .i64 x18), (7, .string y47.1), (8, .bool y47.2), (9, .int .i64 o54)] ∧ Ow kS 9 S1 w.heap.size w1 v14 x17 ∧ Ob 29 (marigraphref08_Index.fs a0) S1 w1 v0 cs0 fp0) ?_ ?_
        · refine cw_block ?_
          refine cw_iter h57 (fun s ρ w1 => ∃ S1, Cx No S w S1 w1 ∧ Has ρ [(0, v0), (1, .string a1), (5, v14), (6, .int .i64 x18), (7, .string y47.1), (8, .bool y47.2), (9, .int .i64 s)] ∧ Ow kS 9 S1 w.heap.size w1 v14 x17 ∧ Ob 29 (marigraphref08_Index.fs a0) S1 w1 v0 cs0 fp0) ⟨_, C, ⟨rfl, rfl, rfl, rfl, rfl, rfl, rfl, trivial⟩, h15, h0⟩ ?_
          rintro x62 q58 ρ w60 ⟨S59, C, h61, h15, h0⟩ h64 h63
          refine h61.cw fun ρ => ?_
          clear h61
          replace h64 : marigraphref08_Index_Vals.b5 x17 y47 x62 = some q58 := h64
          unfold marigraphref08_Index_Vals.b5 at h64
          obtain ⟨o65, h68, h64⟩ := bnds_some h64
          refine cw_seq' (fun ρ w1 => ∃ o65n, o65 = (.inl o65n) ∧ ∃ S1, Cx No S w S1 w1 ∧ Has ρ [(0, v0), (1, .string a1), (5, v14), (6, .int .i64 x18), (7, .string y47.1), (8, .bool y47.2), (9, .int .i64 x62)] ∧ Ow kS 9 S1 w.heap.size w1 v14 x17 ∧ Ob 29 (marigraphref08_Index.fs a0) S1 w1 v0 cs0 fp0) ?_ ?_
          · obtain ⟨o69, h72, h68⟩ := bnd_some h68
            refine cw_seq' (fun ρ w1 => ∃ S1, Cx No S w S1 w1 ∧ Has ρ [(0, v0), (1, .string a1), (5, v14), (6, .int .i64 x18), (7, .string y47.1), (8, .bool y47.2), (9, .int .i64 x62), (44, .bool o69)] ∧ Ow kS 9 S1 w.heap.size w1 v14 x17 ∧ Ob 29 (marigraphref08_Index.fs a0) S1 w1 v0 cs0 fp0) ?_ ?_
            · refine cw_region (sv (mvv (.int .i64 x62) rfl) (sv (mvv v14 rfl) (sv (rv_lenS el70 h15.sealed rfl) (sv (rv_lss rfl rfl) (sv (mvv (.bool (decide (x62 < (x17.length : Int)))) rfl) ?_)))))
              rcases bif_some h72 with ⟨b73, h72⟩ | ⟨b73, h72⟩
              · refine W.v (gy rfl rfl rfl b73) (mvv v14 rfl) (W.v (gy rfl rfl rfl b73) (mvv (.int .i64 x62) rfl) ?_)
                obtain ⟨y74, h75, h72⟩ := bnd_some h72
                refine W.v (gy rfl rfl rfl b73) (rv_index el70 h15.sealed rfl rfl h75) (W.r (gy rfl rfl rfl b73) (rw_loadC el70 h15.sealed h75 rfl _ (Sm.refl _ _)) (W.v (gy rfl rfl rfl b73) (mvv (.string y47.1) rfl) (W.v (gy rfl rfl rfl b73) (rv_slss rfl rfl) (sv (ptk (.bool (strLt y74 y47.1)) rfl b73 rfl) (W.e ?_)))))
                obtain rfl := osi h72
                exact ⟨_, C, ⟨rfl, rfl, rfl, rfl, rfl, rfl, rfl, rfl, trivial⟩, h15, h0⟩
              · refine W.n (gn rfl rfl rfl b73) (W.n (gn rfl rfl rfl b73) (W.n (gn rfl rfl rfl b73) (W.n (gn rfl rfl rfl b73) (W.n (gn rfl rfl rfl b73) (W.n (gn rfl rfl rfl b73) (sv (pfk (.bool false) rfl b73 rfl) (W.e ?_)))))))
                obtain rfl := osi h72
                exact ⟨_, C, ⟨rfl, rfl, rfl, rfl, rfl, rfl, rfl, rfl, trivial⟩, h15, h0⟩
            · rintro ρ w77 ⟨S76, C, h78, h15, h0⟩
              refine h78.cw fun ρ => ?_
              clear h78
              rcases bif_some h68 with ⟨b79, h68⟩ | ⟨b79, h68⟩
              · refine cw_t rfl b79 (cw_skip ?_)
                obtain rfl := osi h68
                exact ⟨_, rfl, ⟨_, C, ⟨rfl, rfl, rfl, rfl, rfl, rfl, rfl, trivial⟩, h15, h0⟩⟩
              · refine cw_f rfl b79 (cw_exit ?_)
                obtain rfl := osi h68
                replace h64 := h64.2 _ rfl
                obtain rfl := osi h64
                have h80 := congrArg some h63
                obtain rfl := osi h80
                exact ⟨_, C, ⟨rfl, rfl, rfl, rfl, rfl, rfl, rfl, trivial⟩, h15, h0⟩
          · rintro ρ w82 ⟨o65n, rfl, ⟨S81, C, h83, h15, h0⟩⟩
            replace h64 := h64.1 _ rfl
            refine h83.cw fun ρ => ?_
            clear h83
            refine cw_block (cw_region (sv (mvv (.int .i64 x62) rfl) ?_))
            obtain ⟨y84, h85, h64⟩ := pur_some h64
            refine sv (rv_add rfl rfl h85) (sv (asv (.int .i64 y84) rfl) (W.e ?_))
            obtain rfl := osi h64
            exact ⟨_, rfl, ⟨_, C, ⟨rfl, rfl, rfl, rfl, rfl, rfl, rfl, trivial⟩, h15, h0⟩⟩
        · rintro ρ w87 ⟨S86, C, h88, h15, h0⟩
          refine h88.cw fun ρ => ?_
          clear h88
          obtain ⟨o89, h92, h33⟩ := bnds_some h33
          refine cw_seq' (fun ρ w1 => ∃ o89n, o89 = (.inl o89n) ∧ ∃ S1, Cx No S w S1 w1 ∧ Has ρ [(0, v0), (1, .string a1), (5, v14), (6, .int .i64 x18), (7, .string y47.1), (9, .int .i64 o54)] ∧ Ow kS 9 S1 w.heap.size w1 v14 x17 ∧ Ob 29 (marigraphref08_Index.fs a0) S1 w1 v0 cs0 fp0) ?_ ?_
          · obtain ⟨o93, h96, h92⟩ := bnd_some h92
            refine cw_seq' (fun ρ w1 => ∃ S1, Cx No S w S1 w1 ∧ Has ρ [(0, v0), (1, .string a1), (5, v14), (6, .int .i64 x18), (7, .string y47.1), (9, .int .i64 o54), (62, .bool o93)] ∧ Ow kS 9 S1 w.heap.size w1 v14 x17 ∧ Ob 29 (marigraphref08_Index.fs a0) S1 w1 v0 cs0 fp0) ?_ ?_
            · refine cw_region (sv (mvv (.bool y47.2) rfl) (sv (rv_not rfl) (sv (mvv (.bool (!y47.2)) rfl) ?_)))
              rcases bif_some h96 with ⟨b97, h96⟩ | ⟨b97, h96⟩
              · refine W.n (gn rfl rfl rfl b97) (W.n (gn rfl rfl rfl b97) (W.n (gn rfl rfl rfl b97) (W.n (gn rfl rfl rfl b97) (W.n (gn rfl rfl rfl b97) (W.n (gu rfl rfl rfl) (W.n (gu rfl rfl rfl) (W.n (gu rfl rfl rfl) (W.n (gu rfl rfl rfl) (W.n (gu rfl rfl rfl) (W.n (gu rfl rfl rfl) (W.n (gn rfl rfl rfl b97) ?_)))))))))))
                refine sv (ptk (.bool true) rfl b97 rfl) (W.e ?_)
                obtain rfl := osi h96
                exact ⟨_, C, ⟨rfl, rfl, rfl, rfl, rfl, rfl, rfl, trivial⟩, h15, h0⟩
              · refine W.v (gy rfl rfl rfl b97) (mvv (.int .i64 o54) rfl) (W.v (gy rfl rfl rfl b97) (mvv v14 rfl) (W.v (gy rfl rfl rfl b97) (rv_lenS el70 h15.sealed rfl) (W.v (gy rfl rfl rfl b97) (rv_lss rfl rfl) (W.v (gy rfl rfl rfl b97) (mvv (.bool (decide (o54 < (x17.length : Int)))) rfl) ?_))))
                rcases bif_some h96 with ⟨b98, h96⟩ | ⟨b98, h96⟩
                · refine W.v (gy rfl rfl rfl b98) (mvv v14 rfl) (W.v (gy rfl rfl rfl b98) (mvv (.int .i64 o54) rfl) ?_)
                  obtain ⟨y99, h100, h96⟩ := bnd_some h96
                  refine W.v (gy rfl rfl rfl b98) (rv_index el70 h15.sealed rfl rfl h100) (W.r (gy rfl rfl rfl b98) (rw_loadC el70 h15.sealed h100 rfl _ (Sm.refl _ _)) (W.v (gy rfl rfl rfl b98) (mvv (.string y47.1) rfl) (W.v (gy rfl rfl rfl b98) (rv_seql rfl rfl) (W.v (gy rfl rfl rfl b97) (ptk (.bool (strEq y99 y47.1)) rfl b98 rfl) (sv (pfk (.bool (strEq y99 y47.1)) rfl b97 rfl) (W.e ?_))))))
                  obtain rfl := osi h96
                  exact ⟨_, C, ⟨rfl, rfl, rfl, rfl, rfl, rfl, rfl, trivial⟩, h15, h0⟩
                · refine W.n (gn rfl rfl rfl b98) (W.n (gn rfl rfl rfl b98) (W.n (gn rfl rfl rfl b98) (W.n (gn rfl rfl rfl b98) (W.n (gn rfl rfl rfl b98) (W.n (gn rfl rfl rfl b98) (W.v (gy rfl rfl rfl b97) (pfk (.bool false) rfl b98 rfl) (sv (pfk (.bool false) rfl b97 rfl) (W.e ?_))))))))
                  obtain rfl := osi h96
                  exact ⟨_, C, ⟨rfl, rfl, rfl, rfl, rfl, rfl, rfl, trivial⟩, h15, h0⟩
            · rintro ρ w102 ⟨S101, C, h103, h15, h0⟩
              refine h103.cw fun ρ => ?_
              clear h103
              rcases bif_some h92 with ⟨b104, h92⟩ | ⟨b104, h92⟩
              · refine cw_t rfl b104 (cw_exit ?_)
                obtain rfl := osi h92
                replace h33 := h33.2 _ rfl
                obtain rfl := osi h33
                exact ⟨_, _, C, ⟨rfl, rfl, rfl, rfl, trivial⟩, h15, h0⟩
              · refine cw_f rfl b104 (cw_skip ?_)
                obtain rfl := osi h92
                exact ⟨_, rfl, ⟨_, C, ⟨rfl, rfl, rfl, rfl, rfl, rfl, trivial⟩, h15, h0⟩⟩
          · rintro ρ w106 ⟨o89n, rfl, ⟨S105, C, h107, h15, h0⟩⟩
            replace h33 := h33.1 _ rfl
            refine h107.cw fun ρ => ?_
            clear h107
            refine cw_seq fun K108 k109 => ?_
            refine cw_region ?_
            refine sc (dc_lit (vs := []) (xs := ([] : List ByteArray)) (base := w.heap.size) el70 rfl rfl (.nil) (Nat.le_of_ble_eq_true rfl) C.up.size C.sb fun v110 w111 h112 h113 u114 => ?_)
            have p115 := ap_fresh h113 (fun b hb => (h0.lt b hb).1)
            have p116 := ap_fresh h113 (fun b hb => (h15.lt b hb).2)
            replace h0 := h0.nw u114
            replace h15 := h15.nw u114
            replace C := C.new u114
            refine sv (mvv v14 rfl) (sv (mvv (.int .i64 o54) rfl) ?_)
            obtain ⟨y117, h118, h33⟩ := bnd_some h33
            obtain ⟨v119, h120, h121, h122⟩ := Ow.fromO (P := Tryz.prog) h15 h118 el70
            refine sv (h122 rfl rfl) ?_
            obtain ⟨y123, h124, h33⟩ := bnd_some h33
            have h130 := h112
            refine sc (dc_append el70 (by decide) h130 h121 rfl rfl h124 C.up.size C.sb fun v125 w126 h127 u128 h129 => ?_)
            have p131 := ap_grow p115 h129 (fun b hb => (h0.lt b hb).1)
            have p132 := ap_grow p116 h129 (fun b hb => (h15.lt b hb).2)
            replace h0 := h0.wr u128 h130.not (ap_symm p115)
            replace h15 := h15.wr u128 h130.not (ap_symm p116)
            replace C := C.ow h130 u128
            refine sv (asv v125 rfl) (W.e (k109 _ _ ?_))
            refine cw_seq fun K133 k134 => ?_
            refine cw_region ?_
            refine sc (dc_lit (vs := []) (xs := ([] : List ByteArray)) (base := w.heap.size) el70 rfl rfl (.nil) (Nat.le_of_ble_eq_true rfl) C.up.size C.sb fun v135 w136 h137 h138 u139 => ?_)
            have p140 := ap_fresh h138 (fun b hb => (h0.lt b hb).1)
            have p141 := ap_fresh h138 (fun b hb => (h15.lt b hb).2)
            have p142 := ap_fresh h138 (fun b hb => (h127.lt b hb).2)
            replace h0 := h0.nw u139
            replace h15 := h15.nw u139
            replace h127 := h127.nw u139
            replace C := C.new u139
            refine sv (mvv v14 rfl) (sv (mvv (.int .i64 o54) rfl) ?_)
            obtain ⟨y143, h144, h33⟩ := bnd_some h33
            obtain ⟨v145, h146, h147, h148⟩ := Ow.upto (P := Tryz.prog) h15 h144 el70
            have p149 : Ap v145 v135 := fun b hq => (ap_symm p141) b (h147 b hq)
            have p150 : Ap v145 v125 := fun b hq => (ap_symm p132) b (h147 b hq)
            refine sv (h148 rfl rfl) ?_
            obtain ⟨y151, h152, h33⟩ := bnd_some h33
            have h158 := h137
            refine sc (dc_append el70 (by decide) h158 h146.src rfl rfl h152 C.up.size C.sb fun v153 w154 h155 u156 h157 => ?_)
            have p159 := ap_grow p140 h157 (fun b hb => (h0.lt b hb).1)
            have p160 := ap_grow p142 h157 (fun b hb => (h127.lt b hb).2)
            replace h0 := h0.wr u156 h158.not (ap_symm p140)
            replace h127 := h127.wr u156 h158.not (ap_symm p142)
            replace C := C.ow h158 u156
            refine sv (mvv (.string y47.1) rfl) ?_
            refine sc (dc_lit (vs := [.string y47.1]) (xs := ([y47.1] : List ByteArray)) (base := w.heap.size) el70 rfl rfl (.cons (sl_sc.2 rfl) (.nil)) (Nat.le_of_ble_eq_true rfl) C.up.size C.sb fun v161 w162 h163 h164 u165 => ?_)
            have p166 := ap_fresh h164 (fun b hb => (h0.lt b hb).1)
            have p167 := ap_fresh h164 (fun b hb => (h155.lt b hb).2)
            have p168 := ap_fresh h164 (fun b hb => (h127.lt b hb).2)
            replace h0 := h0.nw u165
            replace h155 := h155.nw u165
            replace h127 := h127.nw u165
            replace C := C.new u165
            obtain ⟨y169, h170, h33⟩ := bnd_some h33
            have h176 := h155
            refine sc (dc_append el70 (by decide) h176 h163.src rfl rfl h170 C.up.size C.sb fun v171 w172 h173 u174 h175 => ?_)
            have p177 := ap_grow p159 h175 (fun b hb => (h0.lt b hb).1)
            have p178 := ap_grow p160 h175 (fun b hb => (h127.lt b hb).2)
            replace h0 := h0.wr u174 h176.not (ap_symm p159)
            replace h127 := h127.wr u174 h176.not (ap_symm p160)
            replace C := C.ow h176 u174
            refine sv (asv v171 rfl) (W.e (k134 _ _ (cw_region (sv (mvv v171 rfl) (sv (mvv v125 rfl) ?_)))))
            obtain ⟨y179, h180, h33⟩ := bnd_some h33
            have h186 := h173
            refine sc (dc_append el70 (by decide) h186 h127.src rfl rfl h180 C.up.size C.sb fun v181 w182 h183 u184 h185 => ?_)
            have p187 := ap_grow p177 h185 (fun b hb => (h0.lt b hb).1)
            replace h0 := h0.wr u184 h186.not (ap_symm p177)
            replace C := C.ow h186 u184
            refine sv (asv v181 rfl) (W.e ?_)
            obtain rfl := osi h33
            exact ⟨_, _, C, ⟨rfl, rfl, rfl, rfl, trivial⟩, h183, h0⟩
      · rintro ρ w189 ⟨S188, v190, C, h192, h191, h0⟩
        refine h192.cw fun ρ => ?_
        clear h192
        refine cw_region (sv (mvv (.int .i64 x18) rfl) ?_)
        obtain ⟨y193, h194, h20⟩ := pur_some h20
        refine sv (rv_add rfl rfl h194) (sv (asv (.int .i64 y193) rfl) (W.e ?_))
        obtain rfl := osi h20
        exact ⟨_, rfl, ⟨_, _, C, ⟨rfl, rfl, rfl, rfl, trivial⟩, h191, h0⟩⟩
    · refine cw_f rfl b29 (cw_exit ?_)
      obtain rfl := osi h20
      have h195 := congrArg some h19
      obtain rfl := osi h195
      exact ⟨_, _, C, ⟨rfl, trivial⟩, h15⟩
  · rintro ρ w197 ⟨S196, v198, C, h200, h199⟩
    refine h200.cw fun ρ => ?_
    clear h200
    refine cw_seq fun K201 k202 => ?_
    refine cw_region (sv (mvv v198 rfl) (sv (asv v198 rfl) (W.e (k202 _ _ (cw_ret ?_)))))
    obtain rfl := osi h
    exact ⟨_, rfl, _, _, rfl, C, h199⟩

noncomputable def marigraphref08_Strings.b2 (a0 : List ByteArray) (a1 : List ByteArray) (x20 : Int) : Option ((Int) ⊕ ((Unit) ⊕ (Bool))) :=
  (bif (decide (x20 < (a0.length : Int))) then ((at_ a0 x20).bind fun y35 => ((at_ a1 x20).bind fun y37 => (bif (!strEq y35 y37) then some (.inr (.inr false)) else (pur (IntKind.i64.wrap (x20 + (1 : Int))) fun y43 => some (.inl y43))))) else some (.inr (.inl ())))
noncomputable def marigraphref08_Strings (a0 : List ByteArray) (a1 : List ByteArray) : Option Bool :=
  (bif ((a0.length : Int) != (a1.length : Int)) then some false else ((iter (fun s : Int => marigraphref08_Strings.b2 a0 a1 s) (0 : Int)).bind (Sum.elim (fun o10n => some true) (fun q => some q))))
theorem marigraphref08_Strings_w {S : Nat → Prop} {w : World} {a0 : List ByteArray} {a1 : List ByteArray} {v0 v1 : Value} {r : Bool} (hS : Sb S w) (h0 : Sl (kSl kS) S w v0 a0) (h1 : Sl (kSl kS) S w v1 a1) (h : marigraphref08_Strings a0 a1 = some r) :
    Calls Tryz.prog 29 (List.toArray [v0, v1]) w fun e w1 => ∃ S1, e = .returned (.bool r) ∧ Cx No S w S1 w1 := by
  refine enter Tryz.func29 rfl (by kernel_rfl) rfl ?_
  have C := Cx.refl (F := No) hS
  unfold marigraphref08_Strings at h
  refine cw_seq fun K1 k2 => ?_
  refine cw_region (sv (asv (.bool false) rfl) (W.e (k2 _ _ ?_)))
  refine cw_seq fun K3 k4 => ?_
  refine cw_seq fun K5 k6 => ?_
  refine cw_region (sv (mvv v0 rfl) (sv (rv_lenS el70 h0 rfl) (sv (mvv v1 rfl) (sv (rv_lenS el70 h1 rfl) (sv (rv_neq rfl rfl) (W.e (k6 _ _ ?_)))))))
  rcases bif_some h with ⟨b7, h⟩ | ⟨b7, h⟩
  · refine cw_t rfl b7 ?_
    refine cw_seq fun K8 k9 => ?_
    refine cw_region (sv (asv (.bool false) rfl) (W.e (k9 _ _ (cw_ret ?_))))
    obtain rfl := osi h
    exact ⟨_, rfl, _, rfl, C⟩
  · refine cw_f rfl b7 (cw_skip (k4 _ _ ?_))
    obtain ⟨o10, h13, h⟩ := bnds_some h
    refine cw_seq' (fun ρ w1 => ∃ o10n, o10 = (.inl o10n) ∧ ∃ S1, Cx No S w S1 w1 ∧ Has ρ []) ?_ ?_
    · refine cw_seq fun K14 k15 => ?_
      refine cw_region (sv (asv (.int .i64 0) rfl) (W.e (k15 _ _ (cw_block ?_))))
      refine cw_iter h13 (fun s ρ w1 => ∃ S1, Cx No S w S1 w1 ∧ Has ρ [(0, v0), (1, v1), (5, .int .i64 s)] ∧ Sl (kSl kS) S1 w1 v0 a0 ∧ Sl (kSl kS) S1 w1 v1 a1) ⟨_, C, ⟨rfl, rfl, rfl, trivial⟩, h0, h1⟩ ?_
      rintro x20 q16 ρ w18 ⟨S17, C, h19, h0, h1⟩ h22 h21
      refine h19.cw fun ρ => ?_
      clear h19
      replace h22 : marigraphref08_Strings.b2 a0 a1 x20 = some q16 := h22
      unfold marigraphref08_Strings.b2 at h22
      refine cw_seq fun K23 k24 => ?_
      refine cw_seq fun K25 k26 => ?_
      refine cw_region (sv (mvv (.int .i64 x20) rfl) (sv (mvv v0 rfl) (sv (rv_lenS el70 h0 rfl) (sv (rv_lss rfl rfl) (W.e (k26 _ _ ?_))))))
      rcases bif_some h22 with ⟨b27, h22⟩ | ⟨b27, h22⟩
      · refine cw_t rfl b27 (cw_skip (k24 _ _ ?_))
        refine cw_seq fun K28 k29 => ?_
        refine cw_block ?_
        refine cw_seq fun K30 k31 => ?_
        refine cw_drawU (.one 0 true (.one 1 true (.one 2 true (.one 3 true (.one 4 true (.one 5 true (.one 6 true (.one 7 true (.one 8 true .done))))))))) [(3, [9]), (7, [9])] [] (fun c => bif Nat.beq c 9 then (fun _ => True) else No) fol (by kernel_rfl) fun w32 u33 => ?_
        replace h0 := h0.nw u33
        replace h1 := h1.nw u33
        replace C := C.new u33
        have m34 := Sm.refl (fun _ => True) w32
        refine mtv rfl rfl (mvv v0 rfl) (mtv rfl rfl (mvv (.int .i64 x20) rfl) ?_)
        obtain ⟨y35, h36, h22⟩ := bnd_some h22
        refine mtv rfl rfl (rv_index el70 h0 rfl rfl h36) (mtr rfl rfl ⟨m34, trivial⟩ (fun w' hq => rw_loadC el70 h0 h36 rfl w' (hq.1.mono fun _ _ => trivial)) (mtv rfl rfl (mvv v1 rfl) (mtv rfl rfl (mvv (.int .i64 x20) rfl) ?_)))
        obtain ⟨y37, h38, h22⟩ := bnd_some h22
        refine mtv rfl rfl (rv_index el70 h1 rfl rfl h38) (mtr rfl rfl ⟨m34, trivial⟩ (fun w' hq => rw_loadC el70 h1 h38 rfl w' (hq.1.mono fun _ _ => trivial)) (mtv rfl rfl (rv_sneq rfl rfl) (MT.e (k31 _ _ ?_))))
        rcases bif_some h22 with ⟨b39, h22⟩ | ⟨b39, h22⟩
        · refine cw_t rfl b39 ?_
          refine cw_seq fun K40 k41 => ?_
          refine cw_region (sv (asv (.bool false) rfl) (W.e (k41 _ _ (cw_ret ?_))))
          obtain rfl := osi h22
          have h42 := congrArg some h21
          obtain rfl := osi h42
          replace h := h.2 _ rfl
          obtain rfl := osi h
          exact ⟨_, rfl, _, rfl, C⟩
        · refine cw_f rfl b39 (cw_skip (k29 _ _ (cw_region (sv (mvv (.int .i64 x20) rfl) ?_))))
          obtain ⟨y43, h44, h22⟩ := pur_some h22
          refine sv (rv_add rfl rfl h44) (sv (asv (.int .i64 y43) rfl) (W.e ?_))
          obtain rfl := osi h22
          exact ⟨_, rfl, ⟨_, C, ⟨rfl, rfl, rfl, trivial⟩, h0, h1⟩⟩
      · refine cw_f rfl b27 (cw_exit ?_)
        obtain rfl := osi h22
        have h45 := congrArg some h21
        obtain rfl := osi h45
        exact ⟨_, rfl, ⟨_, C, trivial⟩⟩
    · rintro ρ w47 ⟨o10n, rfl, ⟨S46, C, h48⟩⟩
      replace h := h.1 _ rfl
      refine h48.cw fun ρ => ?_
      clear h48
      refine cw_seq fun K49 k50 => ?_
      refine cw_region (sv (asv (.bool true) rfl) (W.e (k50 _ _ (cw_ret ?_))))
      obtain rfl := osi h
      exact ⟨_, rfl, _, rfl, C⟩

noncomputable def index_Index_Post (a0 : Option index_Index) (a1 : api_Label) : Option (List Int) :=
  (bif a0.isNone then some ([] : List Int) else ((a0).bind fun y21 => ((slices_Clone_int_int ((mget a1 y21.posts).getD ([] : List Int))).bind fun y31 => some y31)))
theorem index_Index_Post_w {S : Nat → Prop} {w : World} {a0 : Option index_Index} {a1 : api_Label} {v0 v1 : Value} {cs0 : List Value} {fp0 : List Nat} {r : (List Int)} (hS : Sb S w) (h0 : Obo 61 index_Index.fs S w v0 a0 cs0 fp0) (h1 : Sl api_Label.k S w v1 a1) (h : index_Index_Post a0 a1 = some r) :
    Calls Tryz.prog 27 (List.toArray [v0, v1]) w fun e w1 => ∃ S1 u0, e = .returned (u0) ∧ Cx No S w S1 w1 ∧ Ow (kI .i64) 3 S1 w.heap.size w1 u0 r := by
  refine enter Tryz.func27 rfl (by kernel_rfl) rfl ?_
  have C := Cx.refl (F := No) hS
  unfold index_Index_Post at h
  have hl0 : ∀ b ∈ fp0, b < w.heap.size := fun b hb => (h0.lt b hb).1
  obtain rfl := api_Label.o.1 h1
  refine cw_seq fun K1 k2 => ?_
  refine cw_region ?_
  refine sc (dc_boxS C.sb rfl fun b3 S4 w5 c6 h7 => ?_)
  replace h0 := h0.cx c6
  replace C := C.trans c6
  refine sv (asv (.slice none 0 0) rfl) (W.e (k2 _ _ ?_))
  refine cw_seq fun K9 k10 => ?_
  refine cw_seq fun K11 k12 => ?_
  refine cw_region (sv (mvv v0 rfl) (sv (rv_nileq Tryz.underlying24 rfl rfl h0.ne) (W.e (k12 _ _ ?_))))
  rcases bif_some h with ⟨b13, h⟩ | ⟨b13, h⟩
  · refine cw_t rfl b13 ?_
    refine cw_seq fun K14 k15 => ?_
    refine cw_region (sv (asv (.slice none 0 0) rfl) (W.e (k15 _ _ (cw_ret ?_))))
    obtain rfl := osi h
    exact ⟨_, rfl, _, _, rfl, C, Ow.nil _ _ _ _ _⟩
  · refine cw_f rfl b13 (cw_skip (k10 _ _ ?_))
    refine cw_seq fun K16 k17 => ?_
    refine cw_drawU (.one 0 true (.one 1 true (.one 2 true (.one 3 true (.one 4 true (.one 5 true (.one 6 false (.one 7 true .done)))))))) [(3, [9]), (4, [9]), (5, [9])] [(6, [9])] (fun c => bif Nat.beq c 9 then (fun _ => True) else No) fol (by kernel_rfl) fun w18 u19 => ?_
    replace h0 := h0.nw u19
    replace h7 := h7.nw u19
    replace C := C.new u19
    have h0d := h0
    have h7d := h7
    have m20 := Sm.refl (fun _ => True) w18
    refine mtv rfl rfl (mvv v0 rfl) ?_
    obtain ⟨y21, h22, h⟩ := bnd_some h
    have h23 := h0
    rw [h22] at h23
    replace h23 : Ob 61 (index_Index.fs y21) _ _ _ _ _ := h23
    have h23d := h23
    refine mtv rfl rfl (rv_nilcheck rfl h23.ptr) (mtv rfl rfl (rv_fieldAddr (b := pb v0) (o := 0) st61 rfl h23.ptr) ?_)
    obtain ⟨c24, h25⟩ := h23.at (i := 2) rfl
    refine mtr rfl rfl ⟨m20, trivial⟩ (fun w' hq => rw_ofieldU (i := 2) (c := c24) h23 (hq.1.mono fun _ _ => trivial) ag58 h25 rfl) (mtr rfl rfl ⟨m20, trivial⟩ (fun w' hq => rw_bkA ag46 (h7.sm (hq.1.mono fun _ _ => trivial)) rfl rfl rfl) ?_)
    obtain ⟨_, h26, h27⟩ := Ob.rep h23 (i := 2) rfl h25
    obtain ⟨v28, h29, h30⟩ := rep_look (P := Tryz.prog) (tm := 58) (te := 49) (y0 := ([] : List Int)) h26 Tryz.underlying58 zv49 (sl_nil _ _ _) a1
    refine mtr rfl rfl ⟨m20, trivial⟩ (fun w' hq => (h30 (hq.1.mono fun _ _ => trivial) rfl rfl).1) ?_
    obtain ⟨y31, h32, h⟩ := bnd_some h
    refine mtc rfl rfl (dc_call (vs := [v28]) can52 rfl ?_)
    refine (slices_Clone_int_int_w C.sb h29 h32).mono ?_
    rintro _ w33 ⟨S34, v36, rfl, c35, h37⟩
    refine ⟨_, rfl, ?_⟩
    replace h37 := h37.base C.up.size
    replace C := C.trans c35
    have z38 := (c35.up).size
    have m39 := m20.nx c35.up (by omega)
    refine ⟨⟨m39, trivial⟩, ?_⟩
    refine mtv rfl rfl (asv v36 rfl) (MT.e (k17 _ _ (cw_ret ?_)))
    obtain rfl := osi h
    exact ⟨_, rfl, _, _, rfl, C, h37⟩

noncomputable def marigraphref08_Index_Post.b4 (a0 : marigraphref08_Index) (a1 : api_Label) (x24 : Int) (x48 : List Int) (x49 : Int) : Option (((List Int) × Int) ⊕ ((List Int))) :=
  ((at_ a0.S x24).bind fun y60 => (bif (decide (x49 < (y60.L.length : Int))) then (((at_ a0.S x24).bind fun y81 => ((at_ y81.L x49).bind fun y88 => (bif ((y88.Name == a1.Name) && ((y88.Val == a1.Val) && true)) then ((at_ a0.S x24).bind fun y98 => ((app_ 8 x48 ([y98.Id] : List Int)).bind fun y112 => some y112)) else some x48))).bind fun o68 => (pur (IntKind.i64.wrap (x49 + (1 : Int))) fun y126 => some (.inl (o68, y126)))) else some (.inr x48)))
noncomputable def marigraphref08_Index_Post.b2 (a0 : marigraphref08_Index) (a1 : api_Label) (x23 : List Int) (x24 : Int) : Option (((List Int) × Int) ⊕ ((List Int))) :=
  (bif (decide (x24 < (a0.S.length : Int))) then ((iter (fun s : (List Int) × Int => marigraphref08_Index_Post.b4 a0 a1 x24 s.1 s.2) (x23, (0 : Int))).bind fun o36 => (pur (IntKind.i64.wrap (x24 + (1 : Int))) fun y134 => some (.inl (o36, y134)))) else some (.inr x23))
noncomputable def marigraphref08_Index_Post (a0 : marigraphref08_Index) (a1 : api_Label) : Option (List Int) :=
  ((iter (fun s : (List Int) × Int => marigraphref08_Index_Post.b2 a0 a1 s.1 s.2) (([] : List Int), (0 : Int))).bind fun o11 => some o11)
theorem marigraphref08_Index_Post_w {S : Nat → Prop} {w : World} {a0 : marigraphref08_Index} {a1 : api_Label} {v0 v1 : Value} {cs0 : List Value} {fp0 : List Nat} {r : (List Int)} (hS : Sb S w) (h0 : Ob 29 (marigraphref08_Index.fs a0) S w v0 cs0 fp0) (h1 : Sl api_Label.k S w v1 a1) (h : marigraphref08_Index_Post a0 a1 = some r) :
    Calls Tryz.prog 28 (List.toArray [v0, v1]) w fun e w1 => ∃ S1 u0, e = .returned (u0) ∧ Cx No S w S1 w1 ∧ Ow (kI .i64) 3 S1 w.heap.size w1 u0 r := by
  refine enter Tryz.func28 rfl (by kernel_rfl) rfl ?_
  have C := Cx.refl (F := No) hS
  unfold marigraphref08_Index_Post at h
  have hl0 : ∀ b ∈ fp0, b < w.heap.size := fun b hb => (h0.lt b hb).1
  obtain rfl := api_Label.o.1 h1
  refine cw_seq fun K1 k2 => ?_
  refine cw_region ?_
  refine sc (dc_boxS C.sb rfl fun b3 S4 w5 c6 h7 => ?_)
  replace h0 := h0.cx c6
  replace C := C.trans c6
  refine sv (asv (.slice none 0 0) rfl) (W.e (k2 _ _ ?_))
  refine cw_seq fun K9 k10 => ?_
  refine cw_region (sv (asv (.slice none 0 0) rfl) (W.e (k10 _ _ ?_)))
  obtain ⟨o11, h14, h⟩ := bnd_some h
  refine cw_seq' (fun ρ w1 => ∃ S1 v139, Cx No S w S1 w1 ∧ Has ρ [(5, v139)] ∧ Ow (kI .i64) 3 S1 w.heap.size w1 v139 o11) ?_ ?_
  · refine cw_seq fun K15 k16 => ?_
    refine cw_region (sv (asv (.int .i64 0) rfl) (W.e (k16 _ _ (cw_block ?_))))
    refine cw_iter h14 (fun s ρ w1 => ∃ S1 v20, Cx No S w S1 w1 ∧ Has ρ [(0, v0), (3, .pointer (some ⟨b3, 0, none⟩)), (5, v20), (6, .int .i64 s.2)] ∧ Bs S1 w1 b3 [.string a1.Name, .string a1.Val] 46 ∧ Ow (kI .i64) 3 S1 w.heap.size w1 v20 s.1 ∧ Ob 29 (marigraphref08_Index.fs a0) S1 w1 v0 cs0 fp0) ⟨_, _, C, ⟨rfl, rfl, rfl, rfl, trivial⟩, h7, Ow.nil _ _ _ _ _, h0⟩ ?_
    rintro ⟨x23, x24⟩ q17 ρ w19 ⟨S18, v20, C, h22, h7, h21, h0⟩ h26 h25
    refine h22.cw fun ρ => ?_
    clear h22
    replace h26 : marigraphref08_Index_Post.b2 a0 a1 x23 x24 = some q17 := h26
    unfold marigraphref08_Index_Post.b2 at h26
    refine cw_seq fun K27 k28 => ?_
    refine cw_seq fun K29 k30 => ?_
    refine cw_region (sv (mvv (.int .i64 x24) rfl) (sv (mvv v0 rfl) (sv (rv_nilcheck rfl h0.ptr) (sv (rv_fieldAddr (b := pb v0) (o := 0) st29 rfl h0.ptr) ?_))))
    obtain ⟨c31, h32, h33, h34⟩ := Ob.rowR (i := 0) h0 rfl
    refine sr (rw_ofield (i := 0) (c := c31) h0 ag27 h32 rfl) (sv (rv_lenS el27 h33.sealed rfl) (sv (rv_lss rfl rfl) (W.e (k30 _ _ ?_))))
    rcases bif_some h26 with ⟨b35, h26⟩ | ⟨b35, h26⟩
    · refine cw_t rfl b35 (cw_skip (k28 _ _ ?_))
      obtain ⟨o36, h39, h26⟩ := bnd_some h26
      refine cw_seq' (fun ρ w1 => ∃ S1 v131, Cx No S w S1 w1 ∧ Has ρ [(0, v0), (3, .pointer (some ⟨b3, 0, none⟩)), (5, v131), (6, .int .i64 x24)] ∧ Bs S1 w1 b3 [.string a1.Name, .string a1.Val] 46 ∧ Ow (kI .i64) 3 S1 w.heap.size w1 v131 o36 ∧ Ob 29 (marigraphref08_Index.fs a0) S1 w1 v0 cs0 fp0) ?_ ?_
      · refine cw_block ?_
        refine cw_seq fun K40 k41 => ?_
        refine cw_region (sv (asv (.int .i64 0) rfl) (W.e (k41 _ _ (cw_block ?_))))
        refine cw_iter h39 (fun s ρ w1 => ∃ S1 v45, Cx No S w S1 w1 ∧ Has ρ [(0, v0), (3, .pointer (some ⟨b3, 0, none⟩)), (5, v45), (6, .int .i64 x24), (7, .int .i64 s.2)] ∧ Bs S1 w1 b3 [.string a1.Name, .string a1.Val] 46 ∧ Ow (kI .i64) 3 S1 w.heap.size w1 v45 s.1 ∧ Ob 29 (marigraphref08_Index.fs a0) S1 w1 v0 cs0 fp0) ⟨_, _, C, ⟨rfl, rfl, rfl, rfl, rfl, trivial⟩, h7, h21, h0⟩ ?_
        rintro ⟨x48, x49⟩ q42 ρ w44 ⟨S43, v45, C, h47, h7, h46, h0⟩ h51 h50
        refine h47.cw fun ρ => ?_
        clear h47
        replace h51 : marigraphref08_Index_Post.b4 a0 a1 x24 x48 x49 = some q42 := h51
        unfold marigraphref08_Index_Post.b4 at h51
        refine cw_seq fun K52 k53 => ?_
        refine cw_seq fun K54 k55 => ?_
        refine cw_region (sv (mvv (.int .i64 x49) rfl) (sv (mvv v0 rfl) (sv (rv_nilcheck rfl h0.ptr) (sv (rv_fieldAddr (b := pb v0) (o := 0) st29 rfl h0.ptr) ?_))))
        obtain ⟨c56, h57, h58, h59⟩ := Ob.rowR (i := 0) h0 rfl
        refine sr (rw_ofield (i := 0) (c := c56) h0 ag27 h57 rfl) (sv (mvv (.int .i64 x24) rfl) ?_)
        obtain ⟨y60, h61, h51⟩ := bnd_some h51
        refine sv (rv_index el27 h58.sealed rfl rfl h61) (sv (rv_fieldAddr st79 rfl rfl) ?_)
        obtain ⟨cs62, h63, h64⟩ := Ow.cellsO h58 h61
        obtain ⟨c65, rfl, g66⟩ := marigraphref08_Series.r.1 h63
        refine sr (rw_el1 (off := 1) ag31 (h64 _ (Sm.refl _ _)) rfl rfl) (sv (rv_lenS el31 g66 rfl) (sv (rv_lss rfl rfl) (W.e (k55 _ _ ?_))))
        rcases bif_some h51 with ⟨b67, h51⟩ | ⟨b67, h51⟩
        · refine cw_t rfl b67 (cw_skip (k53 _ _ ?_))
          obtain ⟨o68, h71, h51⟩ := bnd_some h51
          refine cw_seq' (fun ρ w1 => ∃ S1 v123, Cx No S w S1 w1 ∧ Has ρ [(0, v0), (3, .pointer (some ⟨b3, 0, none⟩)), (5, v123), (6, .int .i64 x24), (7, .int .i64 x49)] ∧ Bs S1 w1 b3 [.string a1.Name, .string a1.Val] 46 ∧ Ow (kI .i64) 3 S1 w.heap.size w1 v123 o68 ∧ Ob 29 (marigraphref08_Index.fs a0) S1 w1 v0 cs0 fp0) ?_ ?_
          · refine cw_block ?_
            refine cw_seq fun K72 k73 => ?_
            refine cw_drawU (.one 0 true (.one 1 true (.one 2 true (.one 3 true (.one 4 true (.one 5 true (.one 6 true (.one 7 true (.one 8 true (.one 9 true (.one 10 true (.one 11 true (.one 12 true .done))))))))))))) [(3, [9]), (7, [9]), (10, [9]), (11, [9])] [] (fun c => bif Nat.beq c 9 then (fun _ => True) else No) fol (by kernel_rfl) fun w74 u75 => ?_
            replace h0 := h0.nw u75
            replace h7 := h7.nw u75
            replace h46 := h46.nw u75
            replace C := C.new u75
            have m76 := Sm.refl (fun _ => True) w74
            refine mtv rfl rfl (mvv v0 rfl) (mtv rfl rfl (rv_nilcheck rfl h0.ptr) (mtv rfl rfl (rv_fieldAddr (b := pb v0) (o := 0) st29 rfl h0.ptr) ?_))
            obtain ⟨c77, h78, h79, h80⟩ := Ob.rowR (i := 0) h0 rfl
            refine mtr rfl rfl ⟨m76, trivial⟩ (fun w' hq => rw_ofieldU (i := 0) (c := c77) h0 (hq.1.mono fun _ _ => trivial) ag27 h78 rfl) (mtv rfl rfl (mvv (.int .i64 x24) rfl) ?_)
            obtain ⟨y81, h82, h71⟩ := bnd_some h71
            refine mtv rfl rfl (rv_index el27 h79.sealed rfl rfl h82) (mtv rfl rfl (rv_fieldAddr st79 rfl rfl) ?_)
            obtain ⟨cs83, h84, h85⟩ := Ow.cellsO h79 h82
            obtain ⟨c86, rfl, g87⟩ := marigraphref08_Series.r.1 h84
            refine mtr rfl rfl ⟨m76, trivial⟩ (fun w' hq => rw_el1 (off := 1) ag31 (h85 w' (hq.1.mono fun _ _ => trivial)) rfl rfl) (mtv rfl rfl (mvv (.int .i64 x49) rfl) ?_)
            obtain ⟨y88, h89, h71⟩ := bnd_some h71
            refine mtv rfl rfl (rv_index el31 g87 rfl rfl h89) ?_
            obtain ⟨v90, h91, h92⟩ := rw_loadA (P := Tryz.prog) el31 g87 h89
            obtain rfl := api_Label.o.1 h91
            refine mtr rfl rfl ⟨m76, trivial⟩ (fun w' hq => h92 w' (hq.1.mono fun _ _ => trivial) rfl) (mtr rfl rfl ⟨m76, trivial⟩ (fun w' hq => rw_bkA ag46 (h7.sm (hq.1.mono fun _ _ => trivial)) rfl rfl rfl) (mtv rfl rfl (rv_aeql eqg46 rfl rfl (eqs46 y88.Name y88.Val a1.Name a1.Val)) (MT.e (k73 _ _ ?_))))
            rcases bif_some h71 with ⟨b93, h71⟩ | ⟨b93, h71⟩
            · refine cw_t rfl b93 (cw_region (sv (mvv v45 rfl) (sv (mvv v0 rfl) (sv (rv_nilcheck rfl h0.ptr) (sv (rv_fieldAddr (b := pb v0) (o := 0) st29 rfl h0.ptr) ?_)))))
              obtain ⟨c94, h95, h96, h97⟩ := Ob.rowR (i := 0) h0 rfl
              refine sr (rw_ofield (i := 0) (c := c94) h0 ag27 h95 rfl) (sv (mvv (.int .i64 x24) rfl) ?_)
              obtain ⟨y98, h99, h71⟩ := bnd_some h71
              refine sv (rv_index el27 h96.sealed rfl rfl h99) (sv (rv_fieldAddr st79 rfl rfl) ?_)
              obtain ⟨cs100, h101, h102⟩ := Ow.cellsO h96 h99
              obtain ⟨c103, rfl, g104⟩ := marigraphref08_Series.r.1 h101
              refine sr (rw_el1 (off := 0) ag3 (h102 _ (Sm.refl _ _)) rfl rfl) ?_
              refine sc (dc_lit (vs := [.int .i64 y98.Id]) (xs := ([y98.Id] : List Int)) (base := w.heap.size) el49 rfl rfl (.cons (sl_sc.2 rfl) (.nil)) (Nat.le_of_ble_eq_true rfl) C.up.size C.sb fun v105 w106 h107 h108 u109 => ?_)
              have p110 := ap_fresh h108 (fun b hb => (h0.lt b hb).1)
              have p111 := ap_fresh h108 (fun b hb => (h46.lt b hb).2)
              replace h0 := h0.nw u109
              replace h7 := h7.nw u109
              replace h46 := h46.nw u109
              replace C := C.new u109
              obtain ⟨y112, h113, h71⟩ := bnd_some h71
              have h119 := h46
              refine sc (dc_append el49 (by decide) h119 h107.src rfl rfl h113 C.up.size C.sb fun v114 w115 h116 u117 h118 => ?_)
              have p120 := ap_grow (ap_symm (fun b hq hb => absurd (h46.lt b hb).1 (Nat.not_le_of_lt (hl0 b hq)))) h118 (fun b hb => (h0.lt b hb).1)
              replace h0 := h0.wr u117 h119.not (fun b hq hb => absurd (h119.lt b hb).1 (Nat.not_le_of_lt (hl0 b hq)))
              replace h7 := h7.wr u117 h119.not
              replace C := C.ow h119 u117
              refine sv (asv v114 rfl) (W.e ?_)
              obtain rfl := osi h71
              exact ⟨_, _, C, ⟨rfl, rfl, rfl, rfl, rfl, trivial⟩, h7, h116, h0⟩
            · refine cw_f rfl b93 (cw_skip ?_)
              obtain rfl := osi h71
              exact ⟨_, _, C, ⟨rfl, rfl, rfl, rfl, rfl, trivial⟩, h7, h46, h0⟩
          · rintro ρ w122 ⟨S121, v123, C, h125, h7, h124, h0⟩
            refine h125.cw fun ρ => ?_
            clear h125
            refine cw_region (sv (mvv (.int .i64 x49) rfl) ?_)
            obtain ⟨y126, h127, h51⟩ := pur_some h51
            refine sv (rv_add rfl rfl h127) (sv (asv (.int .i64 y126) rfl) (W.e ?_))
            obtain rfl := osi h51
            exact ⟨_, rfl, ⟨_, _, C, ⟨rfl, rfl, rfl, rfl, rfl, trivial⟩, h7, h124, h0⟩⟩
        · refine cw_f rfl b67 (cw_exit ?_)
          obtain rfl := osi h51
          have h128 := congrArg some h50
          obtain rfl := osi h128
          exact ⟨_, _, C, ⟨rfl, rfl, rfl, rfl, trivial⟩, h7, h46, h0⟩
      · rintro ρ w130 ⟨S129, v131, C, h133, h7, h132, h0⟩
        refine h133.cw fun ρ => ?_
        clear h133
        refine cw_region (sv (mvv (.int .i64 x24) rfl) ?_)
        obtain ⟨y134, h135, h26⟩ := pur_some h26
        refine sv (rv_add rfl rfl h135) (sv (asv (.int .i64 y134) rfl) (W.e ?_))
        obtain rfl := osi h26
        exact ⟨_, rfl, ⟨_, _, C, ⟨rfl, rfl, rfl, rfl, trivial⟩, h7, h132, h0⟩⟩
    · refine cw_f rfl b35 (cw_exit ?_)
      obtain rfl := osi h26
      have h136 := congrArg some h25
      obtain rfl := osi h136
      exact ⟨_, _, C, ⟨rfl, trivial⟩, h21⟩
  · rintro ρ w138 ⟨S137, v139, C, h141, h140⟩
    refine h141.cw fun ρ => ?_
    clear h141
    refine cw_seq fun K142 k143 => ?_
    refine cw_region (sv (mvv v139 rfl) (sv (asv v139 rfl) (W.e (k143 _ _ (cw_ret ?_)))))
    obtain rfl := osi h
    exact ⟨_, rfl, _, _, rfl, C, h140⟩


noncomputable def index_Index_Vals (a0 : Option index_Index) (a1 : ByteArray) : Option (List ByteArray) := match a0 with
  | none => some []
  | some x => if x.posts.length * 16 ≤ lim then some (strSort (((x.posts.map (·.1)).filter fun y => y.Name == a1).map (·.Val))) else none
theorem index_Index_Vals_w {S : Nat → Prop} {w : World} {a0 : Option index_Index} {a1 : ByteArray} {v0 : Value} {cs0 : List Value} {fp0 : List Nat} {r : List ByteArray} (hS : Sb S w) (h0 : Obo 61 index_Index.fs S w v0 a0 cs0 fp0) (h : index_Index_Vals a0 a1 = some r) :
    Calls Tryz.prog 30 (List.toArray [v0, .string a1]) w fun e w1 => ∃ S1 u0, e = .returned (u0) ∧ Cx No S w S1 w1 ∧ Ow kS 9 S1 w.heap.size w1 u0 r := by
  refine enter Tryz.func30 rfl (by kernel_rfl) rfl ?_
  have C := Cx.refl (F := No) hS
  unfold index_Index_Vals at h
  refine cw_seq fun K1 k1 => cw_region (sv (asv (.slice none 0 0) rfl) (W.e (k1 _ _ ?_)))
  refine cw_seq fun K2 k2 => cw_seq fun K3 k3 => cw_region (sv (mvv v0 rfl) (sv (rv_nileq Tryz.underlying24 rfl rfl h0.ne) (W.e (k3 _ _ ?_))))
  cases a0 with
  | none =>
    refine cw_t rfl rfl (cw_seq fun K4 k4 => cw_region (sv (asv (.slice none 0 0) rfl) (W.e (k4 _ _ (cw_ret ?_)))))
    obtain rfl := osi h
    exact ⟨_, rfl, S, _, rfl, C, Ow.nil _ _ _ _ _⟩
  | some x =>
  dsimp only at h
  split at h
  case isFalse => cases h
  rename_i hlen
  have hr := osi h
  refine cw_f rfl rfl (cw_skip (k2 _ _ ?_))
  have hq : Ob 61 (index_Index.fs x) S w v0 cs0 fp0 := h0
  refine cw_seq fun K5 k5 => cw_region (sv (asv (.slice none 0 0) rfl) (W.e (k5 _ _ ?_)))
  obtain ⟨c, hc⟩ := hq.at (i := 2) rfl
  obtain ⟨fi, hrep, hsub⟩ := Ob.rep hq (i := 2) rfl hc
  obtain ⟨b, L, cl, rfl, hfi, hSb, hM, hR⟩ := hrep
  have hbf : b ∈ fp0 := hsub b (by rw [hfi]; simp)
  have hlt : ∀ q ∈ fp0, q < w.heap.size := fun q hq2 => (hq.lt q hq2).1
  have hk : L.map (·.1) = x.posts.map (·.1) := hR.keys
  refine cw_seq' (fun ρ w2 => ∃ u, ∃ ks : List api_Label, Cx No S w S w2 ∧ Has ρ [(5, u)] ∧ Ow kS 9 S w.heap.size w2 u ((ks.filter fun y => y.Name == a1).map (·.Val)) ∧ ks.Perm (L.map (·.1))) ?_ ?_
  · refine cw_seq fun K6 k6 => ?_
    refine cw_region (sv (mvv v0 rfl) ?_)
    refine sv (rv_nilcheck rfl hq.ptr) (sv (rv_fieldAddr (b := pb v0) (o := 0) st61 rfl hq.ptr) (sr (rw_ofield (i := 2) (c := .map (some b)) hq ag58 hc rfl) ?_))
    refine sc (dc_range hM Tryz.underlying58 rfl fun rb w1 hrb hrl hI up => ?_)
    replace C := C.new up
    replace hM := hM.to (up.block b hM.lt fun h => h)
    refine W.e (k6 _ _ ?_)
    refine cw_block (cw_loop (fun n ρ w2 => ∃ rem lst u, ∃ ks : List api_Label, n = rem.length ∧ Cx No S w S w2 ∧ Has ρ [(1, .string a1), (5, u), (13, .pointer (some ⟨rb, 0, none⟩))] ∧ Mp ky_api_Label w2 b L cl ∧ It w2 rb b L cl rem lst ∧ Ow kS 9 S w.heap.size w2 u ((ks.filter fun y => y.Name == a1).map (·.Val)) ∧ (ks ++ rem.map (·.1)).Perm (L.map (·.1)) ∧ ¬ Blk u rb) _ ⟨L, none, _, [], rfl, C, ⟨rfl, rfl, rfl, trivial⟩, hM, hI, Ow.nil _ _ _ _ _, List.Perm.refl _, fun hb => ap_nil (B := fun _ => True) _ hb trivial⟩ ?_)
    clear C hM hI
    rintro n ρ w2 ⟨rem, lst, u, ks, rfl, C, hh, hM, hI, hO, hP, hrb2⟩
    refine hh.cw fun ρ => ?_
    clear hh
    have hbw : b < w.heap.size := hlt b hbf
    refine cw_seq fun K7 k7 => ?_
    refine cw_region (sc (dc_next hM hI rfl ?_ ?_))
    · rintro rfl
      refine sv (rv_extract rfl rfl) (W.e (k7 _ _ ?_))
      refine cw_seq fun K8 k8 => cw_f rfl rfl (cw_exit ⟨u, ks, C, ⟨rfl, trivial⟩, hO, by simpa using hP⟩)
    · intro e w3 he hI2 up2
      refine sv (rv_extract rfl rfl) (W.e (k7 _ _ ?_))
      refine cw_seq fun K8 k8 => cw_t rfl rfl (cw_skip (k8 _ _ ?_))
      replace C := C.ofp up2 (fun q hq => .inr (by have hq : q = rb := hq; omega))
      have hrS : ∀ q, One rb q → ¬ S q := fun q hq hs => by have hq : q = rb := hq; have := hS q hs; omega
      replace hO := hO.wr up2 hrS (fun q h1 h2 => by have h2 : q = rb := h2; rw [h2] at h1; exact hrb2 h1)
      replace hM := hM.to (up2.block b hM.lt fun hq => by have hq : b = rb := hq; omega)
      have heL : e ∈ L := hI.sub.subset he
      refine cw_block (cw_seq fun K10 k10 => ?_)
      refine cw_region (sr (rw_entry hM hI2 heL rfl) (sv (rv_extract rfl rfl) ?_))
      refine sc (dc_alloc zr46 fun lb w4 hl1 hl2 u4 k4 => ?_)
      refine sc (dc_store (vs := [.string e.1.Name, .string e.1.Val]) ag46 k4 rfl rfl (by intro c hc; simp only [List.mem_cons, List.not_mem_nil, or_false] at hc; rcases hc with rfl | rfl <;> rfl) rfl rfl rfl fun w5 u5 hz5 k5 => ?_)
      have u45 := u4.fresh hl1 u5
      replace C := C.new u45
      replace hO := hO.nw u45
      replace hM := hM.to (u45.block b hM.lt fun h => h)
      replace hI2 := hI2.to (u45.block rb hI2.lt fun h => h)
      refine W.e (k10 _ _ ?_)
      have hp1 : (ks ++ [e.1] ++ (rem.filter fun z => !decide (e.2.2 = z.2.2)).map (·.1)).Perm (L.map (·.1)) := (keys_step he (hI.born hM)).trans hP
      refine cw_seq fun K11 k11 => ?_
      refine cw_region (sv (rv_fieldAddr st46 rfl rfl) (sr (rw_bk ag9 k5 rfl rfl) (sv (mvv (.string a1) rfl) (sv (rv_seql rfl rfl) (W.e (k11 _ _ ?_))))))
      have hse : strEq e.1.Name a1 = (e.1.Name == a1) := by unfold strEq; rw [beq_toListBytes]
      cases hb : (e.1.Name == a1) with
      | false =>
        refine cw_f rfl (hse.trans hb) (cw_skip ?_)
        refine ⟨_, rest_lt he, _, some e, u, ks ++ [e.1], rfl, C, ⟨rfl, rfl, rfl, trivial⟩, hM, hI2, ?_, hp1, hrb2⟩
        rw [List.filter_append, List.filter_cons, if_neg (by rw [hb]; simp), List.filter_nil, List.append_nil]
        exact hO
      | true =>
        refine cw_t rfl (hse.trans hb) ?_
        refine cw_region (sv (mvv u rfl) (sv (rv_fieldAddr st46 rfl rfl) (sr (rw_bk ag9 k5 rfl rfl) (sc (dc_lit (vs := [.string e.1.Val]) (xs := [e.1.Val]) (base := w.heap.size) el70 rfl rfl (.cons (sl_sc.2 rfl) .nil) (Nat.le_of_ble_eq_true rfl) C.up.size C.sb fun u2 w6 hO2 hb2 up6 => ?_)))))
        replace C := C.new up6
        replace hO := hO.nw up6
        replace hM := hM.to (up6.block b hM.lt fun h => h)
        replace hI2 := hI2.to (up6.block rb hI2.lt fun h => h)
        have happ : app_ 16 ((ks.filter fun y => y.Name == a1).map (·.Val)) [e.1.Val] = some ((ks.filter fun y => y.Name == a1).map (·.Val) ++ [e.1.Val]) := by
          have h1 := hp1.length_eq
          simp only [List.length_append, List.length_map, List.length_cons, List.length_nil] at h1
          have hk2 := congrArg List.length hk
          simp only [List.length_map] at hk2 hlen
          have h3 := List.length_filter_le (fun y : api_Label => y.Name == a1) ks
          unfold app_
          rw [if_pos (by simp only [List.length_map, List.length_cons, List.length_nil]; omega)]
        refine sc (dc_append el70 (by decide) hO hO2.src rfl rfl happ C.up.size C.sb fun u3 w7 hO3 up7 hb3 => ?_)
        have hbu : ∀ q, q < w.heap.size → ¬ Blk u q := fun q hq hb => by have := (hO.lt q hb).1; omega
        have hrl2 := hI2.lt
        replace C := C.ow hO up7
        replace hM := hM.to (up7.block b hM.lt (hbu b hbw))
        have hI3 := hI2.to (up7.block rb hrl2 hrb2)
        refine sv (asv u3 rfl) (W.e ?_)
        refine ⟨_, rest_lt he, _, some e, u3, ks ++ [e.1], rfl, C, ⟨rfl, rfl, rfl, trivial⟩, hM, hI3, ?_, hp1, fun hb => (hb3 rb hb).elim hrb2 (fun hl => by omega)⟩
        rw [List.filter_append, List.filter_cons, if_pos hb, List.filter_nil, List.map_append]
        exact hO3
  · rintro ρ w2 ⟨u, ks, C, hh, hO, hP⟩
    refine hh.cw fun ρ => ?_
    clear hh
    refine cw_seq fun K11 k11 => cw_region (sv (mvv u rfl) (sc (dc_call (vs := [u]) can59 rfl ?_)))
    have he : strSort ((ks.filter fun y => y.Name == a1).map (·.Val)) = r := by
      rw [← hr, ← hk]
      exact sort_str_perm ((hP.filter _).map _)
    refine (sortS_w Tryz.slices_Sort_string Tryz.slices_Sort_string_none C.sb hO he).mono ?_
    rintro _ w3 ⟨rfl, up3, hO3⟩
    refine ⟨_, rfl, W.e (k11 _ _ ?_)⟩
    replace C := C.ow hO up3
    refine cw_seq fun K12 k12 => cw_region (sv (mvv u rfl) (sv (asv u rfl) (W.e (k12 _ _ (cw_ret ?_)))))
    exact ⟨_, rfl, S, u, rfl, C, hO3⟩

noncomputable def marigraphlaw08_seen.b2 (a0 : Option index_Index) (a1 : marigraphref08_Index) (y67 : (List api_Label)) (x78 : Int) : Option ((Int) ⊕ ((Unit) ⊕ (Bool))) :=
  (bif (decide (x78 < (y67.length : Int))) then (((at_ y67 x78).bind fun y92 => (pur y92 fun y105 => (((index_Index_Post a0 y105).bind fun y124 => ((marigraphref08_Index_Post a1 y105).bind fun y137 => ((marigraphref04_Ints y124 y137).bind fun y151 => (bif (!y151) then some true else ((index_Index_Vals a0 y105.Name).bind fun y165 => ((marigraphref08_Index_Vals a1 y105.Name).bind fun y177 => ((marigraphref08_Strings y165 y177).bind fun y190 => some (!y190)))))))).bind fun o111 => (bif o111 then some (.inr (.inr (.inr false))) else some (.inl ()))))).bind (Sum.elim (fun o86n => (pur (IntKind.i64.wrap (x78 + (1 : Int))) fun y207 => some (.inl y207))) (fun q => some q))) else some (.inr (.inl ())))
noncomputable def marigraphlaw08_seen (a0 : Option index_Index) (a1 : marigraphref08_Index) (a2 : marigraphlaw08_Act) : Option Bool :=
  ((marigraphlaw08_few a2.L).bind fun y15 => ((index_Index_Id a0 y15).bind fun y22 => ((marigraphlaw08_few a2.L).bind fun y29 => ((marigraphref08_Index_Id a1 y29).bind fun y36 => ((index_Index_Labels a0 a2.Id).bind fun y43 => ((marigraphref08_Index_Labels a1 a2.Id).bind fun y54 => (((marigraphlaw08_few a2.L).bind fun y67 => (iter (fun s : Int => marigraphlaw08_seen.b2 a0 a1 y67 s) (0 : Int))).bind (Sum.elim (fun o61n => ((bif (y22.1 == y36.1) then (bif (y22.2 == y36.2) then ((marigraphref05_Same y43.1 y54.1).bind fun y219 => (bif y219 then some (y43.2 == y54.2) else some false)) else some false) else some false).bind fun o213 => some o213)) (fun q => some q)))))))))
theorem marigraphlaw08_seen_w {S : Nat → Prop} {w : World} {a0 : Option index_Index} {a1 : marigraphref08_Index} {a2 : marigraphlaw08_Act} {v0 v1 v2 : Value} {cs0 : List Value} {fp0 : List Nat} {cs1 : List Value} {fp1 : List Nat} {r : Bool} (hS : Sb S w) (h0 : Obo 61 index_Index.fs S w v0 a0 cs0 fp0) (h1 : Ob 29 (marigraphref08_Index.fs a1) S w v1 cs1 fp1) (h2 : Sl marigraphlaw08_Act.k S w v2 a2) (h : marigraphlaw08_seen a0 a1 a2 = some r) :
    Calls Tryz.prog 9 (List.toArray [v0, v1, v2]) w fun e w1 => ∃ S1, e = .returned (.bool r) ∧ Cx No S w S1 w1 := by
  refine enter Tryz.func9 rfl (by kernel_rfl) rfl ?_
  have C := Cx.refl (F := No) hS
  unfold marigraphlaw08_seen at h
  have hl0 : ∀ b ∈ fp0, b < w.heap.size := fun b hb => (h0.lt b hb).1
  have hl1 : ∀ b ∈ fp1, b < w.heap.size := fun b hb => (h1.lt b hb).1
  obtain ⟨c1, c3, rfl, g2, g4⟩ := marigraphlaw08_Act.o.1 h2
  refine cw_seq fun K5 k6 => ?_
  refine cw_region ?_
  refine sc (dc_boxS C.sb rfl fun b7 S8 w9 c10 h11 => ?_)
  replace h0 := h0.cx c10
  replace h1 := h1.cx c10
  replace g2 := g2.cx c10
  replace g4 := g4.cx c10
  replace C := C.trans c10
  refine sv (asv (.bool false) rfl) (W.e (k6 _ _ ?_))
  refine cw_seq fun K13 k14 => ?_
  refine cw_region (sv (mvv v0 rfl) (sv (rv_fieldAddr st34 rfl rfl) (sr (rw_bk ag31 h11.2 rfl rfl) ?_)))
  obtain ⟨y15, h16, h⟩ := bnd_some h
  refine sc (dc_call (vs := [c1]) can21 rfl ?_)
  refine (marigraphlaw08_few_w C.sb g2 h16).mono ?_
  rintro _ w17 ⟨S18, v20, rfl, c19, h21⟩
  refine ⟨_, rfl, ?_⟩
  replace h0 := h0.cx c19
  replace h1 := h1.cx c19
  replace h11 := h11.cx c19
  replace g2 := g2.cx c19
  replace g4 := g4.cx c19
  replace C := C.trans c19
  obtain ⟨y22, h23, h⟩ := bnd_some h
  refine sc (dc_call (vs := [v0, v20]) can23 rfl ?_)
  refine (index_Index_Id_w C.sb h0 h21 h23).mono ?_
  rintro _ w24 ⟨S25, rfl, c26⟩
  refine ⟨_, rfl, ?_⟩
  replace h0 := h0.cx c26
  replace h1 := h1.cx c26
  replace h11 := h11.cx c26
  replace g2 := g2.cx c26
  replace g4 := g4.cx c26
  replace C := C.trans c26
  refine sv (mvv (.tuple (List.toArray [.int .i64 y22.1, .bool y22.2])) rfl) (sv (rv_extract rfl rfl) (sv (rv_extract rfl rfl) (sv (asv (.int .i64 y22.1) rfl) (sv (asv (.bool y22.2) rfl) (W.e (k14 _ _ ?_))))))
  refine cw_seq fun K27 k28 => ?_
  refine cw_region (sv (mvv v1 rfl) (sv (rv_fieldAddr st34 rfl rfl) (sr (rw_bk ag31 h11.2 rfl rfl) ?_)))
  obtain ⟨y29, h30, h⟩ := bnd_some h
  refine sc (dc_call (vs := [c1]) can21 rfl ?_)
  refine (marigraphlaw08_few_w C.sb g2 h30).mono ?_
  rintro _ w31 ⟨S32, v34, rfl, c33, h35⟩
  refine ⟨_, rfl, ?_⟩
  replace h0 := h0.cx c33
  replace h1 := h1.cx c33
  replace h11 := h11.cx c33
  replace g2 := g2.cx c33
  replace g4 := g4.cx c33
  replace C := C.trans c33
  obtain ⟨y36, h37, h⟩ := bnd_some h
  refine sc (dc_call (vs := [v1, v34]) can24 rfl ?_)
  refine (marigraphref08_Index_Id_w C.sb h1 h35 h37).mono ?_
  rintro _ w38 ⟨S39, rfl, c40⟩
  refine ⟨_, rfl, ?_⟩
  replace h0 := h0.cx c40
  replace h1 := h1.cx c40
  replace h11 := h11.cx c40
  replace g2 := g2.cx c40
  replace g4 := g4.cx c40
  replace C := C.trans c40
  refine sv (mvv (.tuple (List.toArray [.int .i64 y36.1, .bool y36.2])) rfl) (sv (rv_extract rfl rfl) (sv (rv_extract rfl rfl) (sv (asv (.int .i64 y36.1) rfl) (sv (asv (.bool y36.2) rfl) (W.e (k28 _ _ ?_))))))
  refine cw_seq fun K41 k42 => ?_
  refine cw_region (sv (mvv v0 rfl) (sv (rv_fieldAddr st34 rfl rfl) (sr (rw_bk ag3 h11.2 rfl rfl) ?_)))
  obtain ⟨y43, h44, h⟩ := bnd_some h
  refine sc (dc_call (vs := [v0, .int .i64 a2.Id]) can25 rfl ?_)
  refine (index_Index_Labels_w C.sb h0 h44).mono ?_
  rintro _ w45 ⟨S46, v48, rfl, c47, h49⟩
  refine ⟨_, rfl, ?_⟩
  have p50 := ap_fresh (fun b hb => (h49.lt b hb).1) (fun b hb => (h0.lt b hb).1)
  have p51 := ap_fresh (fun b hb => (h49.lt b hb).1) (fun b hb => (h1.lt b hb).1)
  replace h49 := h49.base C.up.size
  replace h0 := h0.cx c47
  replace h1 := h1.cx c47
  replace h11 := h11.cx c47
  replace g2 := g2.cx c47
  replace g4 := g4.cx c47
  replace C := C.trans c47
  refine sv (mvv (.tuple (List.toArray [v48, .bool y43.2])) rfl) (sv (rv_extract rfl rfl) (sv (rv_extract rfl rfl) (sv (asv v48 rfl) (sv (asv (.bool y43.2) rfl) (W.e (k42 _ _ ?_))))))
  refine cw_seq fun K52 k53 => ?_
  refine cw_region (sv (mvv v1 rfl) (sv (rv_fieldAddr st34 rfl rfl) (sr (rw_bk ag3 h11.2 rfl rfl) ?_)))
  obtain ⟨y54, h55, h⟩ := bnd_some h
  refine sc (dc_call (vs := [v1, .int .i64 a2.Id]) can26 rfl ?_)
  refine (marigraphref08_Index_Labels_w C.sb h1 h55).mono ?_
  rintro _ w56 ⟨S57, v59, rfl, c58, h60⟩
  refine ⟨_, rfl, ?_⟩
  replace h0 := h0.cx c58
  replace h1 := h1.cx c58
  replace h11 := h11.cx c58
  replace g2 := g2.cx c58
  replace g4 := g4.cx c58
  replace h49 := h49.cx c58
  replace C := C.trans c58
  refine sv (mvv (.tuple (List.toArray [v59, .bool y54.2])) rfl) (sv (rv_extract rfl rfl) (sv (rv_extract rfl rfl) (sv (asv v59 rfl) (sv (asv (.bool y54.2) rfl) (W.e (k53 _ _ ?_))))))
  obtain ⟨o61, h64, h⟩ := bnds_some h
  refine cw_seq' (fun ρ w1 => ∃ o61n, o61 = (.inl o61n) ∧ ∃ S1, Cx No S w S1 w1 ∧ Has ρ [(7, .int .i64 y22.1), (8, .bool y22.2), (9, .int .i64 y36.1), (10, .bool y36.2), (11, v48), (12, .bool y43.2), (13, v59), (14, .bool y54.2)] ∧ Ow api_Label.k 46 S1 w.heap.size w1 v48 y43.1 ∧ Sl (kSl api_Label.k) S1 w1 v59 y54.1) ?_ ?_
  · refine cw_seq fun K65 k66 => ?_
    refine cw_region (sv (rv_fieldAddr st34 rfl rfl) (sr (rw_bk ag31 h11.2 rfl rfl) ?_))
    obtain ⟨y67, h68, h64⟩ := bnd_some h64
    refine sc (dc_call (vs := [c1]) can21 rfl ?_)
    refine (marigraphlaw08_few_w C.sb g2 h68).mono ?_
    rintro _ w69 ⟨S70, v72, rfl, c71, h73⟩
    refine ⟨_, rfl, ?_⟩
    replace h0 := h0.cx c71
    replace h1 := h1.cx c71
    replace h49 := h49.cx c71
    replace h60 := h60.cx c71
    replace C := C.trans c71
    refine sv (rv_lenS el31 h73 rfl) (sv (mvv (.int .i64 0) rfl) (W.e (k66 _ _ (cw_block ?_))))
    refine cw_iter h64 (fun s ρ w1 => ∃ S1, Cx No S w S1 w1 ∧ Has ρ [(0, v0), (1, v1), (7, .int .i64 y22.1), (8, .bool y22.2), (9, .int .i64 y36.1), (10, .bool y36.2), (11, v48), (12, .bool y43.2), (13, v59), (14, .bool y54.2), (49, v72), (50, .int .i64 (y67.length : Int)), (51, .int .i64 s)] ∧ Ow api_Label.k 46 S1 w.heap.size w1 v48 y43.1 ∧ Sl (kSl api_Label.k) S1 w1 v59 y54.1 ∧ Sl (kSl api_Label.k) S1 w1 v72 y67 ∧ Obo 61 index_Index.fs S1 w1 v0 a0 cs0 fp0 ∧ Ob 29 (marigraphref08_Index.fs a1) S1 w1 v1 cs1 fp1) ⟨_, C, ⟨rfl, rfl, rfl, rfl, rfl, rfl, rfl, rfl, rfl, rfl, rfl, rfl, rfl, trivial⟩, h49, h60, h73, h0, h1⟩ ?_
    rintro x78 q74 ρ w76 ⟨S75, C, h77, h49, h60, h73, h0, h1⟩ h80 h79
    refine h77.cw fun ρ => ?_
    clear h77
    replace h80 : marigraphlaw08_seen.b2 a0 a1 y67 x78 = some q74 := h80
    unfold marigraphlaw08_seen.b2 at h80
    refine cw_seq fun K81 k82 => ?_
    refine cw_region (sv (rv_lss rfl rfl) (W.e (k82 _ _ ?_)))
    refine cw_seq fun K83 k84 => ?_
    rcases bif_some h80 with ⟨b85, h80⟩ | ⟨b85, h80⟩
    · refine cw_t rfl b85 (cw_skip (k84 _ _ ?_))
      obtain ⟨o86, h89, h80⟩ := bnds_some h80
      refine cw_seq' (fun ρ w1 => ∃ o86n, o86 = (.inl o86n) ∧ ∃ S1, Cx No S w S1 w1 ∧ Has ρ [(0, v0), (1, v1), (7, .int .i64 y22.1), (8, .bool y22.2), (9, .int .i64 y36.1), (10, .bool y36.2), (11, v48), (12, .bool y43.2), (13, v59), (14, .bool y54.2), (49, v72), (50, .int .i64 (y67.length : Int)), (51, .int .i64 x78)] ∧ Ow api_Label.k 46 S1 w.heap.size w1 v48 y43.1 ∧ Sl (kSl api_Label.k) S1 w1 v59 y54.1 ∧ Sl (kSl api_Label.k) S1 w1 v72 y67 ∧ Obo 61 index_Index.fs S1 w1 v0 a0 cs0 fp0 ∧ Ob 29 (marigraphref08_Index.fs a1) S1 w1 v1 cs1 fp1) ?_ ?_
      · refine cw_block ?_
        refine cw_seq fun K90 k91 => ?_
        refine cw_region ?_
        obtain ⟨y92, h93, h89⟩ := bnd_some h89
        refine sv (rv_index el31 h73 rfl rfl h93) ?_
        obtain ⟨v94, h95, h96⟩ := rw_loadA (P := Tryz.prog) el31 h73 h93
        obtain rfl := api_Label.o.1 h95
        refine sr (h96 _ (Sm.refl _ _) rfl) ?_
        refine sc (dc_allocO (x0 := (api_Label.mk ByteArray.empty ByteArray.empty)) (base := w.heap.size) el31 zr46 (fun _ => api_Label.r.2 rfl) C.up.size C.sb fun b97 w98 h99 h100 u101 => ?_)
        have p102 := ap_fresh h100 (fun b hb => (h0.lt b hb).1)
        have p103 := ap_fresh h100 (fun b hb => (h1.lt b hb).1)
        have p104 := ap_fresh h100 (fun b hb => (h49.lt b hb).2)
        replace h0 := h0.nw u101
        replace h1 := h1.nw u101
        replace h49 := h49.nw u101
        replace h60 := h60.nw u101
        replace h73 := h73.nw u101
        replace C := C.new u101
        obtain ⟨y105, h106, h89⟩ := pur_some h89
        have h110 := h99
        refine sc (dc_storeO el31 h110 (show at_ [(api_Label.mk ByteArray.empty ByteArray.empty)] (0 : Int) = some (api_Label.mk ByteArray.empty ByteArray.empty) from rfl) rfl rfl (((api_Label.o (x := y92)).2 rfl)) fun w107 h108 u109 => ?_)
        replace h108 : Ow api_Label.k 46 S75 w.heap.size w107 (.slice (some ⟨b97, 0, none⟩) 1 1) [y92] := h108
        rw [h106] at h108
        replace h0 := h0.wr u109 h110.not (ap_symm p102)
        replace h1 := h1.wr u109 h110.not (ap_symm p103)
        replace h49 := h49.wr u109 h110.not (ap_symm p104)
        replace h60 := h60.wr u109 h110.not
        replace h73 := h73.wr u109 h110.not
        replace C := C.ow h110 u109
        refine W.e (k91 _ _ ?_)
        obtain ⟨o111, h114, h89⟩ := bnd_some h89
        refine cw_seq' (fun ρ w1 => ∃ S1, Cx No S w S1 w1 ∧ Has ρ [(0, v0), (1, v1), (7, .int .i64 y22.1), (8, .bool y22.2), (9, .int .i64 y36.1), (10, .bool y36.2), (11, v48), (12, .bool y43.2), (13, v59), (14, .bool y54.2), (49, v72), (50, .int .i64 (y67.length : Int)), (51, .int .i64 x78), (74, .bool o111)] ∧ Ow api_Label.k 46 S1 w.heap.size w1 v48 y43.1 ∧ Sl (kSl api_Label.k) S1 w1 v59 y54.1 ∧ Sl (kSl api_Label.k) S1 w1 v72 y67 ∧ Obo 61 index_Index.fs S1 w1 v0 a0 cs0 fp0 ∧ Ob 29 (marigraphref08_Index.fs a1) S1 w1 v1 cs1 fp1) ?_ ?_
        · refine cw_drawU (.one 0 true (.one 1 true (.one 3 true (.one 4 true (.one 2 false (.one 5 false (.one 6 false (.one 7 true (.one 8 true (.one 9 true (.one 10 true (.one 11 true (.one 13 true (.one 14 true (.one 15 true (.one 12 false (.one 16 false (.one 17 false (.one 18 true (.one 19 true .done)))))))))))))))))))) [(1, [9]), (4, [9]), (11, [9]), (15, [9])] [(2, [9]), (5, [9]), (6, [9]), (12, [9]), (16, [9]), (17, [9])] (fun c => bif Nat.beq c 9 then (fun _ => True) else No) fol (by kernel_rfl) fun w115 u116 => ?_
          replace h0 := h0.nw u116
          replace h1 := h1.nw u116
          replace h49 := h49.nw u116
          replace h60 := h60.nw u116
          replace h108 := h108.nw u116
          replace h73 := h73.nw u116
          replace C := C.new u116
          have h0d := h0
          have h1d := h1
          have h49d := h49
          have h60d := h60
          have h108d := h108
          have h73d := h73
          have m117 := Sm.refl (fun _ => True) w115
          refine mtv rfl rfl (mvv v0 rfl) ?_
          obtain ⟨v118, h119, h120⟩ := rw_loadO (P := Tryz.prog) el31 h108 (show at_ [y105] (0 : Int) = some y105 from rfl)
          obtain rfl := api_Label.o.1 h119
          refine mtr rfl rfl ⟨m117, trivial⟩ (fun w' hq => h120 w' (hq.1.mono fun _ _ => trivial) rfl) (mtv rfl rfl (mvv v1 rfl) ?_)
          obtain ⟨v121, h122, h123⟩ := rw_loadO (P := Tryz.prog) el31 h108 (show at_ [y105] (0 : Int) = some y105 from rfl)
          obtain rfl := api_Label.o.1 h122
          refine mtr rfl rfl ⟨m117, trivial⟩ (fun w' hq => h123 w' (hq.1.mono fun _ _ => trivial) rfl) ?_
          obtain ⟨y124, h125, h114⟩ := bnd_some h114
          refine mtc rfl rfl (dc_call (vs := [v0, .agg (List.toArray [.string y105.Name, .string y105.Val])]) can27 rfl ?_)
          refine (index_Index_Post_w C.sb h0 ((api_Label.o (x := y105)).2 rfl) h125).mono ?_
          rintro _ w126 ⟨S127, v129, rfl, c128, h130⟩
          refine ⟨_, rfl, ?_⟩
          have p131 := ap_fresh (fun b hb => (h130.lt b hb).1) (fun b hb => (h0.lt b hb).1)
          have p132 := ap_fresh (fun b hb => (h130.lt b hb).1) (fun b hb => (h1.lt b hb).1)
          have p133 := ap_fresh (fun b hb => (h130.lt b hb).1) (fun b hb => (h49.lt b hb).2)
          have p134 := ap_fresh (fun b hb => (h130.lt b hb).1) (fun b hb => (h108.lt b hb).2)
          replace h130 := h130.base C.up.size
          replace h0 := h0.cx c128
          replace h1 := h1.cx c128
          replace h49 := h49.cx c128
          replace h60 := h60.cx c128
          replace h108 := h108.cx c128
          replace h73 := h73.cx c128
          replace C := C.trans c128
          have z135 := (c128.up).size
          have m136 := m117.nx c128.up (by omega)
          refine ⟨⟨m136, trivial⟩, ?_⟩
          obtain ⟨y137, h138, h114⟩ := bnd_some h114
          refine mtc rfl rfl (dc_call (vs := [v1, .agg (List.toArray [.string y105.Name, .string y105.Val])]) can28 rfl ?_)
          refine (marigraphref08_Index_Post_w C.sb h1 ((api_Label.o (x := y105)).2 rfl) h138).mono ?_
          rintro _ w139 ⟨S140, v142, rfl, c141, h143⟩
          refine ⟨_, rfl, ?_⟩
          have p144 := ap_fresh (fun b hb => (h143.lt b hb).1) (fun b hb => (h0.lt b hb).1)
          have p145 := ap_fresh (fun b hb => (h143.lt b hb).1) (fun b hb => (h1.lt b hb).1)
          have p146 := ap_fresh (fun b hb => (h143.lt b hb).1) (fun b hb => (h49.lt b hb).2)
          have p147 := ap_fresh (fun b hb => (h143.lt b hb).1) (fun b hb => (h108.lt b hb).2)
          have p148 := ap_fresh (fun b hb => (h143.lt b hb).1) (fun b hb => (h130.lt b hb).2)
          replace h143 := h143.base C.up.size
          replace h0 := h0.cx c141
          replace h1 := h1.cx c141
          replace h49 := h49.cx c141
          replace h60 := h60.cx c141
          replace h108 := h108.cx c141
          replace h73 := h73.cx c141
          replace h130 := h130.cx c141
          replace C := C.trans c141
          have z149 := (c141.up).size
          have m150 := m136.nx c141.up (by omega)
          refine ⟨⟨m150, trivial⟩, ?_⟩
          replace h0 := h0.or (ap_symm p131)
          replace h1 := h1.or (ap_symm p132)
          replace h49 := h49.or (ap_symm p133)
          replace h60 := h60.or (T := Blk v129)
          replace h108 := h108.or (ap_symm p134)
          replace h73 := h73.or (T := Blk v129)
          replace h143 := h143.or p148
          replace C := C.sealO h130
          replace h130 := h130.sealed
          replace h0 := h0.or (ap_symm p144)
          replace h1 := h1.or (ap_symm p145)
          replace h49 := h49.or (ap_symm p146)
          replace h60 := h60.or (T := Blk v142)
          replace h108 := h108.or (ap_symm p147)
          replace h73 := h73.or (T := Blk v142)
          replace h130 := h130.or (T := Blk v142)
          replace C := C.sealO h143
          replace h143 := h143.sealed
          obtain ⟨y151, h152, h114⟩ := bnd_some h114
          refine mtc rfl rfl (dc_call (vs := [v129, v142]) can17 rfl ?_)
          refine (marigraphref04_Ints_w C.sb h130 h143 h152).mono ?_
          rintro _ w153 ⟨S154, rfl, c155⟩
          refine ⟨_, rfl, ?_⟩
          replace h0 := h0.cx c155
          replace h1 := h1.cx c155
          replace h49 := h49.cx c155
          replace h60 := h60.cx c155
          replace h108 := h108.cx c155
          replace h73 := h73.cx c155
          replace C := C.trans c155
          have z156 := (c155.up).size
          have m157 := m150.nx c155.up (by omega)
          refine ⟨⟨m157, trivial⟩, ?_⟩
          refine mtv rfl rfl (rv_not rfl) (mtv rfl rfl (mvv (.bool (!y151)) rfl) ?_)
          rcases bif_some h114 with ⟨b158, h114⟩ | ⟨b158, h114⟩
          · refine MT.n rfl rfl (gn rfl rfl rfl b158) trivial (MT.n rfl rfl (gn rfl rfl rfl b158) trivial (MT.n rfl rfl (gn rfl rfl rfl b158) ⟨m157, trivial⟩ (MT.n rfl rfl (gn rfl rfl rfl b158) trivial (MT.n rfl rfl (gn rfl rfl rfl b158) trivial (MT.n rfl rfl (gn rfl rfl rfl b158) ⟨m157, trivial⟩ (MT.m rfl rfl (gn rfl rfl rfl b158) ⟨m157, trivial⟩ (MT.m rfl rfl (gn rfl rfl rfl b158) ⟨m157, trivial⟩ (MT.m rfl rfl (gn rfl rfl rfl b158) ⟨m157, trivial⟩ (MT.n rfl rfl (gn rfl rfl rfl b158) trivial (mtv rfl rfl (ptk (.bool true) rfl b158 rfl) (MT.e ?_)))))))))))
            obtain rfl := osi h114
            exact ⟨_, C, ⟨rfl, rfl, rfl, rfl, rfl, rfl, rfl, rfl, rfl, rfl, rfl, rfl, rfl, rfl, trivial⟩, h49, h60, h73, h0, h1⟩
          · refine MT.vv rfl rfl (gy rfl rfl rfl b158) (mvv v0 rfl) (MT.vv rfl rfl (gy rfl rfl rfl b158) (rv_fieldAddr st46 rfl rfl) ?_)
            obtain ⟨cs159, h160, h161⟩ := Ow.cellsO h108d (show at_ [y105] (0 : Int) = some y105 from rfl)
            obtain rfl := api_Label.r.1 h160
            refine MT.r rfl rfl (gy rfl rfl rfl b158) ⟨m157, trivial⟩ (fun w' hq => rw_el1 (off := 0) ag9 (h161 w' (hq.1.mono fun _ _ => trivial)) rfl rfl) (MT.vv rfl rfl (gy rfl rfl rfl b158) (mvv v1 rfl) (MT.vv rfl rfl (gy rfl rfl rfl b158) (rv_fieldAddr st46 rfl rfl) ?_))
            obtain ⟨cs162, h163, h164⟩ := Ow.cellsO h108d (show at_ [y105] (0 : Int) = some y105 from rfl)
            obtain rfl := api_Label.r.1 h163
            refine MT.r rfl rfl (gy rfl rfl rfl b158) ⟨m157, trivial⟩ (fun w' hq => rw_el1 (off := 0) ag9 (h164 w' (hq.1.mono fun _ _ => trivial)) rfl rfl) ?_
            obtain ⟨y165, h166, h114⟩ := bnd_some h114
            refine MT.c rfl rfl (gy rfl rfl rfl b158) (dc_call (vs := [v0, .string y105.Name]) can30 rfl ?_)
            refine (index_Index_Vals_w C.sb h0 h166).mono ?_
            rintro _ w167 ⟨S168, v170, rfl, c169, h171⟩
            refine ⟨_, rfl, ?_⟩
            have p172 := ap_fresh (fun b hb => (h171.lt b hb).1) (fun b hb => (h0.lt b hb).1)
            have p173 := ap_fresh (fun b hb => (h171.lt b hb).1) (fun b hb => (h1.lt b hb).1)
            have p174 := ap_fresh (fun b hb => (h171.lt b hb).1) (fun b hb => (h49.lt b hb).2)
            replace h171 := h171.base C.up.size
            replace h0 := h0.cx c169
            replace h1 := h1.cx c169
            replace h49 := h49.cx c169
            replace h60 := h60.cx c169
            replace h73 := h73.cx c169
            replace C := C.trans c169
            have z175 := (c169.up).size
            have m176 := m157.nx c169.up (by omega)
            refine ⟨⟨m176, trivial⟩, ?_⟩
            obtain ⟨y177, h178, h114⟩ := bnd_some h114
            refine MT.c rfl rfl (gy rfl rfl rfl b158) (dc_call (vs := [v1, .string y105.Name]) can31 rfl ?_)
            refine (marigraphref08_Index_Vals_w C.sb h1 h178).mono ?_
            rintro _ w179 ⟨S180, v182, rfl, c181, h183⟩
            refine ⟨_, rfl, ?_⟩
            have p184 := ap_fresh (fun b hb => (h183.lt b hb).1) (fun b hb => (h0.lt b hb).1)
            have p185 := ap_fresh (fun b hb => (h183.lt b hb).1) (fun b hb => (h1.lt b hb).1)
            have p186 := ap_fresh (fun b hb => (h183.lt b hb).1) (fun b hb => (h171.lt b hb).2)
            have p187 := ap_fresh (fun b hb => (h183.lt b hb).1) (fun b hb => (h49.lt b hb).2)
            replace h183 := h183.base C.up.size
            replace h0 := h0.cx c181
            replace h1 := h1.cx c181
            replace h171 := h171.cx c181
            replace h49 := h49.cx c181
            replace h60 := h60.cx c181
            replace h73 := h73.cx c181
            replace C := C.trans c181
            have z188 := (c181.up).size
            have m189 := m176.nx c181.up (by omega)
            refine ⟨⟨m189, trivial⟩, ?_⟩
            replace h0 := h0.or (ap_symm p172)
            replace h1 := h1.or (ap_symm p173)
            replace h49 := h49.or (ap_symm p174)
            replace h60 := h60.or (T := Blk v170)
            replace h183 := h183.or p186
            replace h73 := h73.or (T := Blk v170)
            replace C := C.sealO h171
            replace h171 := h171.sealed
            replace h0 := h0.or (ap_symm p184)
            replace h1 := h1.or (ap_symm p185)
            replace h171 := h171.or (T := Blk v182)
            replace h49 := h49.or (ap_symm p187)
            replace h60 := h60.or (T := Blk v182)
            replace h73 := h73.or (T := Blk v182)
            replace C := C.sealO h183
            replace h183 := h183.sealed
            obtain ⟨y190, h191, h114⟩ := bnd_some h114
            refine MT.c rfl rfl (gy rfl rfl rfl b158) (dc_call (vs := [v170, v182]) can29 rfl ?_)
            refine (marigraphref08_Strings_w C.sb h171 h183 h191).mono ?_
            rintro _ w192 ⟨S193, rfl, c194⟩
            refine ⟨_, rfl, ?_⟩
            replace h0 := h0.cx c194
            replace h1 := h1.cx c194
            replace h49 := h49.cx c194
            replace h60 := h60.cx c194
            replace h73 := h73.cx c194
            replace C := C.trans c194
            have z195 := (c194.up).size
            have m196 := m189.nx c194.up (by omega)
            refine ⟨⟨m196, trivial⟩, ?_⟩
            refine MT.vv rfl rfl (gy rfl rfl rfl b158) (rv_not rfl) (mtv rfl rfl (pfk (.bool (!y190)) rfl b158 rfl) (MT.e ?_))
            obtain rfl := osi h114
            exact ⟨_, C, ⟨rfl, rfl, rfl, rfl, rfl, rfl, rfl, rfl, rfl, rfl, rfl, rfl, rfl, rfl, trivial⟩, h49, h60, h73, h0, h1⟩
        · rintro ρ w198 ⟨S197, C, h199, h49, h60, h73, h0, h1⟩
          refine h199.cw fun ρ => ?_
          clear h199
          rcases bif_some h89 with ⟨b200, h89⟩ | ⟨b200, h89⟩
          · refine cw_t rfl b200 ?_
            refine cw_seq fun K201 k202 => ?_
            refine cw_region (sv (asv (.bool false) rfl) (W.e (k202 _ _ (cw_ret ?_))))
            obtain rfl := osi h89
            replace h80 := h80.2 _ rfl
            obtain rfl := osi h80
            have h203 := congrArg some h79
            obtain rfl := osi h203
            replace h := h.2 _ rfl
            obtain rfl := osi h
            exact ⟨_, rfl, _, rfl, C⟩
          · refine cw_f rfl b200 (cw_skip ?_)
            obtain rfl := osi h89
            exact ⟨_, rfl, ⟨_, C, ⟨rfl, rfl, rfl, rfl, rfl, rfl, rfl, rfl, rfl, rfl, rfl, rfl, rfl, trivial⟩, h49, h60, h73, h0, h1⟩⟩
      · rintro ρ w205 ⟨o86n, rfl, ⟨S204, C, h206, h49, h60, h73, h0, h1⟩⟩
        replace h80 := h80.1 _ rfl
        refine h206.cw fun ρ => ?_
        clear h206
        refine cw_region ?_
        obtain ⟨y207, h208, h80⟩ := pur_some h80
        refine sv (rv_add rfl rfl h208) (sv (mvv (.int .i64 y207) rfl) (W.e ?_))
        obtain rfl := osi h80
        exact ⟨_, rfl, ⟨_, C, ⟨rfl, rfl, rfl, rfl, rfl, rfl, rfl, rfl, rfl, rfl, rfl, rfl, rfl, trivial⟩, h49, h60, h73, h0, h1⟩⟩
    · refine cw_f rfl b85 (cw_exit ?_)
      obtain rfl := osi h80
      have h209 := congrArg some h79
      obtain rfl := osi h209
      exact ⟨_, rfl, ⟨_, C, ⟨rfl, rfl, rfl, rfl, rfl, rfl, rfl, rfl, trivial⟩, h49, h60⟩⟩
  · rintro ρ w211 ⟨o61n, rfl, ⟨S210, C, h212, h49, h60⟩⟩
    replace h := h.1 _ rfl
    refine h212.cw fun ρ => ?_
    clear h212
    obtain ⟨o213, h216, h⟩ := bnd_some h
    refine cw_seq' (fun ρ w1 => ∃ S1, Cx No S w S1 w1 ∧ Has ρ [(6, .bool o213)]) ?_ ?_
    · refine cw_region (sv (mvv (.int .i64 y22.1) rfl) (sv (mvv (.int .i64 y36.1) rfl) (sv (rv_eql rfl rfl) (sv (mvv (.bool (y22.1 == y36.1)) rfl) ?_))))
      rcases bif_some h216 with ⟨b217, h216⟩ | ⟨b217, h216⟩
      · refine W.v (gy rfl rfl rfl b217) (mvv (.bool y22.2) rfl) (W.v (gy rfl rfl rfl b217) (mvv (.bool y36.2) rfl) (W.v (gy rfl rfl rfl b217) (rv_beql Tryz.underlying4 rfl rfl) (sv (ptk (.bool (y22.2 == y36.2)) rfl b217 rfl) (sv (mvv (.bool (y22.2 == y36.2)) rfl) ?_))))
        rcases bif_some h216 with ⟨b218, h216⟩ | ⟨b218, h216⟩
        · refine W.v (gy rfl rfl rfl b218) (mvv v48 rfl) (W.v (gy rfl rfl rfl b218) (mvv v59 rfl) ?_)
          replace h60 := h60.or (T := Blk v48)
          replace C := C.sealO h49
          replace h49 := h49.sealed
          obtain ⟨y219, h220, h216⟩ := bnd_some h216
          refine W.c (gy rfl rfl rfl b218) (dc_call (vs := [v48, v59]) can32 rfl ?_)
          refine (marigraphref05_Same_w C.sb h49 h60 h220).mono ?_
          rintro _ w221 ⟨S222, rfl, c223⟩
          refine ⟨_, rfl, ?_⟩
          replace C := C.trans c223
          refine sv (ptk (.bool y219) rfl b218 rfl) (sv (mvv (.bool y219) rfl) ?_)
          rcases bif_some h216 with ⟨b224, h216⟩ | ⟨b224, h216⟩
          · refine W.v (gy rfl rfl rfl b224) (mvv (.bool y43.2) rfl) (W.v (gy rfl rfl rfl b224) (mvv (.bool y54.2) rfl) (W.v (gy rfl rfl rfl b224) (rv_beql Tryz.underlying4 rfl rfl) (sv (ptk (.bool (y43.2 == y54.2)) rfl b224 rfl) (sv (asv (.bool (y43.2 == y54.2)) rfl) (W.e ?_)))))
            obtain rfl := osi h216
            exact ⟨_, C, ⟨rfl, trivial⟩⟩
          · refine W.n (gn rfl rfl rfl b224) (W.n (gn rfl rfl rfl b224) (W.n (gn rfl rfl rfl b224) (sv (pfk (.bool false) rfl b224 rfl) (sv (asv (.bool false) rfl) (W.e ?_)))))
            obtain rfl := osi h216
            exact ⟨_, C, ⟨rfl, trivial⟩⟩
        · refine W.n (gn rfl rfl rfl b218) (W.n (gn rfl rfl rfl b218) (W.n (gn rfl rfl rfl b218) (sv (pfk (.bool false) rfl b218 rfl) (sv (mvv (.bool false) rfl) (W.n (gn rfl rfl rfl rfl) (W.n (gn rfl rfl rfl rfl) (W.n (gn rfl rfl rfl rfl) (sv (pfk (.bool false) rfl rfl rfl) (sv (asv (.bool false) rfl) (W.e ?_))))))))))
          obtain rfl := osi h216
          exact ⟨_, C, ⟨rfl, trivial⟩⟩
      · refine W.n (gn rfl rfl rfl b217) (W.n (gn rfl rfl rfl b217) (W.n (gn rfl rfl rfl b217) (sv (pfk (.bool false) rfl b217 rfl) (sv (mvv (.bool false) rfl) (W.n (gn rfl rfl rfl rfl) (W.n (gn rfl rfl rfl rfl) (W.n (gn rfl rfl rfl rfl) (sv (pfk (.bool false) rfl rfl rfl) (sv (mvv (.bool false) rfl) (W.n (gn rfl rfl rfl rfl) (W.n (gn rfl rfl rfl rfl) ?_)))))))))))
        refine W.n (gn rfl rfl rfl rfl) (sv (pfk (.bool false) rfl rfl rfl) (sv (asv (.bool false) rfl) (W.e ?_)))
        obtain rfl := osi h216
        exact ⟨_, C, ⟨rfl, trivial⟩⟩
    · rintro ρ w226 ⟨S225, C, h227⟩
      refine h227.cw fun ρ => ?_
      clear h227
      refine cw_ret ?_
      obtain rfl := osi h
      exact ⟨_, rfl, _, rfl, C⟩

noncomputable def marigraphlaw08_IndexOpens (a0 : List Int) (a1 : marigraphlaw08_Act) : Option Bool :=
  ((marigraphlaw08_shown).bind fun y15 => (pur (if (2000 : Int) < (a0.length : Int) then (2000 : Int) else (a0.length : Int)) fun y22 => ((upto_ a0 y22).bind fun y24 => ((index_Open y24).bind fun y31 => ((marigraphref08_Open y24).bind fun y44 => (((bif (y31.2 != y44.2) then some true else some (!(y31.1.isNone == y44.1.isNone))).bind fun o60 => (bif o60 then some (.inr false) else some (.inl ()))).bind (Sum.elim (fun o56n => (bif y44.1.isNone then some y15 else ((bif y15 then ((index_Index_Bytes y31.1).bind fun y9_3_1 => (bif (strEq (strOf y9_3_1) (strOf y24)) then ((y44.1).bind fun y9_13_1 => ((marigraphlaw08_does y31.1 y9_13_1 a1).bind fun y9_13_2 => (bif y9_13_2.1 then ((marigraphlaw08_seen y9_13_2.2.1 y9_13_2.2.2 a1).bind fun y9_19_1 => some (y9_19_1, y9_13_2.2.1, (some y9_13_2.2.2))) else some (false, y9_13_2.2.1, (some y9_13_2.2.2))))) else some (false, y31.1, y44.1))) else some (false, y31.1, y44.1)).bind fun o83 => some o83.1))) (fun q => some q))))))))
theorem marigraphlaw08_IndexOpens_w {S : Nat → Prop} {w : World} {a0 : List Int} {a1 : marigraphlaw08_Act} {v0 v1 : Value} {r : Bool} (hS : Sb S w) (h0 : Sl (kSl (kI .u8)) S w v0 a0) (h1 : Sl marigraphlaw08_Act.k S w v1 a1) (h : marigraphlaw08_IndexOpens a0 a1 = some r) :
    Calls Tryz.prog 4 (List.toArray [v0, v1]) w fun e w1 => ∃ S1, e = .returned (.bool r) ∧ Cx No S w S1 w1 := by
  refine enter Tryz.func4 rfl (by kernel_rfl) rfl ?_
  have C := Cx.refl (F := No) hS
  unfold marigraphlaw08_IndexOpens at h
  obtain ⟨c1, c3, rfl, g2, g4⟩ := marigraphlaw08_Act.o.1 h1
  refine cw_seq fun K5 k6 => ?_
  refine cw_region ?_
  refine sc (dc_boxS C.sb rfl fun b7 S8 w9 c10 h11 => ?_)
  replace h0 := h0.cx c10
  replace g2 := g2.cx c10
  replace g4 := g4.cx c10
  replace C := C.trans c10
  refine sv (asv (.bool false) rfl) (W.e (k6 _ _ ?_))
  refine cw_seq fun K13 k14 => ?_
  refine cw_region ?_
  obtain ⟨y15, h16, h⟩ := bnd_some h
  refine sc (dc_call (vs := []) can5 rfl ?_)
  refine (marigraphlaw08_shown_w C.sb  h16).mono ?_
  rintro _ w17 ⟨S18, rfl, c19⟩
  refine ⟨_, rfl, ?_⟩
  replace h0 := h0.cx c19
  replace h11 := h11.cx c19
  replace g2 := g2.cx c19
  replace g4 := g4.cx c19
  replace C := C.trans c19
  refine sv (asv (.bool y15) rfl) (W.e (k14 _ _ ?_))
  refine cw_seq fun K20 k21 => ?_
  refine cw_region (sv (mvv v0 rfl) (sv (mvv v0 rfl) (sv (rv_lenS el36 h0 rfl) ?_)))
  obtain ⟨y22, h23, h⟩ := pur_some h
  refine sv (rv_min rfl rfl h23) ?_
  obtain ⟨y24, h25, h⟩ := bnd_some h
  obtain ⟨v26, h27, h28⟩ := rv_uptoA (P := Tryz.prog) el36 h0 h25
  refine sv (h28 rfl rfl) (sv (asv v26 rfl) (W.e (k21 _ _ ?_)))
  refine cw_seq fun K29 k30 => ?_
  refine cw_region (sv (mvv v26 rfl) ?_)
  obtain ⟨y31, h32, h⟩ := bnd_some h
  refine sc (dc_call (vs := [v26]) can12 rfl ?_)
  refine (index_Open_w C.sb h27 h32).mono ?_
  rintro _ w33 ⟨S34, v36, cs37, fp38, rfl, c35, h39, h40⟩
  refine ⟨_, rfl, ?_⟩
  have h41 : ∀ b, b ∈ fp38 → w.heap.size ≤ b := fun b hb => Nat.le_trans C.up.size (h40 b hb)
  replace h11 := h11.cx c35
  replace g2 := g2.cx c35
  replace g4 := g4.cx c35
  replace h27 := h27.cx c35
  replace C := C.trans c35
  refine sv (mvv (.tuple (List.toArray [v36, .int .i64 y31.2])) rfl) (sv (rv_extract rfl rfl) (sv (rv_extract rfl rfl) (sv (asv v36 rfl) (sv (asv (.int .i64 y31.2) rfl) (W.e (k30 _ _ ?_))))))
  refine cw_seq fun K42 k43 => ?_
  refine cw_region (sv (mvv v26 rfl) ?_)
  obtain ⟨y44, h45, h⟩ := bnd_some h
  refine sc (dc_call (vs := [v26]) can13 rfl ?_)
  refine (marigraphref08_Open_w C.sb h27 h45).mono ?_
  rintro _ w46 ⟨S47, v49, cs50, fp51, rfl, c48, h52, h53⟩
  refine ⟨_, rfl, ?_⟩
  have p54 := ap_fresh h53 (fun b hb => (h39.lt b hb).1)
  have h55 : ∀ b, b ∈ fp51 → w.heap.size ≤ b := fun b hb => Nat.le_trans C.up.size (h53 b hb)
  replace h11 := h11.cx c48
  replace g2 := g2.cx c48
  replace g4 := g4.cx c48
  replace h27 := h27.cx c48
  replace h39 := h39.cx c48
  replace C := C.trans c48
  refine sv (mvv (.tuple (List.toArray [v49, .int .i64 y44.2])) rfl) (sv (rv_extract rfl rfl) (sv (rv_extract rfl rfl) (sv (asv v49 rfl) (sv (asv (.int .i64 y44.2) rfl) (W.e (k43 _ _ ?_))))))
  obtain ⟨o56, h59, h⟩ := bnds_some h
  refine cw_seq' (fun ρ w1 => ∃ o56n, o56 = (.inl o56n) ∧ ∃ S1, Cx No S w S1 w1 ∧ Has ρ [(3, .pointer (some ⟨b7, 0, none⟩)), (5, .bool y15), (6, v26), (7, v36), (9, v49)] ∧ Bs S1 w1 b7 [.int .u8 a1.Kind, .int .i64 a1.Id, c1, c3] 34 ∧ Sl (kSl api_Label.k) S1 w1 c1 a1.L ∧ Sl (kSl api_Ask.k) S1 w1 c3 a1.A ∧ Sl (kSl (kI .u8)) S1 w1 v26 y24 ∧ Obo 61 index_Index.fs S1 w1 v36 y31.1 cs37 fp38 ∧ Obo 29 marigraphref08_Index.fs S1 w1 v49 y44.1 cs50 fp51 ∧ (∀ b, b ∈ fp38 → ¬ b ∈ fp51)) ?_ ?_
  · obtain ⟨o60, h63, h59⟩ := bnd_some h59
    refine cw_seq' (fun ρ w1 => ∃ S1, Cx No S w S1 w1 ∧ Has ρ [(3, .pointer (some ⟨b7, 0, none⟩)), (5, .bool y15), (6, v26), (7, v36), (9, v49), (36, .bool o60)] ∧ Bs S1 w1 b7 [.int .u8 a1.Kind, .int .i64 a1.Id, c1, c3] 34 ∧ Sl (kSl api_Label.k) S1 w1 c1 a1.L ∧ Sl (kSl api_Ask.k) S1 w1 c3 a1.A ∧ Sl (kSl (kI .u8)) S1 w1 v26 y24 ∧ Obo 61 index_Index.fs S1 w1 v36 y31.1 cs37 fp38 ∧ Obo 29 marigraphref08_Index.fs S1 w1 v49 y44.1 cs50 fp51 ∧ (∀ b, b ∈ fp38 → ¬ b ∈ fp51)) ?_ ?_
    · refine cw_region (sv (mvv (.int .i64 y31.2) rfl) (sv (mvv (.int .i64 y44.2) rfl) (sv (rv_neq rfl rfl) (sv (mvv (.bool (y31.2 != y44.2)) rfl) ?_))))
      rcases bif_some h63 with ⟨b64, h63⟩ | ⟨b64, h63⟩
      · refine W.n (gn rfl rfl rfl b64) (W.n (gn rfl rfl rfl b64) (W.n (gn rfl rfl rfl b64) (W.n (gn rfl rfl rfl b64) (W.n (gn rfl rfl rfl b64) (sv (ptk (.bool true) rfl b64 rfl) (W.e ?_))))))
        obtain rfl := osi h63
        exact ⟨_, C, ⟨rfl, rfl, rfl, rfl, rfl, rfl, trivial⟩, h11, g2, g4, h27, h39, h52, (ap_symm p54)⟩
      · refine W.v (gy rfl rfl rfl b64) (mvv v36 rfl) (W.v (gy rfl rfl rfl b64) (rv_nileq Tryz.underlying24 rfl rfl h39.ne) (W.v (gy rfl rfl rfl b64) (mvv v49 rfl) (W.v (gy rfl rfl rfl b64) (rv_nileq Tryz.underlying26 rfl rfl h52.ne) (W.v (gy rfl rfl rfl b64) (rv_bneq Tryz.underlying4 rfl rfl) (sv (pfk (.bool (!(y31.1.isNone == y44.1.isNone))) rfl b64 rfl) (W.e ?_))))))
        obtain rfl := osi h63
        exact ⟨_, C, ⟨rfl, rfl, rfl, rfl, rfl, rfl, trivial⟩, h11, g2, g4, h27, h39, h52, (ap_symm p54)⟩
    · rintro ρ w66 ⟨S65, C, h68, h11, g2, g4, h27, h39, h52, p67⟩
      refine h68.cw fun ρ => ?_
      clear h68
      rcases bif_some h59 with ⟨b69, h59⟩ | ⟨b69, h59⟩
      · refine cw_t rfl b69 ?_
        refine cw_seq fun K70 k71 => ?_
        refine cw_region (sv (asv (.bool false) rfl) (W.e (k71 _ _ (cw_ret ?_))))
        obtain rfl := osi h59
        replace h := h.2 _ rfl
        obtain rfl := osi h
        exact ⟨_, rfl, _, rfl, C⟩
      · refine cw_f rfl b69 (cw_skip ?_)
        obtain rfl := osi h59
        exact ⟨_, rfl, ⟨_, C, ⟨rfl, rfl, rfl, rfl, rfl, trivial⟩, h11, g2, g4, h27, h39, h52, p67⟩⟩
  · rintro ρ w73 ⟨o56n, rfl, ⟨S72, C, h75, h11, g2, g4, h27, h39, h52, p74⟩⟩
    replace h := h.1 _ rfl
    refine h75.cw fun ρ => ?_
    clear h75
    refine cw_seq fun K76 k77 => ?_
    refine cw_seq fun K78 k79 => ?_
    refine cw_region (sv (mvv v49 rfl) (sv (rv_nileq Tryz.underlying26 rfl rfl h52.ne) (W.e (k79 _ _ ?_))))
    rcases bif_some h with ⟨b80, h⟩ | ⟨b80, h⟩
    · refine cw_t rfl b80 ?_
      refine cw_seq fun K81 k82 => ?_
      refine cw_region (sv (mvv (.bool y15) rfl) (sv (asv (.bool y15) rfl) (W.e (k82 _ _ (cw_ret ?_)))))
      obtain rfl := osi h
      exact ⟨_, rfl, _, rfl, C⟩
    · refine cw_f rfl b80 (cw_skip (k77 _ _ ?_))
      obtain ⟨o83, h86, h⟩ := bnd_some h
      refine cw_seq' (fun ρ w1 => ∃ S1, Cx No S w S1 w1 ∧ Has ρ [(4, .bool o83.1)]) ?_ ?_
      · refine cw_drawU (.one 0 true (.one 1 true (.one 2 true (.one 5 true (.two 3 6 (.two 4 6 (.one 6 false (.one 7 true (.one 8 true (.one 9 true (.one 10 true (.one 11 true (.one 12 true (.one 13 false (.one 14 true (.one 15 true (.one 16 true (.one 17 true (.one 18 true (.one 19 false (.one 20 true (.one 21 true .done)))))))))))))))) (.one 4 false (.one 7 true (.one 8 true (.one 9 true (.one 10 true (.one 11 true (.one 12 true (.one 13 false (.one 14 true (.one 15 true (.one 16 true (.one 17 true (.one 18 true (.one 19 false (.one 20 true (.one 21 true .done))))))))))))))))) (.one 3 false (.one 4 false (.one 7 true (.one 8 true (.one 9 true (.one 10 true (.one 11 true (.one 12 true (.one 13 false (.one 14 true (.one 15 true (.one 16 true (.one 17 true (.one 18 true (.one 19 false (.one 20 true (.one 21 true .done)))))))))))))))))))))) [(12, [0]), (18, [0])] [(3, [0]), (4, [0]), (6, [0]), (13, [0]), (19, [0])] (fun c => bif Nat.beq c 0 then S72 else No) fol (by kernel_rfl) fun w87 u88 => ?_
        replace h11 := h11.nw u88
        replace g2 := g2.nw u88
        replace g4 := g4.nw u88
        replace h27 := h27.nw u88
        replace h39 := h39.nw u88
        replace h52 := h52.nw u88
        replace C := C.new u88
        have h11d := h11
        have g2d := g2
        have g4d := g4
        have h27d := h27
        have h39d := h39
        have h52d := h52
        have m89 := Sm.refl S72 w87
        refine mtv rfl rfl (mvv (.bool y15) rfl) (mtv rfl rfl (mvv (.bool y15) rfl) ?_)
        rcases bif_some h86 with ⟨b90, h86⟩ | ⟨b90, h86⟩
        · refine MT.vv rfl rfl (gy rfl rfl rfl b90) (mvv v36 rfl) (MT.vv rfl rfl (gy rfl rfl rfl b90) (mvv v26 rfl) ?_)
          refine MT.two ?_ ?_
          · obtain ⟨y9_3_1, h91, h86⟩ := bnd_some h86
            refine MT.c rfl rfl (gy rfl rfl rfl b90) (dc_call (vs := [v36]) can10 rfl ?_)
            refine (index_Index_Bytes_w C.sb h39 h91).mono ?_
            rintro _ w92 ⟨S93, v95, rfl, c94, h96⟩
            refine ⟨_, rfl, ?_⟩
            have p97 := ap_fresh (fun b hb => (h96.lt b hb).1) (fun b hb => (h39.lt b hb).1)
            have p98 := ap_fresh (fun b hb => (h96.lt b hb).1) (fun b hb => (h52.lt b hb).1)
            replace h96 := h96.base C.up.size
            replace h11 := h11.cx c94
            replace g2 := g2.cx c94
            replace g4 := g4.cx c94
            replace h39 := h39.cx c94
            replace h52 := h52.cx c94
            replace h27 := h27.cx c94
            replace C := C.trans c94
            have z99 := (c94.up).size
            have m100 := m89.nx c94.up (by omega)
            refine ⟨⟨m100, trivial⟩, ?_⟩
            refine MT.two ?_ ?_
            · refine MT.c rfl rfl (gy rfl rfl rfl b90) (Rw.does (rw_str h96.sealed (Sm.refl _ _) Tryz.underlying36 Tryz.underlying5 Tryz.underlying9 rfl) ⟨⟨m100, trivial⟩, MT.c rfl rfl (gy rfl rfl rfl b90) (Rw.does (rw_str h27 (Sm.refl _ _) Tryz.underlying36 Tryz.underlying5 Tryz.underlying9 rfl) ⟨⟨m100, trivial⟩, MT.vv rfl rfl (gy rfl rfl rfl b90) (rv_seql rfl rfl) (mtv rfl rfl (ptk (.bool (strEq (strOf y9_3_1) (strOf y24))) rfl b90 rfl) (mtv rfl rfl (mvv (.bool (strEq (strOf y9_3_1) (strOf y24))) rfl) ?_))⟩)⟩)
              rcases bif_some h86 with ⟨b101, h86⟩ | ⟨b101, h86⟩
              · refine MT.vv rfl rfl (gy rfl rfl rfl b101) (mvv v36 rfl) (MT.vv rfl rfl (gy rfl rfl rfl b101) (mvv v49 rfl) (MT.r rfl rfl (gy rfl rfl rfl b101) ⟨m100, trivial⟩ (fun w' hq => rw_bkA ag34 (h11d.sm hq.1) rfl rfl rfl) ?_))
                obtain ⟨y9_13_1, h102, h86⟩ := bnd_some h86
                have h103 := h52
                rw [h102] at h103
                replace h103 : Ob 29 (marigraphref08_Index.fs y9_13_1) _ _ _ _ _ := h103
                have h103d := h52d
                rw [h102] at h103d
                replace h103d : Ob 29 (marigraphref08_Index.fs y9_13_1) _ _ _ _ _ := h103d
                obtain ⟨y9_13_2, h104, h86⟩ := bnd_some h86
                refine MT.c rfl rfl (gy rfl rfl rfl b101) (dc_call (vs := [v36, v49, .agg (List.toArray [.int .u8 a1.Kind, .int .i64 a1.Id, c1, c3])]) can8 rfl ?_)
                refine (marigraphlaw08_does_w C.sb h39 h103 (marigraphlaw08_Act.o.2 ⟨_, _, rfl, g2, g4⟩) p74 h104).mono ?_
                rintro _ w105 ⟨S106, cs108, fp109, cs112, fp113, rfl, c107, h110, h111, h114, h115, p116⟩
                refine ⟨_, rfl, ?_⟩
                have h117 : ∀ b, b ∈ fp38 ∨ b ∈ fp51 → ¬ S93 b := fun b hb => hb.elim (fun h => (h39.lt b h).2) (fun h => (h103.lt b h).2)
                have h118 : ∀ b, b ∈ fp109 → w.heap.size ≤ b := fun b hb => (h111 b hb).elim (h41 b) (fun hl => Nat.le_trans C.up.size hl)
                have h119 : ∀ b, b ∈ fp113 → w.heap.size ≤ b := fun b hb => (h115 b hb).elim (h55 b) (fun hl => Nat.le_trans C.up.size hl)
                replace h11 := h11.cf c107 h117
                replace g2 := g2.cf c107 h117
                replace g4 := g4.cf c107 h117
                replace C := C.ofc2 c107 (fun b hb => .inr (h41 b hb)) (fun b hb => .inr (h55 b hb))
                have z120 := (c107.up).size
                have m121 := m100.wrC c107.up (by omega) (fun b hb hs => h117 b hb ((fun b h => c94.ge.le b h) b hs))
                refine ⟨⟨m121, trivial⟩, ?_⟩
                refine mtv rfl rfl (ptk (.bool y9_13_2.1) rfl b101 rfl) (mtv rfl rfl (mvv (.bool y9_13_2.1) rfl) ?_)
                rcases bif_some h86 with ⟨b122, h86⟩ | ⟨b122, h86⟩
                · refine MT.vv rfl rfl (gy rfl rfl rfl b122) (mvv v36 rfl) (MT.vv rfl rfl (gy rfl rfl rfl b122) (mvv v49 rfl) (MT.r rfl rfl (gy rfl rfl rfl b122) ⟨m121, trivial⟩ (fun w' hq => rw_bkA ag34 (h11d.sm hq.1) rfl rfl rfl) ?_))
                  obtain ⟨y9_19_1, h123, h86⟩ := bnd_some h86
                  refine MT.c rfl rfl (gy rfl rfl rfl b122) (dc_call (vs := [v36, v49, .agg (List.toArray [.int .u8 a1.Kind, .int .i64 a1.Id, c1, c3])]) can9 rfl ?_)
                  refine (marigraphlaw08_seen_w C.sb h110 h114 (marigraphlaw08_Act.o.2 ⟨_, _, rfl, g2, g4⟩) h123).mono ?_
                  rintro _ w124 ⟨S125, rfl, c126⟩
                  refine ⟨_, rfl, ?_⟩
                  replace C := C.trans c126
                  have z127 := (c126.up).size
                  have m128 := m121.nx c126.up (by omega)
                  refine ⟨⟨m128, trivial⟩, ?_⟩
                  refine mtv rfl rfl (ptk (.bool y9_19_1) rfl b122 rfl) (mtv rfl rfl (asv (.bool y9_19_1) rfl) (MT.e ?_))
                  obtain rfl := osi h86
                  exact ⟨_, C, ⟨rfl, trivial⟩⟩
                · refine MT.n rfl rfl (gn rfl rfl rfl b122) trivial (MT.n rfl rfl (gn rfl rfl rfl b122) trivial (MT.n rfl rfl (gn rfl rfl rfl b122) ⟨m121, trivial⟩ (MT.m rfl rfl (gn rfl rfl rfl b122) ⟨m121, trivial⟩ (mtv rfl rfl (pfk (.bool false) rfl b122 rfl) (mtv rfl rfl (asv (.bool false) rfl) (MT.e ?_))))))
                  obtain rfl := osi h86
                  exact ⟨_, C, ⟨rfl, trivial⟩⟩
              · refine MT.n rfl rfl (gn rfl rfl rfl b101) trivial (MT.n rfl rfl (gn rfl rfl rfl b101) trivial (MT.n rfl rfl (gn rfl rfl rfl b101) ⟨m100, trivial⟩ (MT.m rfl rfl (gn rfl rfl rfl b101) ⟨m100, trivial⟩ (mtv rfl rfl (pfk (.bool false) rfl b101 rfl) (mtv rfl rfl (mvv (.bool false) rfl) (MT.n rfl rfl (gn rfl rfl rfl rfl) trivial (MT.n rfl rfl (gn rfl rfl rfl rfl) trivial (MT.n rfl rfl (gn rfl rfl rfl rfl) ⟨m100, trivial⟩ (MT.m rfl rfl (gn rfl rfl rfl rfl) ⟨m100, trivial⟩ (mtv rfl rfl (pfk (.bool false) rfl rfl rfl) (mtv rfl rfl (asv (.bool false) rfl) ?_)))))))))))
                refine MT.e ?_
                obtain rfl := osi h86
                exact ⟨_, C, ⟨rfl, trivial⟩⟩
            · refine MT.c rfl rfl (gy rfl rfl rfl b90) (Rw.does (rw_str h27 (Sm.refl _ _) Tryz.underlying36 Tryz.underlying5 Tryz.underlying9 rfl) ⟨⟨m100, trivial⟩, MT.c rfl rfl (gy rfl rfl rfl b90) (Rw.does (rw_str h96.sealed (Sm.refl _ _) Tryz.underlying36 Tryz.underlying5 Tryz.underlying9 rfl) ⟨⟨m100, trivial⟩, MT.vv rfl rfl (gy rfl rfl rfl b90) (rv_seql rfl rfl) (mtv rfl rfl (ptk (.bool (strEq (strOf y9_3_1) (strOf y24))) rfl b90 rfl) (mtv rfl rfl (mvv (.bool (strEq (strOf y9_3_1) (strOf y24))) rfl) ?_))⟩)⟩)
              rcases bif_some h86 with ⟨b129, h86⟩ | ⟨b129, h86⟩
              · refine MT.vv rfl rfl (gy rfl rfl rfl b129) (mvv v36 rfl) (MT.vv rfl rfl (gy rfl rfl rfl b129) (mvv v49 rfl) (MT.r rfl rfl (gy rfl rfl rfl b129) ⟨m100, trivial⟩ (fun w' hq => rw_bkA ag34 (h11d.sm hq.1) rfl rfl rfl) ?_))
                obtain ⟨y9_13_1, h130, h86⟩ := bnd_some h86
                have h131 := h52
                rw [h130] at h131
                replace h131 : Ob 29 (marigraphref08_Index.fs y9_13_1) _ _ _ _ _ := h131
                have h131d := h52d
                rw [h130] at h131d
                replace h131d : Ob 29 (marigraphref08_Index.fs y9_13_1) _ _ _ _ _ := h131d
                obtain ⟨y9_13_2, h132, h86⟩ := bnd_some h86
                refine MT.c rfl rfl (gy rfl rfl rfl b129) (dc_call (vs := [v36, v49, .agg (List.toArray [.int .u8 a1.Kind, .int .i64 a1.Id, c1, c3])]) can8 rfl ?_)
                refine (marigraphlaw08_does_w C.sb h39 h131 (marigraphlaw08_Act.o.2 ⟨_, _, rfl, g2, g4⟩) p74 h132).mono ?_
                rintro _ w133 ⟨S134, cs136, fp137, cs140, fp141, rfl, c135, h138, h139, h142, h143, p144⟩
                refine ⟨_, rfl, ?_⟩
                have h145 : ∀ b, b ∈ fp38 ∨ b ∈ fp51 → ¬ S93 b := fun b hb => hb.elim (fun h => (h39.lt b h).2) (fun h => (h131.lt b h).2)
                have h146 : ∀ b, b ∈ fp137 → w.heap.size ≤ b := fun b hb => (h139 b hb).elim (h41 b) (fun hl => Nat.le_trans C.up.size hl)
                have h147 : ∀ b, b ∈ fp141 → w.heap.size ≤ b := fun b hb => (h143 b hb).elim (h55 b) (fun hl => Nat.le_trans C.up.size hl)
                replace h11 := h11.cf c135 h145
                replace g2 := g2.cf c135 h145
                replace g4 := g4.cf c135 h145
                replace C := C.ofc2 c135 (fun b hb => .inr (h41 b hb)) (fun b hb => .inr (h55 b hb))
                have z148 := (c135.up).size
                have m149 := m100.wrC c135.up (by omega) (fun b hb hs => h145 b hb ((fun b h => c94.ge.le b h) b hs))
                refine ⟨⟨m149, trivial⟩, ?_⟩
                refine mtv rfl rfl (ptk (.bool y9_13_2.1) rfl b129 rfl) (mtv rfl rfl (mvv (.bool y9_13_2.1) rfl) ?_)
                rcases bif_some h86 with ⟨b150, h86⟩ | ⟨b150, h86⟩
                · refine MT.vv rfl rfl (gy rfl rfl rfl b150) (mvv v36 rfl) (MT.vv rfl rfl (gy rfl rfl rfl b150) (mvv v49 rfl) (MT.r rfl rfl (gy rfl rfl rfl b150) ⟨m149, trivial⟩ (fun w' hq => rw_bkA ag34 (h11d.sm hq.1) rfl rfl rfl) ?_))
                  obtain ⟨y9_19_1, h151, h86⟩ := bnd_some h86
                  refine MT.c rfl rfl (gy rfl rfl rfl b150) (dc_call (vs := [v36, v49, .agg (List.toArray [.int .u8 a1.Kind, .int .i64 a1.Id, c1, c3])]) can9 rfl ?_)
                  refine (marigraphlaw08_seen_w C.sb h138 h142 (marigraphlaw08_Act.o.2 ⟨_, _, rfl, g2, g4⟩) h151).mono ?_
                  rintro _ w152 ⟨S153, rfl, c154⟩
                  refine ⟨_, rfl, ?_⟩
                  replace C := C.trans c154
                  have z155 := (c154.up).size
                  have m156 := m149.nx c154.up (by omega)
                  refine ⟨⟨m156, trivial⟩, ?_⟩
                  refine mtv rfl rfl (ptk (.bool y9_19_1) rfl b150 rfl) (mtv rfl rfl (asv (.bool y9_19_1) rfl) (MT.e ?_))
                  obtain rfl := osi h86
                  exact ⟨_, C, ⟨rfl, trivial⟩⟩
                · refine MT.n rfl rfl (gn rfl rfl rfl b150) trivial (MT.n rfl rfl (gn rfl rfl rfl b150) trivial (MT.n rfl rfl (gn rfl rfl rfl b150) ⟨m149, trivial⟩ (MT.m rfl rfl (gn rfl rfl rfl b150) ⟨m149, trivial⟩ (mtv rfl rfl (pfk (.bool false) rfl b150 rfl) (mtv rfl rfl (asv (.bool false) rfl) (MT.e ?_))))))
                  obtain rfl := osi h86
                  exact ⟨_, C, ⟨rfl, trivial⟩⟩
              · refine MT.n rfl rfl (gn rfl rfl rfl b129) trivial (MT.n rfl rfl (gn rfl rfl rfl b129) trivial (MT.n rfl rfl (gn rfl rfl rfl b129) ⟨m100, trivial⟩ (MT.m rfl rfl (gn rfl rfl rfl b129) ⟨m100, trivial⟩ (mtv rfl rfl (pfk (.bool false) rfl b129 rfl) (mtv rfl rfl (mvv (.bool false) rfl) (MT.n rfl rfl (gn rfl rfl rfl rfl) trivial (MT.n rfl rfl (gn rfl rfl rfl rfl) trivial (MT.n rfl rfl (gn rfl rfl rfl rfl) ⟨m100, trivial⟩ (MT.m rfl rfl (gn rfl rfl rfl rfl) ⟨m100, trivial⟩ (mtv rfl rfl (pfk (.bool false) rfl rfl rfl) (mtv rfl rfl (asv (.bool false) rfl) ?_)))))))))))
                refine MT.e ?_
                obtain rfl := osi h86
                exact ⟨_, C, ⟨rfl, trivial⟩⟩
          · refine MT.c rfl rfl (gy rfl rfl rfl b90) (Rw.does (rw_str h27 (Sm.refl _ _) Tryz.underlying36 Tryz.underlying5 Tryz.underlying9 rfl) ⟨⟨m89, trivial⟩, ?_⟩)
            obtain ⟨y9_3_1, h157, h86⟩ := bnd_some h86
            refine MT.c rfl rfl (gy rfl rfl rfl b90) (dc_call (vs := [v36]) can10 rfl ?_)
            refine (index_Index_Bytes_w C.sb h39 h157).mono ?_
            rintro _ w158 ⟨S159, v161, rfl, c160, h162⟩
            refine ⟨_, rfl, ?_⟩
            have p163 := ap_fresh (fun b hb => (h162.lt b hb).1) (fun b hb => (h39.lt b hb).1)
            have p164 := ap_fresh (fun b hb => (h162.lt b hb).1) (fun b hb => (h52.lt b hb).1)
            replace h162 := h162.base C.up.size
            replace h11 := h11.cx c160
            replace g2 := g2.cx c160
            replace g4 := g4.cx c160
            replace h39 := h39.cx c160
            replace h52 := h52.cx c160
            replace C := C.trans c160
            have z165 := (c160.up).size
            have m166 := m89.nx c160.up (by omega)
            refine ⟨⟨m166, trivial⟩, ?_⟩
            refine MT.c rfl rfl (gy rfl rfl rfl b90) (Rw.does (rw_str h162.sealed (Sm.refl _ _) Tryz.underlying36 Tryz.underlying5 Tryz.underlying9 rfl) ⟨⟨m166, trivial⟩, MT.vv rfl rfl (gy rfl rfl rfl b90) (rv_seql rfl rfl) (mtv rfl rfl (ptk (.bool (strEq (strOf y9_3_1) (strOf y24))) rfl b90 rfl) (mtv rfl rfl (mvv (.bool (strEq (strOf y9_3_1) (strOf y24))) rfl) ?_))⟩)
            rcases bif_some h86 with ⟨b167, h86⟩ | ⟨b167, h86⟩
            · refine MT.vv rfl rfl (gy rfl rfl rfl b167) (mvv v36 rfl) (MT.vv rfl rfl (gy rfl rfl rfl b167) (mvv v49 rfl) (MT.r rfl rfl (gy rfl rfl rfl b167) ⟨m166, trivial⟩ (fun w' hq => rw_bkA ag34 (h11d.sm hq.1) rfl rfl rfl) ?_))
              obtain ⟨y9_13_1, h168, h86⟩ := bnd_some h86
              have h169 := h52
              rw [h168] at h169
              replace h169 : Ob 29 (marigraphref08_Index.fs y9_13_1) _ _ _ _ _ := h169
              have h169d := h52d
              rw [h168] at h169d
              replace h169d : Ob 29 (marigraphref08_Index.fs y9_13_1) _ _ _ _ _ := h169d
              obtain ⟨y9_13_2, h170, h86⟩ := bnd_some h86
              refine MT.c rfl rfl (gy rfl rfl rfl b167) (dc_call (vs := [v36, v49, .agg (List.toArray [.int .u8 a1.Kind, .int .i64 a1.Id, c1, c3])]) can8 rfl ?_)
              refine (marigraphlaw08_does_w C.sb h39 h169 (marigraphlaw08_Act.o.2 ⟨_, _, rfl, g2, g4⟩) p74 h170).mono ?_
              rintro _ w171 ⟨S172, cs174, fp175, cs178, fp179, rfl, c173, h176, h177, h180, h181, p182⟩
              refine ⟨_, rfl, ?_⟩
              have h183 : ∀ b, b ∈ fp38 ∨ b ∈ fp51 → ¬ S159 b := fun b hb => hb.elim (fun h => (h39.lt b h).2) (fun h => (h169.lt b h).2)
              have h184 : ∀ b, b ∈ fp175 → w.heap.size ≤ b := fun b hb => (h177 b hb).elim (h41 b) (fun hl => Nat.le_trans C.up.size hl)
              have h185 : ∀ b, b ∈ fp179 → w.heap.size ≤ b := fun b hb => (h181 b hb).elim (h55 b) (fun hl => Nat.le_trans C.up.size hl)
              replace h11 := h11.cf c173 h183
              replace g2 := g2.cf c173 h183
              replace g4 := g4.cf c173 h183
              replace C := C.ofc2 c173 (fun b hb => .inr (h41 b hb)) (fun b hb => .inr (h55 b hb))
              have z186 := (c173.up).size
              have m187 := m166.wrC c173.up (by omega) (fun b hb hs => h183 b hb ((fun b h => c160.ge.le b h) b hs))
              refine ⟨⟨m187, trivial⟩, ?_⟩
              refine mtv rfl rfl (ptk (.bool y9_13_2.1) rfl b167 rfl) (mtv rfl rfl (mvv (.bool y9_13_2.1) rfl) ?_)
              rcases bif_some h86 with ⟨b188, h86⟩ | ⟨b188, h86⟩
              · refine MT.vv rfl rfl (gy rfl rfl rfl b188) (mvv v36 rfl) (MT.vv rfl rfl (gy rfl rfl rfl b188) (mvv v49 rfl) (MT.r rfl rfl (gy rfl rfl rfl b188) ⟨m187, trivial⟩ (fun w' hq => rw_bkA ag34 (h11d.sm hq.1) rfl rfl rfl) ?_))
                obtain ⟨y9_19_1, h189, h86⟩ := bnd_some h86
                refine MT.c rfl rfl (gy rfl rfl rfl b188) (dc_call (vs := [v36, v49, .agg (List.toArray [.int .u8 a1.Kind, .int .i64 a1.Id, c1, c3])]) can9 rfl ?_)
                refine (marigraphlaw08_seen_w C.sb h176 h180 (marigraphlaw08_Act.o.2 ⟨_, _, rfl, g2, g4⟩) h189).mono ?_
                rintro _ w190 ⟨S191, rfl, c192⟩
                refine ⟨_, rfl, ?_⟩
                replace C := C.trans c192
                have z193 := (c192.up).size
                have m194 := m187.nx c192.up (by omega)
                refine ⟨⟨m194, trivial⟩, ?_⟩
                refine mtv rfl rfl (ptk (.bool y9_19_1) rfl b188 rfl) (mtv rfl rfl (asv (.bool y9_19_1) rfl) (MT.e ?_))
                obtain rfl := osi h86
                exact ⟨_, C, ⟨rfl, trivial⟩⟩
              · refine MT.n rfl rfl (gn rfl rfl rfl b188) trivial (MT.n rfl rfl (gn rfl rfl rfl b188) trivial (MT.n rfl rfl (gn rfl rfl rfl b188) ⟨m187, trivial⟩ (MT.m rfl rfl (gn rfl rfl rfl b188) ⟨m187, trivial⟩ (mtv rfl rfl (pfk (.bool false) rfl b188 rfl) (mtv rfl rfl (asv (.bool false) rfl) (MT.e ?_))))))
                obtain rfl := osi h86
                exact ⟨_, C, ⟨rfl, trivial⟩⟩
            · refine MT.n rfl rfl (gn rfl rfl rfl b167) trivial (MT.n rfl rfl (gn rfl rfl rfl b167) trivial (MT.n rfl rfl (gn rfl rfl rfl b167) ⟨m166, trivial⟩ (MT.m rfl rfl (gn rfl rfl rfl b167) ⟨m166, trivial⟩ (mtv rfl rfl (pfk (.bool false) rfl b167 rfl) (mtv rfl rfl (mvv (.bool false) rfl) (MT.n rfl rfl (gn rfl rfl rfl rfl) trivial (MT.n rfl rfl (gn rfl rfl rfl rfl) trivial (MT.n rfl rfl (gn rfl rfl rfl rfl) ⟨m166, trivial⟩ (MT.m rfl rfl (gn rfl rfl rfl rfl) ⟨m166, trivial⟩ (mtv rfl rfl (pfk (.bool false) rfl rfl rfl) (mtv rfl rfl (asv (.bool false) rfl) ?_)))))))))))
              refine MT.e ?_
              obtain rfl := osi h86
              exact ⟨_, C, ⟨rfl, trivial⟩⟩
        · refine MT.n rfl rfl (gn rfl rfl rfl b90) trivial (MT.n rfl rfl (gn rfl rfl rfl b90) trivial ?_)
          refine MT.two ?_ ?_
          · refine MT.m rfl rfl (gn rfl rfl rfl b90) ⟨m89, trivial⟩ ?_
            refine MT.two ?_ ?_
            · refine MT.m rfl rfl (gn rfl rfl rfl b90) ⟨m89, trivial⟩ (MT.m rfl rfl (gn rfl rfl rfl b90) ⟨m89, trivial⟩ (MT.n rfl rfl (gn rfl rfl rfl b90) trivial (mtv rfl rfl (pfk (.bool false) rfl b90 rfl) (mtv rfl rfl (mvv (.bool false) rfl) (MT.n rfl rfl (gn rfl rfl rfl rfl) trivial (MT.n rfl rfl (gn rfl rfl rfl rfl) trivial (MT.n rfl rfl (gn rfl rfl rfl rfl) ⟨m89, trivial⟩ (MT.m rfl rfl (gn rfl rfl rfl rfl) ⟨m89, trivial⟩ (mtv rfl rfl (pfk (.bool false) rfl rfl rfl) (mtv rfl rfl (mvv (.bool false) rfl) (MT.n rfl rfl (gn rfl rfl rfl rfl) trivial ?_)))))))))))
              refine MT.n rfl rfl (gn rfl rfl rfl rfl) trivial (MT.n rfl rfl (gn rfl rfl rfl rfl) ⟨m89, trivial⟩ (MT.m rfl rfl (gn rfl rfl rfl rfl) ⟨m89, trivial⟩ (mtv rfl rfl (pfk (.bool false) rfl rfl rfl) (mtv rfl rfl (asv (.bool false) rfl) (MT.e ?_)))))
              obtain rfl := osi h86
              exact ⟨_, C, ⟨rfl, trivial⟩⟩
            · refine MT.m rfl rfl (gn rfl rfl rfl b90) ⟨m89, trivial⟩ (MT.m rfl rfl (gn rfl rfl rfl b90) ⟨m89, trivial⟩ (MT.n rfl rfl (gn rfl rfl rfl b90) trivial (mtv rfl rfl (pfk (.bool false) rfl b90 rfl) (mtv rfl rfl (mvv (.bool false) rfl) (MT.n rfl rfl (gn rfl rfl rfl rfl) trivial (MT.n rfl rfl (gn rfl rfl rfl rfl) trivial (MT.n rfl rfl (gn rfl rfl rfl rfl) ⟨m89, trivial⟩ (MT.m rfl rfl (gn rfl rfl rfl rfl) ⟨m89, trivial⟩ (mtv rfl rfl (pfk (.bool false) rfl rfl rfl) (mtv rfl rfl (mvv (.bool false) rfl) (MT.n rfl rfl (gn rfl rfl rfl rfl) trivial ?_)))))))))))
              refine MT.n rfl rfl (gn rfl rfl rfl rfl) trivial (MT.n rfl rfl (gn rfl rfl rfl rfl) ⟨m89, trivial⟩ (MT.m rfl rfl (gn rfl rfl rfl rfl) ⟨m89, trivial⟩ (mtv rfl rfl (pfk (.bool false) rfl rfl rfl) (mtv rfl rfl (asv (.bool false) rfl) (MT.e ?_)))))
              obtain rfl := osi h86
              exact ⟨_, C, ⟨rfl, trivial⟩⟩
          · refine MT.m rfl rfl (gn rfl rfl rfl b90) ⟨m89, trivial⟩ (MT.m rfl rfl (gn rfl rfl rfl b90) ⟨m89, trivial⟩ (MT.m rfl rfl (gn rfl rfl rfl b90) ⟨m89, trivial⟩ (MT.n rfl rfl (gn rfl rfl rfl b90) trivial (mtv rfl rfl (pfk (.bool false) rfl b90 rfl) (mtv rfl rfl (mvv (.bool false) rfl) (MT.n rfl rfl (gn rfl rfl rfl rfl) trivial (MT.n rfl rfl (gn rfl rfl rfl rfl) trivial (MT.n rfl rfl (gn rfl rfl rfl rfl) ⟨m89, trivial⟩ (MT.m rfl rfl (gn rfl rfl rfl rfl) ⟨m89, trivial⟩ (mtv rfl rfl (pfk (.bool false) rfl rfl rfl) (mtv rfl rfl (mvv (.bool false) rfl) ?_)))))))))))
            refine MT.n rfl rfl (gn rfl rfl rfl rfl) trivial (MT.n rfl rfl (gn rfl rfl rfl rfl) trivial (MT.n rfl rfl (gn rfl rfl rfl rfl) ⟨m89, trivial⟩ (MT.m rfl rfl (gn rfl rfl rfl rfl) ⟨m89, trivial⟩ (mtv rfl rfl (pfk (.bool false) rfl rfl rfl) (mtv rfl rfl (asv (.bool false) rfl) (MT.e ?_))))))
            obtain rfl := osi h86
            exact ⟨_, C, ⟨rfl, trivial⟩⟩
      · rintro ρ w196 ⟨S195, C, h197⟩
        refine h197.cw fun ρ => ?_
        clear h197
        refine cw_ret ?_
        obtain rfl := osi h
        exact ⟨_, rfl, _, rfl, C⟩

end Go.Proofs.YtikdgllagijidaaGreat
