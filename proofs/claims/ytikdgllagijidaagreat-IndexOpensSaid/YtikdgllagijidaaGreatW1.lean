/- What each function computes, and that the program computes it (part 1). Printed by gen.py, a program of this session. -/
import Derived.Test.YtikdgllagijidaaGreatW0
set_option linter.unusedVariables false
set_option maxRecDepth 100000
set_option maxHeartbeats 4000000
namespace Go.Proofs.YtikdgllagijidaaGreat
open Go Go.Mg
noncomputable def match_One (a0 : api_Ask) (a1 : List api_Label) : Option Bool :=
  ((label_Get a1 a0.Name).bind fun y11 => ((bif (a0.Op == (2 : Int)) then ((bif (!y11.2) then some true else some (!strEq y11.1 a0.Val)).bind fun o25 => some (.inr o25)) else (bif (a0.Op == (1 : Int)) then (bif y11.2 then some (.inl (strEq y11.1 a0.Val)) else some (.inl false)) else (bif (a0.Op == (3 : Int)) then (bif y11.2 then ((strings_HasPrefix y11.1 a0.Val).bind fun y41 => some (.inl y41)) else some (.inl false)) else (bif (a0.Op == (4 : Int)) then some (.inl y11.2) else some (.inr false))))).bind (Sum.elim (fun o16n => some o16n) (fun q => some q))))
theorem match_One_w {S : Nat → Prop} {w : World} {a0 : api_Ask} {a1 : List api_Label} {v0 v1 : Value} {r : Bool} (hS : Sb S w) (h0 : Sl api_Ask.k S w v0 a0) (h1 : Sl (kSl api_Label.k) S w v1 a1) (h : match_One a0 a1 = some r) :
    Calls Tryz.prog 80 (List.toArray [v0, v1]) w fun e w1 => ∃ S1, e = .returned (.bool r) ∧ Cx No S w S1 w1 := by
  refine enter Tryz.func80 rfl (by kernel_rfl) rfl ?_
  have C := Cx.refl (F := No) hS
  unfold match_One at h
  obtain rfl := api_Ask.o.1 h0
  refine cw_seq fun K1 k2 => ?_
  refine cw_region ?_
  refine sc (dc_boxS C.sb rfl fun b3 S4 w5 c6 h7 => ?_)
  replace h1 := h1.cx c6
  replace C := C.trans c6
  refine sv (asv (.bool false) rfl) (W.e (k2 _ _ ?_))
  refine cw_seq fun K9 k10 => ?_
  refine cw_region (sv (mvv v1 rfl) (sv (rv_fieldAddr st53 rfl rfl) (sr (rw_bk ag9 h7.2 rfl rfl) ?_)))
  obtain ⟨y11, h12, h⟩ := bnd_some h
  refine sc (dc_call (vs := [v1, .string a0.Name]) can97 rfl ?_)
  refine (label_Get_w C.sb h1 h12).mono ?_
  rintro _ w13 ⟨S14, rfl, c15⟩
  refine ⟨_, rfl, ?_⟩
  replace h7 := h7.cx c15
  replace C := C.trans c15
  refine sv (mvv (.tuple (List.toArray [.string y11.1, .bool y11.2])) rfl) (sv (rv_extract rfl rfl) (sv (rv_extract rfl rfl) (sv (asv (.string y11.1) rfl) (sv (asv (.bool y11.2) rfl) (W.e (k10 _ _ ?_))))))
  obtain ⟨o16, h19, h⟩ := bnds_some h
  refine cw_seq' (fun ρ w1 => ∃ o16n, o16 = (.inl o16n) ∧ ∃ S1, Cx No S w S1 w1 ∧ Has ρ [(6, .bool o16n)]) ?_ ?_
  · refine cw_seq fun K20 k21 => ?_
    refine cw_region (sv (rv_fieldAddr st53 rfl rfl) (sr (rw_bk ag5 h7.2 rfl rfl) (W.e (k21 _ _ (cw_block ?_)))))
    refine cw_seq fun K22 k23 => ?_
    refine cw_region (sv (rv_eql rfl rfl) (sv (asv (.bool (a0.Op == (2 : Int))) rfl) (W.e (k23 _ _ ?_))))
    rcases bif_some h19 with ⟨b24, h19⟩ | ⟨b24, h19⟩
    · refine cw_t rfl b24 ?_
      obtain ⟨o25, h28, h19⟩ := bnd_some h19
      refine cw_seq' (fun ρ w1 => ∃ S1, Cx No S w S1 w1 ∧ Has ρ [(4, .bool o25)]) ?_ ?_
      · refine cw_region (sv (mvv (.bool y11.2) rfl) (sv (rv_not rfl) (sv (mvv (.bool (!y11.2)) rfl) ?_)))
        rcases bif_some h28 with ⟨b29, h28⟩ | ⟨b29, h28⟩
        · refine W.n (gn rfl rfl rfl b29) (W.n (gn rfl rfl rfl b29) (W.n (gn rfl rfl rfl b29) (W.n (gn rfl rfl rfl b29) (sv (ptk (.bool true) rfl b29 rfl) (sv (asv (.bool true) rfl) (W.e ?_))))))
          obtain rfl := osi h28
          exact ⟨_, C, ⟨rfl, trivial⟩⟩
        · refine W.v (gy rfl rfl rfl b29) (mvv (.string y11.1) rfl) (W.v (gy rfl rfl rfl b29) (rv_fieldAddr st53 rfl rfl) (W.r (gy rfl rfl rfl b29) (rw_bk ag9 h7.2 rfl rfl) (W.v (gy rfl rfl rfl b29) (rv_sneq rfl rfl) (sv (pfk (.bool (!strEq y11.1 a0.Val)) rfl b29 rfl) (sv (asv (.bool (!strEq y11.1 a0.Val)) rfl) (W.e ?_))))))
          obtain rfl := osi h28
          exact ⟨_, C, ⟨rfl, trivial⟩⟩
      · rintro ρ w31 ⟨S30, C, h32⟩
        refine h32.cw fun ρ => ?_
        clear h32
        refine cw_ret ?_
        obtain rfl := osi h19
        replace h := h.2 _ rfl
        obtain rfl := osi h
        exact ⟨_, rfl, _, rfl, C⟩
    · refine cw_f rfl b24 ?_
      refine cw_seq fun K33 k34 => ?_
      refine cw_region (sv (rv_eql rfl rfl) (sv (asv (.bool (a0.Op == (1 : Int))) rfl) (W.e (k34 _ _ ?_))))
      rcases bif_some h19 with ⟨b35, h19⟩ | ⟨b35, h19⟩
      · refine cw_t rfl b35 (cw_region (sv (mvv (.bool y11.2) rfl) (sv (mvv (.bool y11.2) rfl) ?_)))
        rcases bif_some h19 with ⟨b36, h19⟩ | ⟨b36, h19⟩
        · refine W.v (gy rfl rfl rfl b36) (mvv (.string y11.1) rfl) (W.v (gy rfl rfl rfl b36) (rv_fieldAddr st53 rfl rfl) (W.r (gy rfl rfl rfl b36) (rw_bk ag9 h7.2 rfl rfl) (W.v (gy rfl rfl rfl b36) (rv_seql rfl rfl) (sv (ptk (.bool (strEq y11.1 a0.Val)) rfl b36 rfl) (sv (asv (.bool (strEq y11.1 a0.Val)) rfl) (W.e ?_))))))
          obtain rfl := osi h19
          exact ⟨_, rfl, ⟨_, C, ⟨rfl, trivial⟩⟩⟩
        · refine W.n (gn rfl rfl rfl b36) (W.n (gn rfl rfl rfl b36) (W.n (gn rfl rfl rfl b36) (W.n (gn rfl rfl rfl b36) (sv (pfk (.bool false) rfl b36 rfl) (sv (asv (.bool false) rfl) (W.e ?_))))))
          obtain rfl := osi h19
          exact ⟨_, rfl, ⟨_, C, ⟨rfl, trivial⟩⟩⟩
      · refine cw_f rfl b35 ?_
        refine cw_seq fun K37 k38 => ?_
        refine cw_region (sv (rv_eql rfl rfl) (sv (asv (.bool (a0.Op == (3 : Int))) rfl) (W.e (k38 _ _ ?_))))
        rcases bif_some h19 with ⟨b39, h19⟩ | ⟨b39, h19⟩
        · refine cw_t rfl b39 (cw_region (sv (mvv (.bool y11.2) rfl) (sv (mvv (.bool y11.2) rfl) ?_)))
          rcases bif_some h19 with ⟨b40, h19⟩ | ⟨b40, h19⟩
          · refine W.v (gy rfl rfl rfl b40) (mvv (.string y11.1) rfl) (W.v (gy rfl rfl rfl b40) (rv_fieldAddr st53 rfl rfl) (W.r (gy rfl rfl rfl b40) (rw_bk ag9 h7.2 rfl rfl) ?_))
            obtain ⟨y41, h42, h19⟩ := bnd_some h19
            refine W.c (gy rfl rfl rfl b40) (dc_call (vs := [.string y11.1, .string a0.Val]) can98 rfl ?_)
            refine (strings_HasPrefix_w C.sb  h42).mono ?_
            rintro _ w43 ⟨S44, rfl, c45⟩
            refine ⟨_, rfl, ?_⟩
            replace C := C.trans c45
            refine sv (ptk (.bool y41) rfl b40 rfl) (sv (asv (.bool y41) rfl) (W.e ?_))
            obtain rfl := osi h19
            exact ⟨_, rfl, ⟨_, C, ⟨rfl, trivial⟩⟩⟩
          · refine W.n (gn rfl rfl rfl b40) (W.n (gn rfl rfl rfl b40) (W.n (gn rfl rfl rfl b40) (W.n (gn rfl rfl rfl b40) (sv (pfk (.bool false) rfl b40 rfl) (sv (asv (.bool false) rfl) (W.e ?_))))))
            obtain rfl := osi h19
            exact ⟨_, rfl, ⟨_, C, ⟨rfl, trivial⟩⟩⟩
        · refine cw_f rfl b39 ?_
          refine cw_seq fun K46 k47 => ?_
          refine cw_region (sv (rv_eql rfl rfl) (sv (asv (.bool (a0.Op == (4 : Int))) rfl) (W.e (k47 _ _ ?_))))
          rcases bif_some h19 with ⟨b48, h19⟩ | ⟨b48, h19⟩
          · refine cw_t rfl b48 (cw_skip ?_)
            obtain rfl := osi h19
            exact ⟨_, rfl, ⟨_, C, ⟨rfl, trivial⟩⟩⟩
          · refine cw_f rfl b48 ?_
            refine cw_seq fun K49 k50 => ?_
            refine cw_region (sv (asv (.bool false) rfl) (W.e (k50 _ _ (cw_ret ?_))))
            obtain rfl := osi h19
            replace h := h.2 _ rfl
            obtain rfl := osi h
            exact ⟨_, rfl, _, rfl, C⟩
  · rintro ρ w52 ⟨o16n, rfl, ⟨S51, C, h53⟩⟩
    replace h := h.1 _ rfl
    refine h53.cw fun ρ => ?_
    clear h53
    refine cw_seq fun K54 k55 => ?_
    refine cw_region (sv (mvv (.bool o16n) rfl) (sv (asv (.bool o16n) rfl) (W.e (k55 _ _ (cw_ret ?_)))))
    obtain rfl := osi h
    exact ⟨_, rfl, _, rfl, C⟩

noncomputable def index_Index_one_1 (a0 : Int) (q0 : api_Ask) (q1 : index_Index) : Option Bool :=
  ((match_One q0 ((mget a0 q1.series).getD ([] : List api_Label))).bind fun y15 => some (!y15))
theorem index_Index_one_1_w {S : Nat → Prop} {w : World} {a0 : Int} {q0 : api_Ask} {q1 : index_Index} {vq1 : Value} {bb0 : Nat} {csq1 : List Value} {fpq1 : List Nat} {bb1 : Nat} {r : Bool} (hS : Sb S w) (hb0 : Bs S w bb0 [.int .u8 q0.Op, .string q0.Name, .string q0.Val] 53) (hq1 : Ob 61 (index_Index.fs q1) S w vq1 csq1 fpq1) (hb1 : Bs S w bb1 [vq1] 24) (h : index_Index_one_1 a0 q0 q1 = some r) :
    Calls Tryz.prog 79 (List.toArray [.int .i64 a0, .pointer (some ⟨bb0, 0, none⟩), .pointer (some ⟨bb1, 0, none⟩)]) w fun e w1 => ∃ S1, e = .returned (.bool r) ∧ Cx No S w S1 w1 := by
  refine enter Tryz.func79 rfl (by kernel_rfl) rfl ?_
  have C := Cx.refl (F := No) hS
  unfold index_Index_one_1 at h
  have hlq1 : ∀ b ∈ fpq1, b < w.heap.size := fun b hb => (hq1.lt b hb).1
  refine cw_seq fun K1 k2 => ?_
  refine cw_region (sv (asv (.bool false) rfl) (W.e (k2 _ _ ?_)))
  refine cw_seq fun K3 k4 => ?_
  refine cw_drawU (.one 0 true (.one 1 true (.one 2 true (.one 3 true (.one 4 true (.one 5 true (.one 6 true (.one 7 false (.one 8 true (.one 9 true .done)))))))))) [(0, [9]), (1, [9]), (4, [9]), (6, [9])] [(7, [9])] (fun c => bif Nat.beq c 9 then (fun _ => True) else No) fol (by kernel_rfl) fun w5 u6 => ?_
  replace hb0 := hb0.nw u6
  replace hb1 := hb1.nw u6
  replace hq1 := hq1.nw u6
  replace C := C.new u6
  have hb0d := hb0
  have hb1d := hb1
  have hq1d := hq1
  have m7 := Sm.refl (fun _ => True) w5
  refine mtr rfl rfl ⟨m7, trivial⟩ (fun w' hq => rw_bkA ag53 (hb0.sm (hq.1.mono fun _ _ => trivial)) rfl rfl rfl) (mtr rfl rfl ⟨m7, trivial⟩ (fun w' hq => rw_bk ag24 (hb1.sm (hq.1.mono fun _ _ => trivial)) rfl rfl) (mtv rfl rfl (rv_nilcheck rfl hq1.ptr) (mtv rfl rfl (rv_fieldAddr (b := pb vq1) (o := 0) st61 rfl hq1.ptr) ?_)))
  obtain ⟨c8, h9⟩ := hq1.at (i := 0) rfl
  refine mtr rfl rfl ⟨m7, trivial⟩ (fun w' hq => rw_ofieldU (i := 0) (c := c8) hq1 (hq.1.mono fun _ _ => trivial) ag56 h9 rfl) (mtv rfl rfl (mvv (.int .i64 a0) rfl) ?_)
  obtain ⟨_, h10, h11⟩ := Ob.rep hq1 (i := 0) rfl h9
  obtain ⟨v12, h13, h14⟩ := rep_look (P := Tryz.prog) (tm := 56) (te := 31) (y0 := ([] : List api_Label)) h10 Tryz.underlying56 zv31 (sl_nil _ _ _) a0
  refine mtr rfl rfl ⟨m7, trivial⟩ (fun w' hq => (h14 (hq.1.mono fun _ _ => trivial) rfl rfl).1) ?_
  obtain ⟨y15, h16, h⟩ := bnd_some h
  refine mtc rfl rfl (dc_call (vs := [.agg (List.toArray [.int .u8 q0.Op, .string q0.Name, .string q0.Val]), v12]) can80 rfl ?_)
  refine (match_One_w C.sb ((api_Ask.o (x := q0)).2 rfl) h13 h16).mono ?_
  rintro _ w17 ⟨S18, rfl, c19⟩
  refine ⟨_, rfl, ?_⟩
  replace C := C.trans c19
  have z20 := (c19.up).size
  have m21 := m7.nx c19.up (by omega)
  refine ⟨⟨m21, trivial⟩, ?_⟩
  refine mtv rfl rfl (rv_not rfl) (mtv rfl rfl (asv (.bool (!y15)) rfl) (MT.e (k4 _ _ (cw_ret ?_))))
  obtain rfl := osi h
  exact ⟨_, rfl, _, rfl, C⟩

noncomputable def index_Index_one (a0 : index_Index) (a1 : api_Ask) : Option (List Int) :=
  (bif (a1.Op == (1 : Int)) then some ((mget (api_Label.mk a1.Name a1.Val) a0.posts).getD ([] : List Int)) else (bif (a1.Op == (2 : Int)) then ((index_Index_all a0).bind fun y61 => ((post_Minus y61 ((mget (api_Label.mk a1.Name a1.Val) a0.posts).getD ([] : List Int))).bind fun y70 => some y70.1)) else (bif (a1.Op == (4 : Int)) then some ((mget a1.Name a0.names).getD ([] : List Int)) else ((slices_Clone_int_int ((mget a1.Name a0.names).getD ([] : List Int))).bind fun y88 => ((delF_ (fun x => index_Index_one_1 x a1 a0) y88).bind fun y96 => some y96)))))
theorem index_Index_one_w {S : Nat → Prop} {w : World} {a0 : index_Index} {a1 : api_Ask} {v0 v1 : Value} {cs0 : List Value} {fp0 : List Nat} {r : (List Int)} (hS : Sb S w) (h0 : Ob 61 (index_Index.fs a0) S w v0 cs0 fp0) (h1 : Sl api_Ask.k S w v1 a1) (h : index_Index_one a0 a1 = some r) :
    Calls Tryz.prog 50 (List.toArray [v0, v1]) w fun e w1 => ∃ S1 u0, e = .returned (u0) ∧ Cx No S w S1 w1 ∧ Sl (kSl (kI .i64)) S1 w1 u0 r := by
  refine enter Tryz.func50 rfl (by kernel_rfl) rfl ?_
  have C := Cx.refl (F := No) hS
  unfold index_Index_one at h
  have hl0 : ∀ b ∈ fp0, b < w.heap.size := fun b hb => (h0.lt b hb).1
  obtain rfl := api_Ask.o.1 h1
  refine cw_seq fun K1 k2 => ?_
  refine cw_region ?_
  refine sc (dc_boxS C.sb h0.cells1 fun b3 S4 w5 c6 h7 => ?_)
  replace h0 := h0.cx c6
  replace C := C.trans c6
  refine sc (dc_boxS C.sb rfl fun b9 S10 w11 c12 h13 => ?_)
  replace h7 := h7.cx c12
  replace h0 := h0.cx c12
  replace C := C.trans c12
  refine sv (asv (.slice none 0 0) rfl) (W.e (k2 _ _ ?_))
  refine cw_seq fun K15 k16 => ?_
  refine cw_drawU (.one 0 true (.one 1 true (.one 2 true (.one 3 true (.one 4 true (.one 5 true (.one 6 true (.one 7 true .done)))))))) [(0, [9]), (3, [9]), (5, [9]), (6, [9])] [] (fun c => bif Nat.beq c 9 then (fun _ => True) else No) fol (by kernel_rfl) fun w17 u18 => ?_
  replace h7 := h7.nw u18
  replace h0 := h0.nw u18
  replace h13 := h13.nw u18
  replace C := C.new u18
  have m19 := Sm.refl (fun _ => True) w17
  refine mtr rfl rfl ⟨m19, trivial⟩ (fun w' hq => rw_bk ag24 (h7.sm (hq.1.mono fun _ _ => trivial)) rfl rfl) (mtv rfl rfl (rv_nilcheck rfl h0.ptr) (mtv rfl rfl (rv_fieldAddr (b := pb v0) (o := 0) st61 rfl h0.ptr) ?_))
  obtain ⟨c20, h21⟩ := h0.at (i := 3) rfl
  refine mtr rfl rfl ⟨m19, trivial⟩ (fun w' hq => rw_ofieldU (i := 3) (c := c20) h0 (hq.1.mono fun _ _ => trivial) ag59 h21 rfl) (mtv rfl rfl (rv_fieldAddr st53 rfl rfl) (mtr rfl rfl ⟨m19, trivial⟩ (fun w' hq => rw_bk ag9 (h13.sm (hq.1.mono fun _ _ => trivial)) rfl rfl) ?_))
  obtain ⟨_, h22, h23⟩ := Ob.rep h0 (i := 3) rfl h21
  obtain ⟨v24, h25, h26⟩ := rep_look (P := Tryz.prog) (tm := 59) (te := 49) (y0 := ([] : List Int)) h22 Tryz.underlying59 zv49 (sl_nil _ _ _) a1.Name
  refine mtr rfl rfl ⟨m19, trivial⟩ (fun w' hq => (h26 (hq.1.mono fun _ _ => trivial) rfl rfl).1) (mtv rfl rfl (asv v24 rfl) (MT.e (k16 _ _ ?_)))
  refine cw_seq fun K27 k28 => ?_
  refine cw_seq fun K29 k30 => ?_
  refine cw_region (sv (rv_fieldAddr st53 rfl rfl) (sr (rw_bk ag5 h13.2 rfl rfl) (W.e (k30 _ _ (cw_block ?_)))))
  refine cw_seq fun K31 k32 => ?_
  refine cw_region (sv (rv_eql rfl rfl) (sv (asv (.bool (a1.Op == (1 : Int))) rfl) (W.e (k32 _ _ ?_))))
  rcases bif_some h with ⟨b33, h⟩ | ⟨b33, h⟩
  · refine cw_t rfl b33 ?_
    refine cw_seq fun K34 k35 => ?_
    refine cw_drawU (.one 0 true (.one 1 true (.one 2 true (.one 3 true (.one 4 true (.one 5 true (.one 6 true (.one 7 true (.one 8 true (.one 9 true (.one 10 true .done))))))))))) [(0, [9]), (3, [9]), (5, [9]), (7, [9]), (9, [9])] [] (fun c => bif Nat.beq c 9 then (fun _ => True) else No) fol (by kernel_rfl) fun w36 u37 => ?_
    replace h7 := h7.nw u37
    replace h0 := h0.nw u37
    replace h13 := h13.nw u37
    replace C := C.new u37
    have m38 := Sm.refl (fun _ => True) w36
    refine mtr rfl rfl ⟨m38, trivial⟩ (fun w' hq => rw_bk ag24 (h7.sm (hq.1.mono fun _ _ => trivial)) rfl rfl) (mtv rfl rfl (rv_nilcheck rfl h0.ptr) (mtv rfl rfl (rv_fieldAddr (b := pb v0) (o := 0) st61 rfl h0.ptr) ?_))
    obtain ⟨c39, h40⟩ := h0.at (i := 2) rfl
    refine mtr rfl rfl ⟨m38, trivial⟩ (fun w' hq => rw_ofieldU (i := 2) (c := c39) h0 (hq.1.mono fun _ _ => trivial) ag58 h40 rfl) (mtv rfl rfl (rv_fieldAddr st53 rfl rfl) (mtr rfl rfl ⟨m38, trivial⟩ (fun w' hq => rw_bk ag9 (h13.sm (hq.1.mono fun _ _ => trivial)) rfl rfl) (mtv rfl rfl (rv_fieldAddr st53 rfl rfl) (mtr rfl rfl ⟨m38, trivial⟩ (fun w' hq => rw_bk ag9 (h13.sm (hq.1.mono fun _ _ => trivial)) rfl rfl) (mtv rfl rfl (rv_build (r := [.string a1.Name, .string a1.Val]) st46 zr46 rfl) ?_)))))
    obtain ⟨_, h41, h42⟩ := Ob.rep h0 (i := 2) rfl h40
    obtain ⟨v43, h44, h45⟩ := rep_look (P := Tryz.prog) (tm := 58) (te := 49) (y0 := ([] : List Int)) h41 Tryz.underlying58 zv49 (sl_nil _ _ _) (api_Label.mk a1.Name a1.Val)
    refine mtr rfl rfl ⟨m38, trivial⟩ (fun w' hq => (h45 (hq.1.mono fun _ _ => trivial) rfl rfl).1) (mtv rfl rfl (asv v43 rfl) (MT.e (k35 _ _ (cw_ret ?_))))
    obtain rfl := osi h
    exact ⟨_, rfl, _, _, rfl, C, h44⟩
  · refine cw_f rfl b33 ?_
    refine cw_seq fun K46 k47 => ?_
    refine cw_region (sv (rv_eql rfl rfl) (sv (asv (.bool (a1.Op == (2 : Int))) rfl) (W.e (k47 _ _ ?_))))
    rcases bif_some h with ⟨b48, h⟩ | ⟨b48, h⟩
    · refine cw_t rfl b48 ?_
      refine cw_seq fun K49 k50 => ?_
      refine cw_drawU (.one 0 true (.one 2 true (.one 3 true (.one 4 true (.one 5 true (.one 6 true (.one 7 true (.one 8 true (.one 9 true (.one 10 true (.one 11 true (.one 1 false (.one 12 false (.one 13 true (.one 14 true (.one 15 true (.one 16 true (.one 17 true .done)))))))))))))))))) [(0, [9]), (2, [9]), (5, [9]), (7, [9]), (9, [9]), (11, [9])] [(1, [9]), (12, [9])] (fun c => bif Nat.beq c 9 then (fun _ => True) else No) fol (by kernel_rfl) fun w51 u52 => ?_
      replace h7 := h7.nw u52
      replace h0 := h0.nw u52
      replace h13 := h13.nw u52
      replace C := C.new u52
      have h7d := h7
      have h0d := h0
      have h13d := h13
      have m53 := Sm.refl (fun _ => True) w51
      refine mtr rfl rfl ⟨m53, trivial⟩ (fun w' hq => rw_bk ag24 (h7.sm (hq.1.mono fun _ _ => trivial)) rfl rfl) (mtr rfl rfl ⟨m53, trivial⟩ (fun w' hq => rw_bk ag24 (h7.sm (hq.1.mono fun _ _ => trivial)) rfl rfl) (mtv rfl rfl (rv_nilcheck rfl h0.ptr) (mtv rfl rfl (rv_fieldAddr (b := pb v0) (o := 0) st61 rfl h0.ptr) ?_)))
      obtain ⟨c54, h55⟩ := h0.at (i := 2) rfl
      refine mtr rfl rfl ⟨m53, trivial⟩ (fun w' hq => rw_ofieldU (i := 2) (c := c54) h0 (hq.1.mono fun _ _ => trivial) ag58 h55 rfl) (mtv rfl rfl (rv_fieldAddr st53 rfl rfl) (mtr rfl rfl ⟨m53, trivial⟩ (fun w' hq => rw_bk ag9 (h13.sm (hq.1.mono fun _ _ => trivial)) rfl rfl) (mtv rfl rfl (rv_fieldAddr st53 rfl rfl) (mtr rfl rfl ⟨m53, trivial⟩ (fun w' hq => rw_bk ag9 (h13.sm (hq.1.mono fun _ _ => trivial)) rfl rfl) (mtv rfl rfl (rv_build (r := [.string a1.Name, .string a1.Val]) st46 zr46 rfl) ?_)))))
      obtain ⟨_, h56, h57⟩ := Ob.rep h0 (i := 2) rfl h55
      obtain ⟨v58, h59, h60⟩ := rep_look (P := Tryz.prog) (tm := 58) (te := 49) (y0 := ([] : List Int)) h56 Tryz.underlying58 zv49 (sl_nil _ _ _) (api_Label.mk a1.Name a1.Val)
      refine mtr rfl rfl ⟨m53, trivial⟩ (fun w' hq => (h60 (hq.1.mono fun _ _ => trivial) rfl rfl).1) ?_
      obtain ⟨y61, h62, h⟩ := bnd_some h
      refine mtc rfl rfl (dc_call (vs := [v0]) can34 rfl ?_)
      refine (index_Index_all_w C.sb h0 h62).mono ?_
      rintro _ w63 ⟨S64, v66, rfl, c65, h67⟩
      refine ⟨_, rfl, ?_⟩
      replace h67 := h67.base C.up.size
      replace h59 := h59.cx c65
      replace C := C.trans c65
      have z68 := (c65.up).size
      have m69 := m53.nx c65.up (by omega)
      refine ⟨⟨m69, trivial⟩, ?_⟩
      replace h59 := h59.or (T := Blk v66)
      replace C := C.sealO h67
      replace h67 := h67.sealed
      obtain ⟨y70, h71, h⟩ := bnd_some h
      refine mtc rfl rfl (dc_call (vs := [v66, v58]) can77 rfl ?_)
      refine (post_Minus_w C.sb h67 h59 h71).mono ?_
      rintro _ w72 ⟨S73, v75, rfl, c74, h76⟩
      refine ⟨_, rfl, ?_⟩
      replace C := C.trans c74
      have z77 := (c74.up).size
      have m78 := m69.nx c74.up (by omega)
      refine ⟨⟨m78, trivial⟩, ?_⟩
      refine mtv rfl rfl (mvv (.tuple (List.toArray [v75, .int .i64 y70.2])) rfl) (mtv rfl rfl (rv_extract rfl rfl) (mtv rfl rfl (rv_extract rfl rfl) (mtv rfl rfl (asv v75 rfl) (mtv rfl rfl (asv (.int .i64 y70.2) rfl) (MT.e (k50 _ _ ?_))))))
      refine cw_seq fun K79 k80 => ?_
      refine cw_region (sv (mvv v75 rfl) (sv (asv v75 rfl) (W.e (k80 _ _ (cw_ret ?_)))))
      obtain rfl := osi h
      exact ⟨_, rfl, _, _, rfl, C, h76⟩
    · refine cw_f rfl b48 ?_
      refine cw_seq fun K81 k82 => ?_
      refine cw_region (sv (rv_eql rfl rfl) (sv (asv (.bool (a1.Op == (4 : Int))) rfl) (W.e (k82 _ _ ?_))))
      rcases bif_some h with ⟨b83, h⟩ | ⟨b83, h⟩
      · refine cw_t rfl b83 ?_
        refine cw_seq fun K84 k85 => ?_
        refine cw_region (sv (mvv v24 rfl) (sv (asv v24 rfl) (W.e (k85 _ _ (cw_ret ?_)))))
        obtain rfl := osi h
        exact ⟨_, rfl, _, _, rfl, C, h25⟩
      · refine cw_f rfl b83 (cw_skip (k28 _ _ ?_))
        refine cw_seq fun K86 k87 => ?_
        refine cw_region (sv (mvv v24 rfl) ?_)
        obtain ⟨y88, h89, h⟩ := bnd_some h
        refine sc (dc_call (vs := [v24]) can52 rfl ?_)
        refine (slices_Clone_int_int_w C.sb h25 h89).mono ?_
        rintro _ w90 ⟨S91, v93, rfl, c92, h94⟩
        refine ⟨_, rfl, ?_⟩
        have p95 := ap_fresh (fun b hb => (h94.lt b hb).1) (fun b hb => (h0.lt b hb).1)
        replace h94 := h94.base C.up.size
        replace h7 := h7.cx c92
        replace h0 := h0.cx c92
        replace h13 := h13.cx c92
        replace C := C.trans c92
        refine sv (rv_mkfn (vs := [.pointer (some ⟨b9, 0, none⟩), .pointer (some ⟨b3, 0, none⟩)]) rfl) ?_
        obtain ⟨y96, h97, h⟩ := bnd_some h
        refine sc (dc_call (vs := [v93, .func (.func 79) #[] (List.toArray [.pointer (some ⟨b9, 0, none⟩), .pointer (some ⟨b3, 0, none⟩)])]) can78 rfl ?_)
        have h97f : ∀ (x : Int) (w' : World) (v : Value), Up (Blk v93) w90 w' → Sl (kI .i64) S91 w' v x → ∀ b, index_Index_one_1 x a1 a0 = some b → Calls Tryz.prog 79 (List.toArray ([v] ++ [.pointer (some ⟨b9, 0, none⟩), .pointer (some ⟨b3, 0, none⟩)])) w' (fun e w1 => e = .returned (.bool b) ∧ Up No w' w1) := fun x w' v hu hx b hb => by obtain rfl := sl_sc.1 hx; exact (index_Index_one_1_w (C.sb.up hu) (h13.wr hu h94.not) (h0.wr hu h94.not (ap_symm p95)) (h7.wr hu h94.not) hb).mono fun e w1 hp => (by obtain ⟨S1, rfl, c⟩ := hp; exact ⟨rfl, c.up⟩ : e = .returned (.bool b) ∧ Up No w' w1)
        refine (slices_DeleteFunc_int_int_w C.sb h94 can79 h97f h97).mono ?_
        rintro _ w98 ⟨v101, rfl, u99, h100, h102⟩
        refine ⟨_, rfl, ?_⟩
        replace C := C.ow h94 u99
        refine sv (asv v101 rfl) (W.e (k87 _ _ (cw_ret ?_)))
        obtain rfl := osi h
        replace C := C.sealO h100
        replace h100 := h100.sealed
        exact ⟨_, rfl, _, _, rfl, C, h100⟩

noncomputable def post_And (a0 : List Int) (a1 : List Int) : Option ((List Int) × Int) :=
  ((post_merge a0 a1 false true false).bind fun y5 => some (y5.1, y5.2))
theorem post_And_w {S : Nat → Prop} {w : World} {a0 : List Int} {a1 : List Int} {v0 v1 : Value} {r : (List Int) × Int} (hS : Sb S w) (h0 : Sl (kSl (kI .i64)) S w v0 a0) (h1 : Sl (kSl (kI .i64)) S w v1 a1) (h : post_And a0 a1 = some r) :
    Calls Tryz.prog 81 (List.toArray [v0, v1]) w fun e w1 => ∃ S1 u0, e = .returned (.tuple (List.toArray [u0, .int .i64 r.2])) ∧ Cx No S w S1 w1 ∧ Sl (kSl (kI .i64)) S1 w1 u0 r.1 := by
  refine enter Tryz.func81 rfl (by kernel_rfl) rfl ?_
  have C := Cx.refl (F := No) hS
  unfold post_And at h
  refine cw_seq fun K1 k2 => ?_
  refine cw_region (sv (asv (.slice none 0 0) rfl) (sv (asv (.int .i64 0) rfl) (W.e (k2 _ _ ?_))))
  refine cw_seq fun K3 k4 => ?_
  refine cw_region (sv (mvv v0 rfl) (sv (mvv v1 rfl) ?_))
  obtain ⟨y5, h6, h⟩ := bnd_some h
  refine sc (dc_call (vs := [v0, v1, .bool false, .bool true, .bool false]) can95 rfl ?_)
  refine (post_merge_w C.sb h0 h1 h6).mono ?_
  rintro _ w7 ⟨S8, v10, rfl, c9, h11⟩
  refine ⟨_, rfl, ?_⟩
  replace C := C.trans c9
  refine sv (rv_extract rfl rfl) (sv (rv_extract rfl rfl) (sv (asv v10 rfl) (sv (asv (.int .i64 y5.2) rfl) (W.e (k4 _ _ (cw_ret ?_))))))
  obtain rfl := osi h
  exact ⟨_, rfl, _, _, rfl, C, h11⟩

noncomputable def post_All.b2 (a0 : List (List Int)) (x29 : List Int) (x30 : Int) : Option (((List Int) × Int) ⊕ (((List Int)) ⊕ ((List Int) × Int))) :=
  (bif (decide (x30 < (a0.length : Int))) then ((at_ a0 x30).bind fun y42 => ((post_And x29 y42).bind fun y49 => (bif (y49.2 != (0 : Int)) then some (.inr (.inr (([] : List Int), y49.2))) else (pur (IntKind.i64.wrap (x30 + (1 : Int))) fun y64 => some (.inl (y49.1, y64)))))) else some (.inr (.inl x29)))
noncomputable def post_All (a0 : List (List Int)) : Option ((List Int) × Int) :=
  (bif ((a0.length : Int) == (0 : Int)) then some (([] : List Int), (1 : Int)) else ((at_ a0 (0 : Int)).bind fun y12 => ((iter (fun s : (List Int) × Int => post_All.b2 a0 s.1 s.2) (y12, (0 : Int))).bind (Sum.elim (fun o17n => some (o17n, (0 : Int))) (fun q => some q)))))
theorem post_All_w {S : Nat → Prop} {w : World} {a0 : List (List Int)} {v0 : Value} {r : (List Int) × Int} (hS : Sb S w) (h0 : Sl (kSl (kSl (kI .i64))) S w v0 a0) (h : post_All a0 = some r) :
    Calls Tryz.prog 51 (List.toArray [v0]) w fun e w1 => ∃ S1 u0, e = .returned (.tuple (List.toArray [u0, .int .i64 r.2])) ∧ Cx No S w S1 w1 ∧ Sl (kSl (kI .i64)) S1 w1 u0 r.1 := by
  refine enter Tryz.func51 rfl (by kernel_rfl) rfl ?_
  have C := Cx.refl (F := No) hS
  unfold post_All at h
  refine cw_seq fun K1 k2 => ?_
  refine cw_region (sv (asv (.slice none 0 0) rfl) (sv (asv (.int .i64 0) rfl) (W.e (k2 _ _ ?_))))
  refine cw_seq fun K3 k4 => ?_
  refine cw_seq fun K5 k6 => ?_
  refine cw_region (sv (mvv v0 rfl) (sv (rv_lenS el95 h0 rfl) (sv (rv_eql rfl rfl) (W.e (k6 _ _ ?_)))))
  rcases bif_some h with ⟨b7, h⟩ | ⟨b7, h⟩
  · refine cw_t rfl b7 ?_
    refine cw_seq fun K8 k9 => ?_
    refine cw_region (sv (asv (.slice none 0 0) rfl) (sv (asv (.int .i64 1) rfl) (W.e (k9 _ _ (cw_ret ?_)))))
    obtain rfl := osi h
    exact ⟨_, rfl, _, _, rfl, C, (sl_nil _ _ _)⟩
  · refine cw_f rfl b7 (cw_skip (k4 _ _ ?_))
    refine cw_seq fun K10 k11 => ?_
    refine cw_region (sv (mvv v0 rfl) ?_)
    obtain ⟨y12, h13, h⟩ := bnd_some h
    refine sv (rv_index el95 h0 rfl rfl h13) ?_
    obtain ⟨v14, h15, h16⟩ := rw_loadA (P := Tryz.prog) el95 h0 h13
    refine sr (h16 _ (Sm.refl _ _) rfl) (sv (asv v14 rfl) (W.e (k11 _ _ ?_)))
    obtain ⟨o17, h20, h⟩ := bnds_some h
    refine cw_seq' (fun ρ w1 => ∃ o17n, o17 = (.inl o17n) ∧ ∃ S1 v69, Cx No S w S1 w1 ∧ Has ρ [(4, v69)] ∧ Sl (kSl (kI .i64)) S1 w1 v69 o17n) ?_ ?_
    · refine cw_seq fun K21 k22 => ?_
      refine cw_region (sv (mvv v0 rfl) (sv (rv_lenS el95 h0 rfl) (sv (mvv (.int .i64 0) rfl) (W.e (k22 _ _ (cw_block ?_))))))
      refine cw_iter h20 (fun s ρ w1 => ∃ S1 v26, Cx No S w S1 w1 ∧ Has ρ [(4, v26), (15, v0), (16, .int .i64 (a0.length : Int)), (17, .int .i64 s.2)] ∧ Sl (kSl (kI .i64)) S1 w1 v26 s.1 ∧ Sl (kSl (kSl (kI .i64))) S1 w1 v0 a0) ⟨_, _, C, ⟨rfl, rfl, rfl, rfl, trivial⟩, h15, h0⟩ ?_
      rintro ⟨x29, x30⟩ q23 ρ w25 ⟨S24, v26, C, h28, h27, h0⟩ h32 h31
      refine h28.cw fun ρ => ?_
      clear h28
      replace h32 : post_All.b2 a0 x29 x30 = some q23 := h32
      unfold post_All.b2 at h32
      refine cw_seq fun K33 k34 => ?_
      refine cw_region (sv (rv_lss rfl rfl) (W.e (k34 _ _ ?_)))
      refine cw_seq fun K35 k36 => ?_
      rcases bif_some h32 with ⟨b37, h32⟩ | ⟨b37, h32⟩
      · refine cw_t rfl b37 (cw_skip (k36 _ _ ?_))
        refine cw_seq fun K38 k39 => ?_
        refine cw_block ?_
        refine cw_seq fun K40 k41 => ?_
        refine cw_region ?_
        obtain ⟨y42, h43, h32⟩ := bnd_some h32
        refine sv (rv_index el95 h0 rfl rfl h43) ?_
        obtain ⟨v44, h45, h46⟩ := rw_loadA (P := Tryz.prog) el95 h0 h43
        refine sr (h46 _ (Sm.refl _ _) rfl) (sv (asv v44 rfl) (W.e (k41 _ _ ?_)))
        refine cw_seq fun K47 k48 => ?_
        refine cw_region (sv (mvv v26 rfl) (sv (mvv v44 rfl) ?_))
        obtain ⟨y49, h50, h32⟩ := bnd_some h32
        refine sc (dc_call (vs := [v26, v44]) can81 rfl ?_)
        refine (post_And_w C.sb h27 h45 h50).mono ?_
        rintro _ w51 ⟨S52, v54, rfl, c53, h55⟩
        refine ⟨_, rfl, ?_⟩
        replace h0 := h0.cx c53
        replace C := C.trans c53
        refine sv (mvv (.tuple (List.toArray [v54, .int .i64 y49.2])) rfl) (sv (rv_extract rfl rfl) (sv (rv_extract rfl rfl) (sv (asv v54 rfl) (sv (asv (.int .i64 y49.2) rfl) (W.e (k48 _ _ ?_))))))
        refine cw_seq fun K56 k57 => ?_
        refine cw_seq fun K58 k59 => ?_
        refine cw_region (sv (mvv (.int .i64 y49.2) rfl) (sv (rv_neq rfl rfl) (W.e (k59 _ _ ?_))))
        rcases bif_some h32 with ⟨b60, h32⟩ | ⟨b60, h32⟩
        · refine cw_t rfl b60 ?_
          refine cw_seq fun K61 k62 => ?_
          refine cw_region (sv (mvv (.int .i64 y49.2) rfl) (sv (asv (.slice none 0 0) rfl) (sv (asv (.int .i64 y49.2) rfl) (W.e (k62 _ _ (cw_ret ?_))))))
          obtain rfl := osi h32
          have h63 := congrArg some h31
          obtain rfl := osi h63
          replace h := h.2 _ rfl
          obtain rfl := osi h
          exact ⟨_, rfl, _, _, rfl, C, (sl_nil _ _ _)⟩
        · refine cw_f rfl b60 (cw_skip (k57 _ _ (cw_region (sv (mvv v54 rfl) (sv (asv v54 rfl) (W.e (k39 _ _ (cw_region ?_))))))))
          obtain ⟨y64, h65, h32⟩ := pur_some h32
          refine sv (rv_add rfl rfl h65) (sv (mvv (.int .i64 y64) rfl) (W.e ?_))
          obtain rfl := osi h32
          exact ⟨_, rfl, ⟨_, _, C, ⟨rfl, rfl, rfl, rfl, trivial⟩, h55, h0⟩⟩
      · refine cw_f rfl b37 (cw_exit ?_)
        obtain rfl := osi h32
        have h66 := congrArg some h31
        obtain rfl := osi h66
        exact ⟨_, rfl, ⟨_, _, C, ⟨rfl, trivial⟩, h27⟩⟩
    · rintro ρ w68 ⟨o17n, rfl, ⟨S67, v69, C, h71, h70⟩⟩
      replace h := h.1 _ rfl
      refine h71.cw fun ρ => ?_
      clear h71
      refine cw_seq fun K72 k73 => ?_
      refine cw_region (sv (mvv v69 rfl) (sv (asv v69 rfl) (sv (asv (.int .i64 0) rfl) (W.e (k73 _ _ (cw_ret ?_))))))
      obtain rfl := osi h
      exact ⟨_, rfl, _, _, rfl, C, h70⟩

noncomputable def index_Index_Find.b2 (a1 : List api_Ask) (y22 : index_Index) (x51 : List (List Int)) (x52 : Int) : Option (((List (List Int)) × Int) ⊕ ((List (List Int)))) :=
  (bif (decide (x52 < (a1.length : Int))) then ((at_ a1 x52).bind fun y64 => (pur y64 fun y76 => ((index_Index_one y22 y76).bind fun y85 => ((app_ 24 x51 ([y85] : List (List Int))).bind fun y99 => (pur (IntKind.i64.wrap (x52 + (1 : Int))) fun y108 => some (.inl (y99, y108))))))) else some (.inr x51))
noncomputable def index_Index_Find (a0 : Option index_Index) (a1 : List api_Ask) : Option ((List Int) × Int) :=
  (bif a0.isNone then some (([] : List Int), (2 : Int)) else ((match_Right a1).bind fun y12 => (bif (!y12) then some (([] : List Int), (1 : Int)) else ((a0).bind fun y22 => ((index_Index_all y22).bind fun y25 => ((iter (fun s : (List (List Int)) × Int => index_Index_Find.b2 a1 y22 s.1 s.2) (([y25] : List (List Int)), (0 : Int))).bind fun o39 => ((post_All o39).bind fun y118 => ((slices_Clone_int_int y118.1).bind fun y127 => some (y127, y118.2)))))))))
theorem index_Index_Find_w {S : Nat → Prop} {w : World} {a0 : Option index_Index} {a1 : List api_Ask} {v0 v1 : Value} {cs0 : List Value} {fp0 : List Nat} {r : (List Int) × Int} (hS : Sb S w) (h0 : Obo 61 index_Index.fs S w v0 a0 cs0 fp0) (h1 : Sl (kSl api_Ask.k) S w v1 a1) (h : index_Index_Find a0 a1 = some r) :
    Calls Tryz.prog 15 (List.toArray [v0, v1]) w fun e w1 => ∃ S1 u0, e = .returned (.tuple (List.toArray [u0, .int .i64 r.2])) ∧ Cx No S w S1 w1 ∧ Ow (kI .i64) 3 S1 w.heap.size w1 u0 r.1 := by
  refine enter Tryz.func15 rfl (by kernel_rfl) rfl ?_
  have C := Cx.refl (F := No) hS
  unfold index_Index_Find at h
  have hl0 : ∀ b ∈ fp0, b < w.heap.size := fun b hb => (h0.lt b hb).1
  refine cw_seq fun K1 k2 => ?_
  refine cw_region (sv (asv (.slice none 0 0) rfl) (sv (asv (.int .i64 0) rfl) (W.e (k2 _ _ ?_))))
  refine cw_seq fun K3 k4 => ?_
  refine cw_block ?_
  refine cw_seq fun K5 k6 => ?_
  refine cw_region (sv (mvv v0 rfl) (sv (rv_nileq Tryz.underlying24 rfl rfl h0.ne) (sv (asv (.bool a0.isNone) rfl) (W.e (k6 _ _ ?_)))))
  rcases bif_some h with ⟨b7, h⟩ | ⟨b7, h⟩
  · refine cw_t rfl b7 ?_
    refine cw_seq fun K8 k9 => ?_
    refine cw_region (sv (asv (.slice none 0 0) rfl) (sv (asv (.int .i64 2) rfl) (W.e (k9 _ _ (cw_ret ?_)))))
    obtain rfl := osi h
    exact ⟨_, rfl, _, _, rfl, C, Ow.nil _ _ _ _ _⟩
  · refine cw_f rfl b7 ?_
    refine cw_seq fun K10 k11 => ?_
    refine cw_region (sv (mvv v1 rfl) ?_)
    obtain ⟨y12, h13, h⟩ := bnd_some h
    refine sc (dc_call (vs := [v1]) can49 rfl ?_)
    refine (match_Right_w C.sb h1 h13).mono ?_
    rintro _ w14 ⟨S15, rfl, c16⟩
    refine ⟨_, rfl, ?_⟩
    replace h0 := h0.cx c16
    replace h1 := h1.cx c16
    replace C := C.trans c16
    refine sv (rv_not rfl) (sv (asv (.bool (!y12)) rfl) (W.e (k11 _ _ ?_)))
    rcases bif_some h with ⟨b17, h⟩ | ⟨b17, h⟩
    · refine cw_t rfl b17 ?_
      refine cw_seq fun K18 k19 => ?_
      refine cw_region (sv (asv (.slice none 0 0) rfl) (sv (asv (.int .i64 1) rfl) (W.e (k19 _ _ (cw_ret ?_)))))
      obtain rfl := osi h
      exact ⟨_, rfl, _, _, rfl, C, Ow.nil _ _ _ _ _⟩
    · refine cw_f rfl b17 (cw_skip (k4 _ _ ?_))
      refine cw_seq fun K20 k21 => ?_
      refine cw_region (sv (mvv v0 rfl) ?_)
      obtain ⟨y22, h23, h⟩ := bnd_some h
      have h24 := h0
      rw [h23] at h24
      replace h24 : Ob 61 (index_Index.fs y22) _ _ _ _ _ := h24
      obtain ⟨y25, h26, h⟩ := bnd_some h
      refine sc (dc_call (vs := [v0]) can34 rfl ?_)
      refine (index_Index_all_w C.sb h24 h26).mono ?_
      rintro _ w27 ⟨S28, v30, rfl, c29, h31⟩
      refine ⟨_, rfl, ?_⟩
      have p32 := ap_fresh (fun b hb => (h31.lt b hb).1) (fun b hb => (h24.lt b hb).1)
      replace h31 := h31.base C.up.size
      replace h24 := h24.cx c29
      replace h0 := h0.cx c29
      replace h1 := h1.cx c29
      replace C := C.trans c29
      replace h24 := h24.or (ap_symm p32)
      replace h0 := h0.or (ap_symm p32)
      replace h1 := h1.or (T := Blk v30)
      replace C := C.sealO h31
      replace h31 := h31.sealed
      refine sc (dc_lit (vs := [v30]) (xs := ([y25] : List (List Int))) (base := w.heap.size) el95 rfl rfl (.cons h31 (.nil)) (Nat.le_of_ble_eq_true rfl) C.up.size C.sb fun v33 w34 h35 h36 u37 => ?_)
      have p38 := ap_fresh h36 (fun b hb => (h24.lt b hb).1)
      replace h24 := h24.nw u37
      replace h0 := h0.nw u37
      replace h1 := h1.nw u37
      replace C := C.new u37
      refine sv (asv v33 rfl) (W.e (k21 _ _ ?_))
      obtain ⟨o39, h42, h⟩ := bnd_some h
      refine cw_seq' (fun ρ w1 => ∃ S1 v113, Cx No S w S1 w1 ∧ Has ρ [(6, v113)] ∧ Ow (kSl (kI .i64)) 49 S1 w.heap.size w1 v113 o39) ?_ ?_
      · refine cw_seq fun K43 k44 => ?_
        refine cw_region (sv (mvv v1 rfl) (sv (rv_lenS el32 h1 rfl) (sv (mvv (.int .i64 0) rfl) (W.e (k44 _ _ (cw_block ?_))))))
        refine cw_iter h42 (fun s ρ w1 => ∃ S1 v48, Cx No S w S1 w1 ∧ Has ρ [(0, v0), (6, v48), (21, v1), (22, .int .i64 (a1.length : Int)), (23, .int .i64 s.2)] ∧ Ow (kSl (kI .i64)) 49 S1 w.heap.size w1 v48 s.1 ∧ Sl (kSl api_Ask.k) S1 w1 v1 a1 ∧ Obo 61 index_Index.fs S1 w1 v0 a0 cs0 fp0 ∧ Ob 61 (index_Index.fs y22) S1 w1 v0 cs0 fp0) ⟨_, _, C, ⟨rfl, rfl, rfl, rfl, rfl, trivial⟩, h35, h1, h0, h24⟩ ?_
        rintro ⟨x51, x52⟩ q45 ρ w47 ⟨S46, v48, C, h50, h49, h1, h0, h24⟩ h54 h53
        refine h50.cw fun ρ => ?_
        clear h50
        replace h54 : index_Index_Find.b2 a1 y22 x51 x52 = some q45 := h54
        unfold index_Index_Find.b2 at h54
        refine cw_seq fun K55 k56 => ?_
        refine cw_region (sv (rv_lss rfl rfl) (W.e (k56 _ _ ?_)))
        refine cw_seq fun K57 k58 => ?_
        rcases bif_some h54 with ⟨b59, h54⟩ | ⟨b59, h54⟩
        · refine cw_t rfl b59 (cw_skip (k58 _ _ ?_))
          refine cw_seq fun K60 k61 => ?_
          refine cw_block ?_
          refine cw_seq fun K62 k63 => ?_
          refine cw_region ?_
          obtain ⟨y64, h65, h54⟩ := bnd_some h54
          refine sv (rv_index el32 h1 rfl rfl h65) ?_
          obtain ⟨v66, h67, h68⟩ := rw_loadA (P := Tryz.prog) el32 h1 h65
          obtain rfl := api_Ask.o.1 h67
          refine sr (h68 _ (Sm.refl _ _) rfl) ?_
          refine sc (dc_allocO (x0 := (api_Ask.mk (0 : Int) ByteArray.empty ByteArray.empty)) (base := w.heap.size) el32 zr53 (fun _ => api_Ask.r.2 rfl) C.up.size C.sb fun b69 w70 h71 h72 u73 => ?_)
          have p74 := ap_fresh h72 (fun b hb => (h24.lt b hb).1)
          have p75 := ap_fresh h72 (fun b hb => (h49.lt b hb).2)
          replace h24 := h24.nw u73
          replace h0 := h0.nw u73
          replace h1 := h1.nw u73
          replace h49 := h49.nw u73
          replace C := C.new u73
          obtain ⟨y76, h77, h54⟩ := pur_some h54
          have h81 := h71
          refine sc (dc_storeO el32 h81 (show at_ [(api_Ask.mk (0 : Int) ByteArray.empty ByteArray.empty)] (0 : Int) = some (api_Ask.mk (0 : Int) ByteArray.empty ByteArray.empty) from rfl) rfl rfl (((api_Ask.o (x := y64)).2 rfl)) fun w78 h79 u80 => ?_)
          replace h79 : Ow api_Ask.k 53 S46 w.heap.size w78 (.slice (some ⟨b69, 0, none⟩) 1 1) [y64] := h79
          rw [h77] at h79
          replace h24 := h24.wr u80 h81.not (ap_symm p74)
          replace h0 := h0.wr u80 h81.not (ap_symm p74)
          replace h1 := h1.wr u80 h81.not
          replace h49 := h49.wr u80 h81.not (ap_symm p75)
          replace C := C.ow h81 u80
          refine W.e (k63 _ _ (cw_region (sv (mvv v48 rfl) (sv (mvv v0 rfl) ?_))))
          obtain ⟨v82, h83, h84⟩ := rw_loadO (P := Tryz.prog) el32 h79 (show at_ [y76] (0 : Int) = some y76 from rfl)
          obtain rfl := api_Ask.o.1 h83
          refine sr (h84 _ (Sm.refl _ _) rfl) ?_
          obtain ⟨y85, h86, h54⟩ := bnd_some h54
          refine sc (dc_call (vs := [v0, .agg (List.toArray [.int .u8 y76.Op, .string y76.Name, .string y76.Val])]) can50 rfl ?_)
          refine (index_Index_one_w C.sb h24 ((api_Ask.o (x := y76)).2 rfl) h86).mono ?_
          rintro _ w87 ⟨S88, v90, rfl, c89, h91⟩
          refine ⟨_, rfl, ?_⟩
          replace h24 := h24.cx c89
          replace h0 := h0.cx c89
          replace h1 := h1.cx c89
          replace h49 := h49.cx c89
          replace C := C.trans c89
          refine sc (dc_lit (vs := [v90]) (xs := ([y85] : List (List Int))) (base := w.heap.size) el95 rfl rfl (.cons h91 (.nil)) (Nat.le_of_ble_eq_true rfl) C.up.size C.sb fun v92 w93 h94 h95 u96 => ?_)
          have p97 := ap_fresh h95 (fun b hb => (h24.lt b hb).1)
          have p98 := ap_fresh h95 (fun b hb => (h49.lt b hb).2)
          replace h24 := h24.nw u96
          replace h0 := h0.nw u96
          replace h1 := h1.nw u96
          replace h49 := h49.nw u96
          replace C := C.new u96
          obtain ⟨y99, h100, h54⟩ := bnd_some h54
          have h106 := h49
          refine sc (dc_append el95 (by decide) h106 h94.src rfl rfl h100 C.up.size C.sb fun v101 w102 h103 u104 h105 => ?_)
          have p107 := ap_grow (ap_symm (fun b hq hb => absurd (h49.lt b hb).1 (Nat.not_le_of_lt (hl0 b hq)))) h105 (fun b hb => (h24.lt b hb).1)
          replace h24 := h24.wr u104 h106.not (fun b hq hb => absurd (h106.lt b hb).1 (Nat.not_le_of_lt (hl0 b hq)))
          replace h0 := h0.wr u104 h106.not (fun b hq hb => absurd (h106.lt b hb).1 (Nat.not_le_of_lt (hl0 b hq)))
          replace h1 := h1.wr u104 h106.not
          replace C := C.ow h106 u104
          refine sv (asv v101 rfl) (W.e (k61 _ _ (cw_region ?_)))
          obtain ⟨y108, h109, h54⟩ := pur_some h54
          refine sv (rv_add rfl rfl h109) (sv (mvv (.int .i64 y108) rfl) (W.e ?_))
          obtain rfl := osi h54
          exact ⟨_, rfl, ⟨_, _, C, ⟨rfl, rfl, rfl, rfl, rfl, trivial⟩, h103, h1, h0, h24⟩⟩
        · refine cw_f rfl b59 (cw_exit ?_)
          obtain rfl := osi h54
          have h110 := congrArg some h53
          obtain rfl := osi h110
          exact ⟨_, _, C, ⟨rfl, trivial⟩, h49⟩
      · rintro ρ w112 ⟨S111, v113, C, h115, h114⟩
        refine h115.cw fun ρ => ?_
        clear h115
        refine cw_seq fun K116 k117 => ?_
        refine cw_region (sv (mvv v113 rfl) ?_)
        replace C := C.sealO h114
        replace h114 := h114.sealed
        obtain ⟨y118, h119, h⟩ := bnd_some h
        refine sc (dc_call (vs := [v113]) can51 rfl ?_)
        refine (post_All_w C.sb h114 h119).mono ?_
        rintro _ w120 ⟨S121, v123, rfl, c122, h124⟩
        refine ⟨_, rfl, ?_⟩
        replace C := C.trans c122
        refine sv (mvv (.tuple (List.toArray [v123, .int .i64 y118.2])) rfl) (sv (rv_extract rfl rfl) (sv (rv_extract rfl rfl) (sv (asv v123 rfl) (sv (asv (.int .i64 y118.2) rfl) (W.e (k117 _ _ ?_))))))
        refine cw_seq fun K125 k126 => ?_
        refine cw_region (sv (mvv v123 rfl) ?_)
        obtain ⟨y127, h128, h⟩ := bnd_some h
        refine sc (dc_call (vs := [v123]) can52 rfl ?_)
        refine (slices_Clone_int_int_w C.sb h124 h128).mono ?_
        rintro _ w129 ⟨S130, v132, rfl, c131, h133⟩
        refine ⟨_, rfl, ?_⟩
        replace h133 := h133.base C.up.size
        replace C := C.trans c131
        refine sv (mvv (.int .i64 y118.2) rfl) (sv (asv v132 rfl) (sv (asv (.int .i64 y118.2) rfl) (W.e (k126 _ _ (cw_ret ?_)))))
        obtain rfl := osi h
        exact ⟨_, rfl, _, _, rfl, C, h133⟩

noncomputable def index_Index_Labels (a0 : Option index_Index) (a1 : Int) : Option ((List api_Label) × Bool) :=
  (bif a0.isNone then some (([] : List api_Label), false) else ((a0).bind fun y12 => ((slices_Clone_api_Label_api_Label ((mget a1 y12.series).getD ([] : List api_Label))).bind fun y24 => some (y24, (mget a1 y12.series).isSome))))
theorem index_Index_Labels_w {S : Nat → Prop} {w : World} {a0 : Option index_Index} {a1 : Int} {v0 : Value} {cs0 : List Value} {fp0 : List Nat} {r : (List api_Label) × Bool} (hS : Sb S w) (h0 : Obo 61 index_Index.fs S w v0 a0 cs0 fp0) (h : index_Index_Labels a0 a1 = some r) :
    Calls Tryz.prog 25 (List.toArray [v0, .int .i64 a1]) w fun e w1 => ∃ S1 u0, e = .returned (.tuple (List.toArray [u0, .bool r.2])) ∧ Cx No S w S1 w1 ∧ Ow api_Label.k 46 S1 w.heap.size w1 u0 r.1 := by
  refine enter Tryz.func25 rfl (by kernel_rfl) rfl ?_
  have C := Cx.refl (F := No) hS
  unfold index_Index_Labels at h
  have hl0 : ∀ b ∈ fp0, b < w.heap.size := fun b hb => (h0.lt b hb).1
  refine cw_seq fun K1 k2 => ?_
  refine cw_region (sv (asv (.slice none 0 0) rfl) (sv (asv (.bool false) rfl) (W.e (k2 _ _ ?_))))
  refine cw_seq fun K3 k4 => ?_
  refine cw_seq fun K5 k6 => ?_
  refine cw_region (sv (mvv v0 rfl) (sv (rv_nileq Tryz.underlying24 rfl rfl h0.ne) (W.e (k6 _ _ ?_))))
  rcases bif_some h with ⟨b7, h⟩ | ⟨b7, h⟩
  · refine cw_t rfl b7 ?_
    refine cw_seq fun K8 k9 => ?_
    refine cw_region (sv (asv (.slice none 0 0) rfl) (sv (asv (.bool false) rfl) (W.e (k9 _ _ (cw_ret ?_)))))
    obtain rfl := osi h
    exact ⟨_, rfl, _, _, rfl, C, Ow.nil _ _ _ _ _⟩
  · refine cw_f rfl b7 (cw_skip (k4 _ _ ?_))
    refine cw_seq fun K10 k11 => ?_
    refine cw_region (sv (mvv v0 rfl) ?_)
    obtain ⟨y12, h13, h⟩ := bnd_some h
    have h14 := h0
    rw [h13] at h14
    replace h14 : Ob 61 (index_Index.fs y12) _ _ _ _ _ := h14
    refine sv (rv_nilcheck rfl h14.ptr) (sv (rv_fieldAddr (b := pb v0) (o := 0) st61 rfl h14.ptr) ?_)
    obtain ⟨c15, h16⟩ := h14.at (i := 0) rfl
    refine sr (rw_ofield (i := 0) (c := c15) h14 ag56 h16 rfl) (sv (mvv (.int .i64 a1) rfl) ?_)
    obtain ⟨_, h17, h18⟩ := Ob.rep h14 (i := 0) rfl h16
    obtain ⟨v19, h20, h21⟩ := rep_look (P := Tryz.prog) (tm := 56) (te := 31) (y0 := ([] : List api_Label)) h17 Tryz.underlying56 zv31 (sl_nil _ _ _) a1
    refine sr ((h21 (Sm.refl _ _) rfl rfl).2) (sv (mvv (.tuple (List.toArray [v19, .bool (mget a1 y12.series).isSome])) rfl) (sv (rv_extract rfl rfl) (sv (rv_extract rfl rfl) (sv (asv v19 rfl) (sv (asv (.bool (mget a1 y12.series).isSome) rfl) (W.e (k11 _ _ ?_)))))))
    refine cw_seq fun K22 k23 => ?_
    refine cw_region (sv (mvv v19 rfl) ?_)
    obtain ⟨y24, h25, h⟩ := bnd_some h
    refine sc (dc_call (vs := [v19]) can58 rfl ?_)
    refine (slices_Clone_api_Label_api_Label_w C.sb h20 h25).mono ?_
    rintro _ w26 ⟨S27, v29, rfl, c28, h30⟩
    refine ⟨_, rfl, ?_⟩
    replace h30 := h30.base C.up.size
    replace C := C.trans c28
    refine sv (mvv (.bool (mget a1 y12.series).isSome) rfl) (sv (asv v29 rfl) (sv (asv (.bool (mget a1 y12.series).isSome) rfl) (W.e (k23 _ _ (cw_ret ?_)))))
    obtain rfl := osi h
    exact ⟨_, rfl, _, _, rfl, C, h30⟩

noncomputable def index_less (a0 : List Int) (a1 : Int) : Option (List Int) :=
  ((post_Minus a0 ([a1] : List Int)).bind fun y10 => some y10.1)
theorem index_less_w {S : Nat → Prop} {w : World} {a0 : List Int} {a1 : Int} {v0 : Value} {r : (List Int)} (hS : Sb S w) (h0 : Sl (kSl (kI .i64)) S w v0 a0) (h : index_less a0 a1 = some r) :
    Calls Tryz.prog 53 (List.toArray [v0, .int .i64 a1]) w fun e w1 => ∃ S1 u0, e = .returned (u0) ∧ Cx No S w S1 w1 ∧ Sl (kSl (kI .i64)) S1 w1 u0 r := by
  refine enter Tryz.func53 rfl (by kernel_rfl) rfl ?_
  have C := Cx.refl (F := No) hS
  unfold index_less at h
  refine cw_seq fun K1 k2 => ?_
  refine cw_region (sv (asv (.slice none 0 0) rfl) (W.e (k2 _ _ ?_)))
  refine cw_seq fun K3 k4 => ?_
  refine cw_region (sv (mvv v0 rfl) (sv (mvv (.int .i64 a1) rfl) ?_))
  refine sc (dc_lit (vs := [.int .i64 a1]) (xs := ([a1] : List Int)) (base := w.heap.size) el49 rfl rfl (.cons (sl_sc.2 rfl) (.nil)) (Nat.le_of_ble_eq_true rfl) C.up.size C.sb fun v5 w6 h7 h8 u9 => ?_)
  replace h0 := h0.nw u9
  replace C := C.new u9
  replace h0 := h0.or (T := Blk v5)
  replace C := C.sealO h7
  replace h7 := h7.sealed
  obtain ⟨y10, h11, h⟩ := bnd_some h
  refine sc (dc_call (vs := [v0, v5]) can77 rfl ?_)
  refine (post_Minus_w C.sb h0 h7 h11).mono ?_
  rintro _ w12 ⟨S13, v15, rfl, c14, h16⟩
  refine ⟨_, rfl, ?_⟩
  replace C := C.trans c14
  refine sv (mvv (.tuple (List.toArray [v15, .int .i64 y10.2])) rfl) (sv (rv_extract rfl rfl) (sv (rv_extract rfl rfl) (sv (asv v15 rfl) (sv (asv (.int .i64 y10.2) rfl) (W.e (k4 _ _ ?_))))))
  refine cw_seq fun K17 k18 => ?_
  refine cw_region (sv (mvv v15 rfl) (sv (asv v15 rfl) (W.e (k18 _ _ (cw_ret ?_)))))
  obtain rfl := osi h
  exact ⟨_, rfl, _, _, rfl, C, h16⟩

noncomputable def index_Index_Drop.b2 (a1 : Int) (y5 : (List api_Label) × Bool) (x68 : Int) (x69 : index_Index) : Option ((Int × index_Index) ⊕ (index_Index)) :=
  (bif (decide (x68 < (y5.1.length : Int))) then (((at_ y5.1 x68).bind fun y83 => (pur y83 fun y94 => (((index_less ((mget y94 x69.posts).getD ([] : List Int)) a1).bind fun y130 => (pur ({ x69 with posts := (mput y94 y130 x69.posts) } : index_Index) fun y141 => (bif ((((mget y94 y141.posts).getD ([] : List Int)).length : Int) == (0 : Int)) then (pur ({ y141 with posts := (mrem y94 y141.posts) } : index_Index) fun y171 => some y171) else some y141))).bind fun o100 => ((index_less ((mget y94.Name o100.names).getD ([] : List Int)) a1).bind fun y214 => (pur ({ o100 with names := (mput y94.Name y214 o100.names) } : index_Index) fun y225 => (bif ((((mget y94.Name y225.names).getD ([] : List Int)).length : Int) == (0 : Int)) then (pur ({ y225 with names := (mrem y94.Name y225.names) } : index_Index) fun y255 => some y255) else some y225)))))).bind fun o77 => (pur (IntKind.i64.wrap (x68 + (1 : Int))) fun y271 => some (.inl (y271, o77)))) else some (.inr x69))
noncomputable def index_Index_Drop (a0 : Option index_Index) (a1 : Int) : Option (Int × (Option index_Index)) :=
  ((index_Index_Labels a0 a1).bind fun y5 => (bif (!y5.2) then some ((2 : Int), a0) else ((index_key y5.1).bind fun y22 => ((a0).bind fun y31 => (pur ({ y31 with series := (mrem a1 y31.series) } : index_Index) fun y36 => (pur ({ y36 with ids := (mrem y22.2.1 y36.ids) } : index_Index) fun y47 => ((iter (fun s : Int × index_Index => index_Index_Drop.b2 a1 y5 s.1 s.2) ((0 : Int), y47)).bind fun o54 => some ((0 : Int), some o54))))))))
theorem index_Index_Drop_w {S : Nat → Prop} {w : World} {a0 : Option index_Index} {a1 : Int} {v0 : Value} {cs0 : List Value} {fp0 : List Nat} {r : Int × (Option index_Index)} (hS : Sb S w) (h0 : Obo 61 index_Index.fs S w v0 a0 cs0 fp0) (h : index_Index_Drop a0 a1 = some r) :
    Calls Tryz.prog 16 (List.toArray [v0, .int .i64 a1]) w fun e w1 => ∃ S1 us_0 up_0, e = .returned (.int .i64 r.1) ∧ Cx (fun b => b ∈ fp0) S w S1 w1 ∧ Obo 61 index_Index.fs S1 w1 v0 r.2 us_0 up_0 ∧ (∀ b, b ∈ up_0 → b ∈ fp0 ∨ w.heap.size ≤ b) := by
  refine enter Tryz.func16 rfl (by kernel_rfl) rfl ?_
  have C := Cx.refl (F := (fun b => b ∈ fp0)) hS
  unfold index_Index_Drop at h
  have hs0 : ∀ b, b ∈ fp0 → b ∈ fp0 ∨ w.heap.size ≤ b := fun b hb => .inl hb
  have hl0 : ∀ b ∈ fp0, b < w.heap.size := fun b hb => (h0.lt b hb).1
  refine cw_seq fun K1 k2 => ?_
  refine cw_region (sv (asv (.int .i64 0) rfl) (W.e (k2 _ _ ?_)))
  refine cw_seq fun K3 k4 => ?_
  refine cw_region (sv (mvv v0 rfl) (sv (mvv (.int .i64 a1) rfl) ?_))
  obtain ⟨y5, h6, h⟩ := bnd_some h
  refine sc (dc_call (vs := [v0, .int .i64 a1]) can25 rfl ?_)
  refine (index_Index_Labels_w C.sb h0 h6).mono ?_
  rintro _ w7 ⟨S8, v10, rfl, c9, h11⟩
  refine ⟨_, rfl, ?_⟩
  have p12 := ap_fresh (fun b hb => (h11.lt b hb).1) (fun b hb => (h0.lt b hb).1)
  replace h11 := h11.base C.up.size
  replace h0 := h0.cx c9
  replace C := C.trans c9
  refine sv (mvv (.tuple (List.toArray [v10, .bool y5.2])) rfl) (sv (rv_extract rfl rfl) (sv (rv_extract rfl rfl) (sv (asv v10 rfl) (sv (asv (.bool y5.2) rfl) (W.e (k4 _ _ ?_))))))
  refine cw_seq fun K13 k14 => ?_
  refine cw_seq fun K15 k16 => ?_
  refine cw_region (sv (mvv (.bool y5.2) rfl) (sv (rv_not rfl) (W.e (k16 _ _ ?_))))
  rcases bif_some h with ⟨b17, h⟩ | ⟨b17, h⟩
  · refine cw_t rfl b17 ?_
    refine cw_seq fun K18 k19 => ?_
    refine cw_region (sv (asv (.int .i64 2) rfl) (W.e (k19 _ _ (cw_ret ?_))))
    obtain rfl := osi h
    exact ⟨_, rfl, _, _, _, rfl, C, h0, hs0⟩
  · refine cw_f rfl b17 (cw_skip (k14 _ _ ?_))
    refine cw_seq fun K20 k21 => ?_
    refine cw_region (sv (mvv v10 rfl) ?_)
    replace h0 := h0.or (ap_symm p12)
    replace C := C.sealO h11
    replace h11 := h11.sealed
    obtain ⟨y22, h23, h⟩ := bnd_some h
    refine sc (dc_call (vs := [v10]) can43 rfl ?_)
    refine (index_key_w C.sb h11 h23).mono ?_
    rintro _ w24 ⟨S25, v27, rfl, c26, h28⟩
    refine ⟨_, rfl, ?_⟩
    replace h0 := h0.cx c26
    replace h11 := h11.cx c26
    replace C := C.trans c26
    refine sv (mvv (.tuple (List.toArray [v27, .string y22.2.1, .int .i64 y22.2.2])) rfl) (sv (rv_extract rfl rfl) (sv (rv_extract rfl rfl) (sv (rv_extract rfl rfl) (sv (asv v27 rfl) (sv (asv (.string y22.2.1) rfl) (sv (asv (.int .i64 y22.2.2) rfl) (W.e (k21 _ _ ?_))))))))
    refine cw_seq fun K29 k30 => ?_
    refine cw_region (sv (mvv v0 rfl) ?_)
    obtain ⟨y31, h32, h⟩ := bnd_some h
    have h33 := h0
    rw [h32] at h33
    replace h33 : Ob 61 (index_Index.fs y31) _ _ _ _ _ := h33
    refine sv (rv_nilcheck rfl h33.ptr) (sv (rv_fieldAddr (b := pb v0) (o := 0) st61 rfl h33.ptr) ?_)
    obtain ⟨c34, h35⟩ := h33.at (i := 0) rfl
    refine sr (rw_ofield (i := 0) (c := c34) h33 ag56 h35 rfl) (sv (mvv (.int .i64 a1) rfl) ?_)
    obtain ⟨y36, h37, h⟩ := pur_some h
    have h42 : ∀ b, b ∈ fp0 → ¬ S25 b := fun b hb => (h33.lt b hb).2
    refine sc (dc_omdel (a := a1) h33 (i := 0) rfl h35 Tryz.underlying56 rfl rfl fun w38 h39 u40 => ?_)
    replace h39 : Ob 61 (index_Index.fs ({ y31 with series := (mrem a1 y31.series) } : index_Index)) S25 w38 v0 cs0 fp0 := h39
    rw [h37] at h39
    have c41 := Cx.ofUp C.sb u40
    replace h11 := h11.cf c41 h42
    replace C := C.ofc c41 hs0
    refine W.e (k30 _ _ ?_)
    refine cw_seq fun K43 k44 => ?_
    refine cw_region (sv (mvv v0 rfl) (sv (rv_nilcheck rfl h39.ptr) (sv (rv_fieldAddr (b := pb v0) (o := 0) st61 rfl h39.ptr) ?_)))
    obtain ⟨c45, h46⟩ := h39.at (i := 1) rfl
    refine sr (rw_ofield (i := 1) (c := c45) h39 ag57 h46 rfl) (sv (mvv (.string y22.2.1) rfl) ?_)
    obtain ⟨y47, h48, h⟩ := pur_some h
    have h53 : ∀ b, b ∈ fp0 → ¬ S25 b := fun b hb => (h39.lt b hb).2
    refine sc (dc_omdel (a := y22.2.1) h39 (i := 1) rfl h46 Tryz.underlying57 rfl rfl fun w49 h50 u51 => ?_)
    replace h50 : Ob 61 (index_Index.fs ({ y36 with ids := (mrem y22.2.1 y36.ids) } : index_Index)) S25 w49 v0 cs0 fp0 := h50
    rw [h48] at h50
    have c52 := Cx.ofUp C.sb u51
    replace h11 := h11.cf c52 h53
    replace C := C.ofc c52 hs0
    refine W.e (k44 _ _ ?_)
    obtain ⟨o54, h57, h⟩ := bnd_some h
    refine cw_seq' (fun ρ w1 => ∃ S1 fp277 cs279, Cx (fun b => b ∈ fp0) S w S1 w1 ∧ Has ρ [] ∧ Ob 61 (index_Index.fs o54) S1 w1 v0 cs279 fp277 ∧ (∀ b, b ∈ fp277 → b ∈ fp0 ∨ w.heap.size ≤ b)) ?_ ?_
    · refine cw_seq fun K58 k59 => ?_
      refine cw_region (sv (mvv v10 rfl) (sv (rv_lenS el31 h11 rfl) (sv (mvv (.int .i64 0) rfl) (W.e (k59 _ _ (cw_block ?_))))))
      refine cw_iter h57 (fun s ρ w1 => ∃ S1 fp64 cs66, Cx (fun b => b ∈ fp0) S w S1 w1 ∧ Has ρ [(0, v0), (1, .int .i64 a1), (36, v10), (37, .int .i64 (y5.1.length : Int)), (38, .int .i64 s.1)] ∧ Sl (kSl api_Label.k) S1 w1 v10 y5.1 ∧ Ob 61 (index_Index.fs s.2) S1 w1 v0 cs66 fp64 ∧ (∀ b, b ∈ fp64 → b ∈ fp0 ∨ w.heap.size ≤ b)) ⟨_, _, _, C, ⟨rfl, rfl, rfl, rfl, rfl, trivial⟩, h11, h50, hs0⟩ ?_
      rintro ⟨x68, x69⟩ q60 ρ w62 ⟨S61, fp64, cs66, C, h67, h11, h63, h65⟩ h71 h70
      refine h67.cw fun ρ => ?_
      clear h67
      replace h71 : index_Index_Drop.b2 a1 y5 x68 x69 = some q60 := h71
      unfold index_Index_Drop.b2 at h71
      refine cw_seq fun K72 k73 => ?_
      refine cw_region (sv (rv_lss rfl rfl) (W.e (k73 _ _ ?_)))
      refine cw_seq fun K74 k75 => ?_
      rcases bif_some h71 with ⟨b76, h71⟩ | ⟨b76, h71⟩
      · refine cw_t rfl b76 (cw_skip (k75 _ _ ?_))
        obtain ⟨o77, h80, h71⟩ := bnd_some h71
        refine cw_seq' (fun ρ w1 => ∃ S1 fp267 cs269, Cx (fun b => b ∈ fp0) S w S1 w1 ∧ Has ρ [(0, v0), (1, .int .i64 a1), (36, v10), (37, .int .i64 (y5.1.length : Int)), (38, .int .i64 x68)] ∧ Sl (kSl api_Label.k) S1 w1 v10 y5.1 ∧ Ob 61 (index_Index.fs o77) S1 w1 v0 cs269 fp267 ∧ (∀ b, b ∈ fp267 → b ∈ fp0 ∨ w.heap.size ≤ b)) ?_ ?_
        · refine cw_block ?_
          refine cw_seq fun K81 k82 => ?_
          refine cw_region ?_
          obtain ⟨y83, h84, h80⟩ := bnd_some h80
          refine sv (rv_index el31 h11 rfl rfl h84) ?_
          obtain ⟨v85, h86, h87⟩ := rw_loadA (P := Tryz.prog) el31 h11 h84
          obtain rfl := api_Label.o.1 h86
          refine sr (h87 _ (Sm.refl _ _) rfl) ?_
          refine sc (dc_allocO (x0 := (api_Label.mk ByteArray.empty ByteArray.empty)) (base := w.heap.size) el31 zr46 (fun _ => api_Label.r.2 rfl) C.up.size C.sb fun b88 w89 h90 h91 u92 => ?_)
          have p93 := ap_fresh h91 (fun b hb => (h63.lt b hb).1)
          replace h63 := h63.nw u92
          replace h11 := h11.nw u92
          replace C := C.new u92
          obtain ⟨y94, h95, h80⟩ := pur_some h80
          have h99 := h90
          refine sc (dc_storeO el31 h99 (show at_ [(api_Label.mk ByteArray.empty ByteArray.empty)] (0 : Int) = some (api_Label.mk ByteArray.empty ByteArray.empty) from rfl) rfl rfl (((api_Label.o (x := y83)).2 rfl)) fun w96 h97 u98 => ?_)
          replace h97 : Ow api_Label.k 46 S61 w.heap.size w96 (.slice (some ⟨b88, 0, none⟩) 1 1) [y83] := h97
          rw [h95] at h97
          replace h63 := h63.wr u98 h99.not (ap_symm p93)
          replace h11 := h11.wr u98 h99.not
          replace C := C.ow h99 u98
          refine W.e (k82 _ _ ?_)
          obtain ⟨o100, h103, h80⟩ := bnd_some h80
          refine cw_seq' (fun ρ w1 => ∃ S1 fp183 cs185, Cx (fun b => b ∈ fp0) S w S1 w1 ∧ Has ρ [(0, v0), (1, .int .i64 a1), (11, .pointer (some ⟨b88, 0, none⟩)), (36, v10), (37, .int .i64 (y5.1.length : Int)), (38, .int .i64 x68)] ∧ Ow api_Label.k 46 S1 w.heap.size w1 (.slice (some ⟨b88, 0, none⟩) 1 1) ([y94]) ∧ Sl (kSl api_Label.k) S1 w1 v10 y5.1 ∧ Ob 61 (index_Index.fs o100) S1 w1 v0 cs185 fp183 ∧ (∀ b, b ∈ fp183 → b ∈ fp0 ∨ w.heap.size ≤ b) ∧ (∀ b, Blk (.slice (some ⟨b88, 0, none⟩) 1 1) b → ¬ b ∈ fp183)) ?_ ?_
          · refine cw_seq fun K104 k105 => ?_
            obtain ⟨c108, h109⟩ := h63.at (i := 0) rfl
            obtain ⟨c110, h111⟩ := h63.at (i := 1) rfl
            obtain ⟨c112, h113⟩ := h63.at (i := 2) rfl
            obtain ⟨c114, h115⟩ := h63.at (i := 3) rfl
            refine cw_drawU (.one 0 true (.one 1 true (.one 2 true (.one 3 true (.one 4 true (.one 5 true (.one 6 true (.one 7 true (.one 8 true (.one 9 true (.one 10 true (.one 11 true (.one 12 false (.one 13 false .done)))))))))))))) [(3, [10]), (4, [1000]), (8, [10]), (9, [1000]), (10, [102])] [(12, [10, 1000]), (13, [])] (fun c => bif Nat.beq c 10 then (One (pb v0)) else bif Nat.beq c 102 then (One (mb c112)) else bif Nat.beq c 1000 then (Or S61 (Blk (.slice (some ⟨b88, 0, none⟩) 1 1))) else No) fol (by kernel_rfl) fun w106 u107 => ?_
            replace h63 := h63.nw u107
            replace h97 := h97.nw u107
            replace h11 := h11.nw u107
            replace C := C.new u107
            have h63d := h63
            have h97d := h97
            have h11d := h11
            have m116 := Sm.refl (One (pb v0)) w106
            have m117 := Sm.refl (One (mb c112)) w106
            have m118 := Sm.refl (Or S61 (Blk (.slice (some ⟨b88, 0, none⟩) 1 1))) w106
            refine mtv rfl rfl (mvv v0 rfl) (mtv rfl rfl (rv_nilcheck rfl h63.ptr) (mtv rfl rfl (rv_fieldAddr (b := pb v0) (o := 0) st61 rfl h63.ptr) (mtr rfl rfl ⟨m116, trivial⟩ (fun w' hq => rw_ofieldU (i := 2) (c := c112) h63 hq.1 ag58 h113 rfl) ?_)))
            obtain ⟨v119, h120, h121⟩ := rw_loadO (P := Tryz.prog) el31 h97 (show at_ [y94] (0 : Int) = some y94 from rfl)
            obtain rfl := api_Label.o.1 h120
            refine mtr rfl rfl ⟨m118, trivial⟩ (fun w' hq => h121 w' hq.1 rfl) (mtv rfl rfl (mvv v0 rfl) (mtv rfl rfl (rv_nilcheck rfl h63.ptr) (mtv rfl rfl (rv_fieldAddr (b := pb v0) (o := 0) st61 rfl h63.ptr) (mtr rfl rfl ⟨m116, trivial⟩ (fun w' hq => rw_ofieldU (i := 2) (c := c112) h63 hq.1 ag58 h113 rfl) ?_))))
            obtain ⟨v122, h123, h124⟩ := rw_loadO (P := Tryz.prog) el31 h97 (show at_ [y94] (0 : Int) = some y94 from rfl)
            obtain rfl := api_Label.o.1 h123
            refine mtr rfl rfl ⟨m118, trivial⟩ (fun w' hq => h124 w' hq.1 rfl) ?_
            obtain ⟨_, h125, h126⟩ := Ob.rep h63 (i := 2) rfl h113
            obtain ⟨v127, h128, h129⟩ := rep_look (P := Tryz.prog) (tm := 58) (te := 49) (y0 := ([] : List Int)) h125 Tryz.underlying58 zv49 (sl_nil _ _ _) y94
            refine mtr rfl rfl ⟨m117, trivial⟩ (fun w' hq => (h129 hq.1 rfl rfl).1) (mtv rfl rfl (mvv (.int .i64 a1) rfl) ?_)
            obtain ⟨y130, h131, h103⟩ := bnd_some h103
            refine mtc rfl rfl (dc_call (vs := [v127, .int .i64 a1]) can53 rfl ?_)
            refine (index_less_w C.sb h128 h131).mono ?_
            rintro _ w132 ⟨S133, v135, rfl, c134, h136⟩
            refine ⟨_, rfl, ?_⟩
            replace h63 := h63.cx c134
            replace h11 := h11.cx c134
            replace h97 := h97.cx c134
            replace C := C.trans c134
            have z137 := (c134.up).size
            have m138 := m116.nx c134.up (by omega)
            have m139 := m117.nx c134.up (by omega)
            have m140 := m118.nx c134.up (by omega)
            refine ⟨⟨m138, m140, trivial⟩, ?_⟩
            obtain ⟨y141, h142, h103⟩ := pur_some h103
            have h147 : ∀ b, b ∈ fp64 → ¬ S133 b := fun b hb => (h63.lt b hb).2
            refine mtc rfl rfl (dc_omset (a := y94) h63 (i := 2) rfl h113 Tryz.underlying58 rfl rfl rfl h136 fun w143 h144 u145 => ?_)
            replace h144 : Ob 61 (index_Index.fs ({ x69 with posts := (mput y94 y130 x69.posts) } : index_Index)) S133 w143 v0 cs66 fp64 := h144
            rw [h142] at h144
            have c146 := Cx.ofUp C.sb u145
            replace h11 := h11.cf c146 h147
            replace h97 := h97.cf c146 h147 p93
            replace C := C.ofc c146 h65
            have z148 := (u145).size
            have m149 := m140.wrC u145 (by omega) (fun b hb hs => hs.elim ((fun b hb hs => h147 b hb ((fun b h => c134.ge.le b h) b hs)) b hb) ((ap_symm p93) b hb))
            refine ⟨trivial, ?_⟩
            refine MT.e (k105 _ _ ?_)
            refine cw_seq fun K150 k151 => ?_
            refine cw_drawU (.one 0 true (.one 1 true (.one 2 true (.one 3 true (.one 4 true (.one 5 true (.one 6 true (.one 7 true .done)))))))) [(3, [9]), (4, [9]), (5, [9])] [] (fun c => bif Nat.beq c 9 then (fun _ => True) else No) fol (by kernel_rfl) fun w152 u153 => ?_
            replace h144 := h144.nw u153
            replace h11 := h11.nw u153
            replace h97 := h97.nw u153
            replace C := C.new u153
            have m154 := Sm.refl (fun _ => True) w152
            refine mtv rfl rfl (mvv v0 rfl) (mtv rfl rfl (rv_nilcheck rfl h144.ptr) (mtv rfl rfl (rv_fieldAddr (b := pb v0) (o := 0) st61 rfl h144.ptr) (mtr rfl rfl ⟨m154, trivial⟩ (fun w' hq => rw_ofieldU (i := 2) (c := c112) h144 (hq.1.mono fun _ _ => trivial) ag58 h113 rfl) ?_)))
            obtain ⟨v155, h156, h157⟩ := rw_loadO (P := Tryz.prog) el31 h97 (show at_ [y94] (0 : Int) = some y94 from rfl)
            obtain rfl := api_Label.o.1 h156
            refine mtr rfl rfl ⟨m154, trivial⟩ (fun w' hq => h157 w' (hq.1.mono fun _ _ => trivial) rfl) ?_
            obtain ⟨_, h158, h159⟩ := Ob.rep h144 (i := 2) rfl h113
            obtain ⟨v160, h161, h162⟩ := rep_look (P := Tryz.prog) (tm := 58) (te := 49) (y0 := ([] : List Int)) h158 Tryz.underlying58 zv49 (sl_nil _ _ _) y94
            refine mtr rfl rfl ⟨m154, trivial⟩ (fun w' hq => (h162 (hq.1.mono fun _ _ => trivial) rfl rfl).1) (mtv rfl rfl (rv_lenS el49 h161 rfl) (mtv rfl rfl (rv_eql rfl rfl) (MT.e (k151 _ _ ?_))))
            rcases bif_some h103 with ⟨b163, h103⟩ | ⟨b163, h103⟩
            · refine cw_t rfl b163 ?_
              refine cw_drawU (.one 0 true (.one 1 true (.one 2 true (.one 3 true (.one 4 true (.one 5 false .done)))))) [(3, [10]), (4, [1000])] [(5, [])] (fun c => bif Nat.beq c 10 then (One (pb v0)) else bif Nat.beq c 1000 then (Or S133 (Blk (.slice (some ⟨b88, 0, none⟩) 1 1))) else No) fol (by kernel_rfl) fun w164 u165 => ?_
              replace h144 := h144.nw u165
              replace h11 := h11.nw u165
              replace h97 := h97.nw u165
              replace C := C.new u165
              have h144d := h144
              have h11d := h11
              have h97d := h97
              have m166 := Sm.refl (One (pb v0)) w164
              have m167 := Sm.refl (Or S133 (Blk (.slice (some ⟨b88, 0, none⟩) 1 1))) w164
              refine mtv rfl rfl (mvv v0 rfl) (mtv rfl rfl (rv_nilcheck rfl h144.ptr) (mtv rfl rfl (rv_fieldAddr (b := pb v0) (o := 0) st61 rfl h144.ptr) (mtr rfl rfl ⟨m166, trivial⟩ (fun w' hq => rw_ofieldU (i := 2) (c := c112) h144 hq.1 ag58 h113 rfl) ?_)))
              obtain ⟨v168, h169, h170⟩ := rw_loadO (P := Tryz.prog) el31 h97 (show at_ [y94] (0 : Int) = some y94 from rfl)
              obtain rfl := api_Label.o.1 h169
              refine mtr rfl rfl ⟨m167, trivial⟩ (fun w' hq => h170 w' hq.1 rfl) ?_
              obtain ⟨y171, h172, h103⟩ := pur_some h103
              have h177 : ∀ b, b ∈ fp64 → ¬ S133 b := fun b hb => (h144.lt b hb).2
              refine mtc rfl rfl (dc_omdel (a := y94) h144 (i := 2) rfl h113 Tryz.underlying58 rfl rfl fun w173 h174 u175 => ?_)
              replace h174 : Ob 61 (index_Index.fs ({ y141 with posts := (mrem y94 y141.posts) } : index_Index)) S133 w173 v0 cs66 fp64 := h174
              rw [h172] at h174
              have c176 := Cx.ofUp C.sb u175
              replace h11 := h11.cf c176 h177
              replace h97 := h97.cf c176 h177 p93
              replace C := C.ofc c176 h65
              have z178 := (u175).size
              have m179 := m167.wrC u175 (by omega) (fun b hb hs => hs.elim (h177 b hb) ((ap_symm p93) b hb))
              refine ⟨trivial, ?_⟩
              refine MT.e ?_
              obtain rfl := osi h103
              exact ⟨_, _, _, C, ⟨rfl, rfl, rfl, rfl, rfl, rfl, trivial⟩, h97, h11, h174, h65, p93⟩
            · refine cw_f rfl b163 (cw_skip ?_)
              obtain rfl := osi h103
              exact ⟨_, _, _, C, ⟨rfl, rfl, rfl, rfl, rfl, rfl, trivial⟩, h97, h11, h144, h65, p93⟩
          · rintro ρ w181 ⟨S180, fp183, cs185, C, h187, h97, h11, h182, h184, p186⟩
            refine h187.cw fun ρ => ?_
            clear h187
            refine cw_seq fun K188 k189 => ?_
            obtain ⟨c192, h193⟩ := h182.at (i := 0) rfl
            obtain ⟨c194, h195⟩ := h182.at (i := 1) rfl
            obtain ⟨c196, h197⟩ := h182.at (i := 2) rfl
            obtain ⟨c198, h199⟩ := h182.at (i := 3) rfl
            refine cw_drawU (.one 0 true (.one 1 true (.one 2 true (.one 3 true (.one 4 true (.one 5 true (.one 6 true (.one 7 true (.one 8 true (.one 9 true (.one 10 true (.one 11 true (.one 12 true (.one 13 true (.one 14 false (.one 15 false .done)))))))))))))))) [(3, [10]), (5, [1000]), (9, [10]), (11, [1000]), (12, [103])] [(14, [10, 1000]), (15, [])] (fun c => bif Nat.beq c 10 then (One (pb v0)) else bif Nat.beq c 103 then (One (mb c198)) else bif Nat.beq c 1000 then (Or S180 (Blk (.slice (some ⟨b88, 0, none⟩) 1 1))) else No) fol (by kernel_rfl) fun w190 u191 => ?_
            replace h182 := h182.nw u191
            replace h97 := h97.nw u191
            replace h11 := h11.nw u191
            replace C := C.new u191
            have h182d := h182
            have h97d := h97
            have h11d := h11
            have m200 := Sm.refl (One (pb v0)) w190
            have m201 := Sm.refl (One (mb c198)) w190
            have m202 := Sm.refl (Or S180 (Blk (.slice (some ⟨b88, 0, none⟩) 1 1))) w190
            refine mtv rfl rfl (mvv v0 rfl) (mtv rfl rfl (rv_nilcheck rfl h182.ptr) (mtv rfl rfl (rv_fieldAddr (b := pb v0) (o := 0) st61 rfl h182.ptr) (mtr rfl rfl ⟨m200, trivial⟩ (fun w' hq => rw_ofieldU (i := 3) (c := c198) h182 hq.1 ag59 h199 rfl) (mtv rfl rfl (rv_fieldAddr st46 rfl rfl) ?_))))
            obtain ⟨cs203, h204, h205⟩ := Ow.cellsO h97 (show at_ [y94] (0 : Int) = some y94 from rfl)
            obtain rfl := api_Label.r.1 h204
            refine mtr rfl rfl ⟨m202, trivial⟩ (fun w' hq => rw_el1 (off := 0) ag9 (h205 w' hq.1) rfl rfl) (mtv rfl rfl (mvv v0 rfl) (mtv rfl rfl (rv_nilcheck rfl h182.ptr) (mtv rfl rfl (rv_fieldAddr (b := pb v0) (o := 0) st61 rfl h182.ptr) (mtr rfl rfl ⟨m200, trivial⟩ (fun w' hq => rw_ofieldU (i := 3) (c := c198) h182 hq.1 ag59 h199 rfl) (mtv rfl rfl (rv_fieldAddr st46 rfl rfl) ?_)))))
            obtain ⟨cs206, h207, h208⟩ := Ow.cellsO h97 (show at_ [y94] (0 : Int) = some y94 from rfl)
            obtain rfl := api_Label.r.1 h207
            refine mtr rfl rfl ⟨m202, trivial⟩ (fun w' hq => rw_el1 (off := 0) ag9 (h208 w' hq.1) rfl rfl) ?_
            obtain ⟨_, h209, h210⟩ := Ob.rep h182 (i := 3) rfl h199
            obtain ⟨v211, h212, h213⟩ := rep_look (P := Tryz.prog) (tm := 59) (te := 49) (y0 := ([] : List Int)) h209 Tryz.underlying59 zv49 (sl_nil _ _ _) y94.Name
            refine mtr rfl rfl ⟨m201, trivial⟩ (fun w' hq => (h213 hq.1 rfl rfl).1) (mtv rfl rfl (mvv (.int .i64 a1) rfl) ?_)
            obtain ⟨y214, h215, h80⟩ := bnd_some h80
            refine mtc rfl rfl (dc_call (vs := [v211, .int .i64 a1]) can53 rfl ?_)
            refine (index_less_w C.sb h212 h215).mono ?_
            rintro _ w216 ⟨S217, v219, rfl, c218, h220⟩
            refine ⟨_, rfl, ?_⟩
            replace h182 := h182.cx c218
            replace h11 := h11.cx c218
            replace h97 := h97.cx c218
            replace C := C.trans c218
            have z221 := (c218.up).size
            have m222 := m200.nx c218.up (by omega)
            have m223 := m201.nx c218.up (by omega)
            have m224 := m202.nx c218.up (by omega)
            refine ⟨⟨m222, m224, trivial⟩, ?_⟩
            obtain ⟨y225, h226, h80⟩ := pur_some h80
            have h231 : ∀ b, b ∈ fp183 → ¬ S217 b := fun b hb => (h182.lt b hb).2
            refine mtc rfl rfl (dc_omset (a := y94.Name) h182 (i := 3) rfl h199 Tryz.underlying59 rfl rfl rfl h220 fun w227 h228 u229 => ?_)
            replace h228 : Ob 61 (index_Index.fs ({ o100 with names := (mput y94.Name y214 o100.names) } : index_Index)) S217 w227 v0 cs185 fp183 := h228
            rw [h226] at h228
            have c230 := Cx.ofUp C.sb u229
            replace h11 := h11.cf c230 h231
            replace h97 := h97.cf c230 h231 p186
            replace C := C.ofc c230 h184
            have z232 := (u229).size
            have m233 := m224.wrC u229 (by omega) (fun b hb hs => hs.elim ((fun b hb hs => h231 b hb ((fun b h => c218.ge.le b h) b hs)) b hb) ((ap_symm p186) b hb))
            refine ⟨trivial, ?_⟩
            refine MT.e (k189 _ _ ?_)
            refine cw_seq fun K234 k235 => ?_
            refine cw_drawU (.one 0 true (.one 1 true (.one 2 true (.one 3 true (.one 4 true (.one 5 true (.one 6 true (.one 7 true (.one 8 true .done))))))))) [(3, [9]), (5, [9]), (6, [9])] [] (fun c => bif Nat.beq c 9 then (fun _ => True) else No) fol (by kernel_rfl) fun w236 u237 => ?_
            replace h228 := h228.nw u237
            replace h11 := h11.nw u237
            replace h97 := h97.nw u237
            replace C := C.new u237
            have m238 := Sm.refl (fun _ => True) w236
            refine mtv rfl rfl (mvv v0 rfl) (mtv rfl rfl (rv_nilcheck rfl h228.ptr) (mtv rfl rfl (rv_fieldAddr (b := pb v0) (o := 0) st61 rfl h228.ptr) (mtr rfl rfl ⟨m238, trivial⟩ (fun w' hq => rw_ofieldU (i := 3) (c := c198) h228 (hq.1.mono fun _ _ => trivial) ag59 h199 rfl) (mtv rfl rfl (rv_fieldAddr st46 rfl rfl) ?_))))
            obtain ⟨cs239, h240, h241⟩ := Ow.cellsO h97 (show at_ [y94] (0 : Int) = some y94 from rfl)
            obtain rfl := api_Label.r.1 h240
            refine mtr rfl rfl ⟨m238, trivial⟩ (fun w' hq => rw_el1 (off := 0) ag9 (h241 w' (hq.1.mono fun _ _ => trivial)) rfl rfl) ?_
            obtain ⟨_, h242, h243⟩ := Ob.rep h228 (i := 3) rfl h199
            obtain ⟨v244, h245, h246⟩ := rep_look (P := Tryz.prog) (tm := 59) (te := 49) (y0 := ([] : List Int)) h242 Tryz.underlying59 zv49 (sl_nil _ _ _) y94.Name
            refine mtr rfl rfl ⟨m238, trivial⟩ (fun w' hq => (h246 (hq.1.mono fun _ _ => trivial) rfl rfl).1) (mtv rfl rfl (rv_lenS el49 h245 rfl) (mtv rfl rfl (rv_eql rfl rfl) (MT.e (k235 _ _ ?_))))
            rcases bif_some h80 with ⟨b247, h80⟩ | ⟨b247, h80⟩
            · refine cw_t rfl b247 ?_
              refine cw_drawU (.one 0 true (.one 1 true (.one 2 true (.one 3 true (.one 4 true (.one 5 true (.one 6 false .done))))))) [(3, [10]), (5, [1000])] [(6, [])] (fun c => bif Nat.beq c 10 then (One (pb v0)) else bif Nat.beq c 1000 then (Or S217 (Blk (.slice (some ⟨b88, 0, none⟩) 1 1))) else No) fol (by kernel_rfl) fun w248 u249 => ?_
              replace h228 := h228.nw u249
              replace h11 := h11.nw u249
              replace h97 := h97.nw u249
              replace C := C.new u249
              have h228d := h228
              have h11d := h11
              have h97d := h97
              have m250 := Sm.refl (One (pb v0)) w248
              have m251 := Sm.refl (Or S217 (Blk (.slice (some ⟨b88, 0, none⟩) 1 1))) w248
              refine mtv rfl rfl (mvv v0 rfl) (mtv rfl rfl (rv_nilcheck rfl h228.ptr) (mtv rfl rfl (rv_fieldAddr (b := pb v0) (o := 0) st61 rfl h228.ptr) (mtr rfl rfl ⟨m250, trivial⟩ (fun w' hq => rw_ofieldU (i := 3) (c := c198) h228 hq.1 ag59 h199 rfl) (mtv rfl rfl (rv_fieldAddr st46 rfl rfl) ?_))))
              obtain ⟨cs252, h253, h254⟩ := Ow.cellsO h97 (show at_ [y94] (0 : Int) = some y94 from rfl)
              obtain rfl := api_Label.r.1 h253
              refine mtr rfl rfl ⟨m251, trivial⟩ (fun w' hq => rw_el1 (off := 0) ag9 (h254 w' hq.1) rfl rfl) ?_
              obtain ⟨y255, h256, h80⟩ := pur_some h80
              have h261 : ∀ b, b ∈ fp183 → ¬ S217 b := fun b hb => (h228.lt b hb).2
              refine mtc rfl rfl (dc_omdel (a := y94.Name) h228 (i := 3) rfl h199 Tryz.underlying59 rfl rfl fun w257 h258 u259 => ?_)
              replace h258 : Ob 61 (index_Index.fs ({ y225 with names := (mrem y94.Name y225.names) } : index_Index)) S217 w257 v0 cs185 fp183 := h258
              rw [h256] at h258
              have c260 := Cx.ofUp C.sb u259
              replace h11 := h11.cf c260 h261
              replace C := C.ofc c260 h184
              have z262 := (u259).size
              have m263 := m251.wrC u259 (by omega) (fun b hb hs => hs.elim (h261 b hb) ((ap_symm p186) b hb))
              refine ⟨trivial, ?_⟩
              refine MT.e ?_
              obtain rfl := osi h80
              exact ⟨_, _, _, C, ⟨rfl, rfl, rfl, rfl, rfl, trivial⟩, h11, h258, h184⟩
            · refine cw_f rfl b247 (cw_skip ?_)
              obtain rfl := osi h80
              exact ⟨_, _, _, C, ⟨rfl, rfl, rfl, rfl, rfl, trivial⟩, h11, h228, h184⟩
        · rintro ρ w265 ⟨S264, fp267, cs269, C, h270, h11, h266, h268⟩
          refine h270.cw fun ρ => ?_
          clear h270
          refine cw_region ?_
          obtain ⟨y271, h272, h71⟩ := pur_some h71
          refine sv (rv_add rfl rfl h272) (sv (mvv (.int .i64 y271) rfl) (W.e ?_))
          obtain rfl := osi h71
          exact ⟨_, rfl, ⟨_, _, _, C, ⟨rfl, rfl, rfl, rfl, rfl, trivial⟩, h11, h266, h268⟩⟩
      · refine cw_f rfl b76 (cw_exit ?_)
        obtain rfl := osi h71
        have h273 := congrArg some h70
        obtain rfl := osi h273
        exact ⟨_, _, _, C, trivial, h63, h65⟩
    · rintro ρ w275 ⟨S274, fp277, cs279, C, h280, h276, h278⟩
      refine h280.cw fun ρ => ?_
      clear h280
      refine cw_seq fun K281 k282 => ?_
      refine cw_region (sv (asv (.int .i64 0) rfl) (W.e (k282 _ _ (cw_ret ?_))))
      obtain rfl := osi h
      exact ⟨_, rfl, _, _, _, rfl, C, h276, h278⟩

noncomputable def marigraphref04_Ints.b2 (a0 : List Int) (a1 : List Int) (x20 : Int) : Option ((Int) ⊕ ((Unit) ⊕ (Bool))) :=
  (bif (decide (x20 < (a0.length : Int))) then ((at_ a0 x20).bind fun y35 => ((at_ a1 x20).bind fun y37 => (bif (y35 != y37) then some (.inr (.inr false)) else (pur (IntKind.i64.wrap (x20 + (1 : Int))) fun y43 => some (.inl y43))))) else some (.inr (.inl ())))
noncomputable def marigraphref04_Ints (a0 : List Int) (a1 : List Int) : Option Bool :=
  (bif ((a0.length : Int) != (a1.length : Int)) then some false else ((iter (fun s : Int => marigraphref04_Ints.b2 a0 a1 s) (0 : Int)).bind (Sum.elim (fun o10n => some true) (fun q => some q))))
theorem marigraphref04_Ints_w {S : Nat → Prop} {w : World} {a0 : List Int} {a1 : List Int} {v0 v1 : Value} {r : Bool} (hS : Sb S w) (h0 : Sl (kSl (kI .i64)) S w v0 a0) (h1 : Sl (kSl (kI .i64)) S w v1 a1) (h : marigraphref04_Ints a0 a1 = some r) :
    Calls Tryz.prog 17 (List.toArray [v0, v1]) w fun e w1 => ∃ S1, e = .returned (.bool r) ∧ Cx No S w S1 w1 := by
  refine enter Tryz.func17 rfl (by kernel_rfl) rfl ?_
  have C := Cx.refl (F := No) hS
  unfold marigraphref04_Ints at h
  refine cw_seq fun K1 k2 => ?_
  refine cw_region (sv (asv (.bool false) rfl) (W.e (k2 _ _ ?_)))
  refine cw_seq fun K3 k4 => ?_
  refine cw_seq fun K5 k6 => ?_
  refine cw_region (sv (mvv v0 rfl) (sv (rv_lenS el49 h0 rfl) (sv (mvv v1 rfl) (sv (rv_lenS el49 h1 rfl) (sv (rv_neq rfl rfl) (W.e (k6 _ _ ?_)))))))
  rcases bif_some h with ⟨b7, h⟩ | ⟨b7, h⟩
  · refine cw_t rfl b7 ?_
    refine cw_seq fun K8 k9 => ?_
    refine cw_region (sv (asv (.bool false) rfl) (W.e (k9 _ _ (cw_ret ?_))))
    obtain rfl := osi h
    exact ⟨_, rfl, _, rfl, C⟩
  · refine cw_f rfl b7 (cw_skip (k4 _ _ ?_))
    obtain ⟨o10, h13, h⟩ := bnds_some h
    refine cw_seq' (fun ρ w1 => ∃ o10n, o10 = (.inl o10n) ∧ ∃ S1, Cx No S w S1 w1 ∧ Has ρ []) ?_ ?_
    · refine cw_seq fun K14 k15 => ?_
      refine cw_region (sv (asv (.int .i64 0) rfl) (W.e (k15 _ _ (cw_block ?_))))
      refine cw_iter h13 (fun s ρ w1 => ∃ S1, Cx No S w S1 w1 ∧ Has ρ [(0, v0), (1, v1), (5, .int .i64 s)] ∧ Sl (kSl (kI .i64)) S1 w1 v0 a0 ∧ Sl (kSl (kI .i64)) S1 w1 v1 a1) ⟨_, C, ⟨rfl, rfl, rfl, trivial⟩, h0, h1⟩ ?_
      rintro x20 q16 ρ w18 ⟨S17, C, h19, h0, h1⟩ h22 h21
      refine h19.cw fun ρ => ?_
      clear h19
      replace h22 : marigraphref04_Ints.b2 a0 a1 x20 = some q16 := h22
      unfold marigraphref04_Ints.b2 at h22
      refine cw_seq fun K23 k24 => ?_
      refine cw_seq fun K25 k26 => ?_
      refine cw_region (sv (mvv (.int .i64 x20) rfl) (sv (mvv v0 rfl) (sv (rv_lenS el49 h0 rfl) (sv (rv_lss rfl rfl) (W.e (k26 _ _ ?_))))))
      rcases bif_some h22 with ⟨b27, h22⟩ | ⟨b27, h22⟩
      · refine cw_t rfl b27 (cw_skip (k24 _ _ ?_))
        refine cw_seq fun K28 k29 => ?_
        refine cw_block ?_
        refine cw_seq fun K30 k31 => ?_
        refine cw_drawU (.one 0 true (.one 1 true (.one 2 true (.one 3 true (.one 4 true (.one 5 true (.one 6 true (.one 7 true (.one 8 true .done))))))))) [(3, [9]), (7, [9])] [] (fun c => bif Nat.beq c 9 then (fun _ => True) else No) fol (by kernel_rfl) fun w32 u33 => ?_
        replace h0 := h0.nw u33
        replace h1 := h1.nw u33
        replace C := C.new u33
        have m34 := Sm.refl (fun _ => True) w32
        refine mtv rfl rfl (mvv v0 rfl) (mtv rfl rfl (mvv (.int .i64 x20) rfl) ?_)
        obtain ⟨y35, h36, h22⟩ := bnd_some h22
        refine mtv rfl rfl (rv_index el49 h0 rfl rfl h36) (mtr rfl rfl ⟨m34, trivial⟩ (fun w' hq => rw_loadC el49 h0 h36 rfl w' (hq.1.mono fun _ _ => trivial)) (mtv rfl rfl (mvv v1 rfl) (mtv rfl rfl (mvv (.int .i64 x20) rfl) ?_)))
        obtain ⟨y37, h38, h22⟩ := bnd_some h22
        refine mtv rfl rfl (rv_index el49 h1 rfl rfl h38) (mtr rfl rfl ⟨m34, trivial⟩ (fun w' hq => rw_loadC el49 h1 h38 rfl w' (hq.1.mono fun _ _ => trivial)) (mtv rfl rfl (rv_neq rfl rfl) (MT.e (k31 _ _ ?_))))
        rcases bif_some h22 with ⟨b39, h22⟩ | ⟨b39, h22⟩
        · refine cw_t rfl b39 ?_
          refine cw_seq fun K40 k41 => ?_
          refine cw_region (sv (asv (.bool false) rfl) (W.e (k41 _ _ (cw_ret ?_))))
          obtain rfl := osi h22
          have h42 := congrArg some h21
          obtain rfl := osi h42
          replace h := h.2 _ rfl
          obtain rfl := osi h
          exact ⟨_, rfl, _, rfl, C⟩
        · refine cw_f rfl b39 (cw_skip (k29 _ _ (cw_region (sv (mvv (.int .i64 x20) rfl) ?_))))
          obtain ⟨y43, h44, h22⟩ := pur_some h22
          refine sv (rv_add rfl rfl h44) (sv (asv (.int .i64 y43) rfl) (W.e ?_))
          obtain rfl := osi h22
          exact ⟨_, rfl, ⟨_, C, ⟨rfl, rfl, rfl, trivial⟩, h0, h1⟩⟩
      · refine cw_f rfl b27 (cw_exit ?_)
        obtain rfl := osi h22
        have h45 := congrArg some h21
        obtain rfl := osi h45
        exact ⟨_, rfl, ⟨_, C, trivial⟩⟩
    · rintro ρ w47 ⟨o10n, rfl, ⟨S46, C, h48⟩⟩
      replace h := h.1 _ rfl
      refine h48.cw fun ρ => ?_
      clear h48
      refine cw_seq fun K49 k50 => ?_
      refine cw_region (sv (asv (.bool true) rfl) (W.e (k50 _ _ (cw_ret ?_))))
      obtain rfl := osi h
      exact ⟨_, rfl, _, rfl, C⟩

noncomputable def marigraphlaw08_shown  : Option Bool :=
  ((index_New).bind fun y5 => (bif y5.isNone then some false else ((index_Index_Add y5 ([(api_Label.mk (ByteArray.mk #[97]) (ByteArray.mk #[49]))] : List api_Label)).bind fun y40 => ((index_Index_Add y40.2.2 ([(api_Label.mk (ByteArray.mk #[97]) (ByteArray.mk #[50]))] : List api_Label)).bind fun y54 => ((index_Index_Add y54.2.2 ([(api_Label.mk (ByteArray.mk #[97]) (ByteArray.mk #[49]))] : List api_Label)).bind fun y67 => ((index_Index_Find y67.2.2 ([(api_Ask.mk (3 : Int) (ByteArray.mk #[97]) (ByteArray.mk #[50]))] : List api_Ask)).bind fun y86 => ((index_Index_Drop y67.2.2 (0 : Int)).bind fun y96 => ((index_Index_Add y96.2 ([(api_Label.mk (ByteArray.mk #[97]) (ByteArray.mk #[49]))] : List api_Label)).bind fun y110 => ((bif (y40.1 == (0 : Int)) then (bif (y54.1 == (1 : Int)) then (bif (y67.1 == (0 : Int)) then (bif (y110.1 == (2 : Int)) then (bif (y40.2.1 == (0 : Int)) then (bif (y54.2.1 == (0 : Int)) then (bif (y67.2.1 == (0 : Int)) then (bif (y86.2 == (0 : Int)) then (bif (y96.1 == (0 : Int)) then (bif (y110.2.1 == (0 : Int)) then ((marigraphref04_Ints y86.1 ([(1 : Int)] : List Int)).bind fun y142 => some y142) else some false) else some false) else some false) else some false) else some false) else some false) else some false) else some false) else some false) else some false).bind fun o122 => some o122)))))))))
theorem marigraphlaw08_shown_w {S : Nat → Prop} {w : World}  {r : Bool} (hS : Sb S w)  (h : marigraphlaw08_shown = some r) :
    Calls Tryz.prog 5 (List.toArray []) w fun e w1 => ∃ S1, e = .returned (.bool r) ∧ Cx No S w S1 w1 := by
  refine enter Tryz.func5 rfl (by kernel_rfl) rfl ?_
  have C := Cx.refl (F := No) hS
  unfold marigraphlaw08_shown at h
  refine cw_seq fun K1 k2 => ?_
  refine cw_region (sv (asv (.bool false) rfl) (W.e (k2 _ _ ?_)))
  refine cw_seq fun K3 k4 => ?_
  refine cw_region ?_
  obtain ⟨y5, h6, h⟩ := bnd_some h
  refine sc (dc_call (vs := []) can6 rfl ?_)
  refine (index_New_w C.sb  h6).mono ?_
  rintro _ w7 ⟨S8, v10, cs11, fp12, rfl, c9, h13, h14⟩
  refine ⟨_, rfl, ?_⟩
  have h15 : ∀ b, b ∈ fp12 → w.heap.size ≤ b := fun b hb => Nat.le_trans C.up.size (h14 b hb)
  replace C := C.trans c9
  refine sv (asv v10 rfl) (W.e (k4 _ _ ?_))
  refine cw_seq fun K16 k17 => ?_
  refine cw_seq fun K18 k19 => ?_
  refine cw_region (sv (mvv v10 rfl) (sv (rv_nileq Tryz.underlying24 rfl rfl h13.ne) (W.e (k19 _ _ ?_))))
  rcases bif_some h with ⟨b20, h⟩ | ⟨b20, h⟩
  · refine cw_t rfl b20 ?_
    refine cw_seq fun K21 k22 => ?_
    refine cw_region (sv (asv (.bool false) rfl) (W.e (k22 _ _ (cw_ret ?_))))
    obtain rfl := osi h
    exact ⟨_, rfl, _, rfl, C⟩
  · refine cw_f rfl b20 (cw_skip (k17 _ _ ?_))
    refine cw_seq fun K23 k24 => ?_
    refine cw_region (sv (rv_build (r := [.string (ByteArray.mk #[97]), .string (ByteArray.mk #[49])]) st46 zr46 rfl) ?_)
    refine sc (dc_lit (vs := [.agg (List.toArray [.string (ByteArray.mk #[97]), .string (ByteArray.mk #[49])])]) (xs := ([(api_Label.mk (ByteArray.mk #[97]) (ByteArray.mk #[49]))] : List api_Label)) (base := w.heap.size) el31 rfl rfl (.cons ((api_Label.o (x := (api_Label.mk (ByteArray.mk #[97]) (ByteArray.mk #[49])))).2 rfl) (.nil)) (Nat.le_of_ble_eq_true rfl) C.up.size C.sb fun v25 w26 h27 h28 u29 => ?_)
    have p30 := ap_fresh h28 (fun b hb => (h13.lt b hb).1)
    replace h13 := h13.nw u29
    replace C := C.new u29
    refine sv (rv_build (r := [.string (ByteArray.mk #[97]), .string (ByteArray.mk #[50])]) st46 zr46 rfl) ?_
    refine sc (dc_lit (vs := [.agg (List.toArray [.string (ByteArray.mk #[97]), .string (ByteArray.mk #[50])])]) (xs := ([(api_Label.mk (ByteArray.mk #[97]) (ByteArray.mk #[50]))] : List api_Label)) (base := w.heap.size) el31 rfl rfl (.cons ((api_Label.o (x := (api_Label.mk (ByteArray.mk #[97]) (ByteArray.mk #[50])))).2 rfl) (.nil)) (Nat.le_of_ble_eq_true rfl) C.up.size C.sb fun v31 w32 h33 h34 u35 => ?_)
    have p36 := ap_fresh h34 (fun b hb => (h13.lt b hb).1)
    have p37 := ap_fresh h34 (fun b hb => (h27.lt b hb).2)
    replace h13 := h13.nw u35
    replace h27 := h27.nw u35
    replace C := C.new u35
    refine sv (asv v25 rfl) (sv (asv v31 rfl) (W.e (k24 _ _ ?_)))
    refine cw_seq fun K38 k39 => ?_
    refine cw_region (sv (mvv v10 rfl) (sv (mvv v25 rfl) ?_))
    replace h13 := h13.or (ap_symm p30)
    replace h33 := h33.or p37
    replace C := C.sealO h27
    replace h27 := h27.sealed
    obtain ⟨y40, h41, h⟩ := bnd_some h
    refine sc (dc_call (vs := [v10, v25]) can14 rfl ?_)
    refine (index_Index_Add_w C.sb h13 h27 h41).mono ?_
    rintro _ w42 ⟨S43, cs45, fp46, rfl, c44, h47, h48⟩
    refine ⟨_, rfl, ?_⟩
    have h49 : ∀ b, b ∈ fp12 → ¬ (Or S8 (Blk v25)) b := fun b hb => (h13.lt b hb).2
    have p50 := ap_grow (ap_symm p36) h48 (fun b hb => (h33.lt b hb).2)
    have h51 : ∀ b, b ∈ fp46 → w.heap.size ≤ b := fun b hb => (h48 b hb).elim (h15 b) (fun hl => Nat.le_trans C.up.size hl)
    replace h27 := h27.cf c44 h49
    replace h33 := h33.cf c44 h49 p36
    replace C := C.ofc c44 (fun b hb => .inr (h15 b hb))
    refine sv (mvv (.tuple (List.toArray [.int .i64 y40.1, .int .i64 y40.2.1])) rfl) (sv (rv_extract rfl rfl) (sv (rv_extract rfl rfl) (sv (asv (.int .i64 y40.1) rfl) (sv (asv (.int .i64 y40.2.1) rfl) (W.e (k39 _ _ ?_))))))
    refine cw_seq fun K52 k53 => ?_
    refine cw_region (sv (mvv v10 rfl) (sv (mvv v31 rfl) ?_))
    replace h47 := h47.or p50
    replace h27 := h27.or (T := Blk v31)
    replace C := C.sealO h33
    replace h33 := h33.sealed
    obtain ⟨y54, h55, h⟩ := bnd_some h
    refine sc (dc_call (vs := [v10, v31]) can14 rfl ?_)
    refine (index_Index_Add_w C.sb h47 h33 h55).mono ?_
    rintro _ w56 ⟨S57, cs59, fp60, rfl, c58, h61, h62⟩
    refine ⟨_, rfl, ?_⟩
    have h63 : ∀ b, b ∈ fp46 → ¬ (Or S43 (Blk v31)) b := fun b hb => (h47.lt b hb).2
    have h64 : ∀ b, b ∈ fp60 → w.heap.size ≤ b := fun b hb => (h62 b hb).elim (h51 b) (fun hl => Nat.le_trans C.up.size hl)
    replace h27 := h27.cf c58 h63
    replace C := C.ofc c58 (fun b hb => .inr (h51 b hb))
    refine sv (mvv (.tuple (List.toArray [.int .i64 y54.1, .int .i64 y54.2.1])) rfl) (sv (rv_extract rfl rfl) (sv (rv_extract rfl rfl) (sv (asv (.int .i64 y54.1) rfl) (sv (asv (.int .i64 y54.2.1) rfl) (W.e (k53 _ _ ?_))))))
    refine cw_seq fun K65 k66 => ?_
    refine cw_region (sv (mvv v10 rfl) (sv (mvv v25 rfl) ?_))
    obtain ⟨y67, h68, h⟩ := bnd_some h
    refine sc (dc_call (vs := [v10, v25]) can14 rfl ?_)
    refine (index_Index_Add_w C.sb h61 h27 h68).mono ?_
    rintro _ w69 ⟨S70, cs72, fp73, rfl, c71, h74, h75⟩
    refine ⟨_, rfl, ?_⟩
    have h76 : ∀ b, b ∈ fp60 → ¬ S57 b := fun b hb => (h61.lt b hb).2
    have h77 : ∀ b, b ∈ fp73 → w.heap.size ≤ b := fun b hb => (h75 b hb).elim (h64 b) (fun hl => Nat.le_trans C.up.size hl)
    replace h27 := h27.cf c71 h76
    replace C := C.ofc c71 (fun b hb => .inr (h64 b hb))
    refine sv (mvv (.tuple (List.toArray [.int .i64 y67.1, .int .i64 y67.2.1])) rfl) (sv (rv_extract rfl rfl) (sv (rv_extract rfl rfl) (sv (asv (.int .i64 y67.1) rfl) (sv (asv (.int .i64 y67.2.1) rfl) (W.e (k66 _ _ ?_))))))
    refine cw_seq fun K78 k79 => ?_
    refine cw_region (sv (mvv v10 rfl) (sv (rv_build (r := [.int .u8 3, .string (ByteArray.mk #[97]), .string (ByteArray.mk #[50])]) st53 zr53 rfl) ?_))
    refine sc (dc_lit (vs := [.agg (List.toArray [.int .u8 3, .string (ByteArray.mk #[97]), .string (ByteArray.mk #[50])])]) (xs := ([(api_Ask.mk (3 : Int) (ByteArray.mk #[97]) (ByteArray.mk #[50]))] : List api_Ask)) (base := w.heap.size) el32 rfl rfl (.cons ((api_Ask.o (x := (api_Ask.mk (3 : Int) (ByteArray.mk #[97]) (ByteArray.mk #[50])))).2 rfl) (.nil)) (Nat.le_of_ble_eq_true rfl) C.up.size C.sb fun v80 w81 h82 h83 u84 => ?_)
    have p85 := ap_fresh h83 (fun b hb => (h74.lt b hb).1)
    replace h74 := h74.nw u84
    replace h27 := h27.nw u84
    replace C := C.new u84
    replace h74 := h74.or (ap_symm p85)
    replace h27 := h27.or (T := Blk v80)
    replace C := C.sealO h82
    replace h82 := h82.sealed
    obtain ⟨y86, h87, h⟩ := bnd_some h
    refine sc (dc_call (vs := [v10, v80]) can15 rfl ?_)
    refine (index_Index_Find_w C.sb h74 h82 h87).mono ?_
    rintro _ w88 ⟨S89, v91, rfl, c90, h92⟩
    refine ⟨_, rfl, ?_⟩
    have p93 := ap_fresh (fun b hb => (h92.lt b hb).1) (fun b hb => (h74.lt b hb).1)
    replace h92 := h92.base C.up.size
    replace h74 := h74.cx c90
    replace h27 := h27.cx c90
    replace C := C.trans c90
    refine sv (mvv (.tuple (List.toArray [v91, .int .i64 y86.2])) rfl) (sv (rv_extract rfl rfl) (sv (rv_extract rfl rfl) (sv (asv v91 rfl) (sv (asv (.int .i64 y86.2) rfl) (W.e (k79 _ _ ?_))))))
    refine cw_seq fun K94 k95 => ?_
    refine cw_region (sv (mvv v10 rfl) ?_)
    obtain ⟨y96, h97, h⟩ := bnd_some h
    refine sc (dc_call (vs := [v10, .int .i64 0]) can16 rfl ?_)
    refine (index_Index_Drop_w C.sb h74 h97).mono ?_
    rintro _ w98 ⟨S99, cs101, fp102, rfl, c100, h103, h104⟩
    refine ⟨_, rfl, ?_⟩
    have h105 : ∀ b, b ∈ fp73 → ¬ S89 b := fun b hb => (h74.lt b hb).2
    have p106 := ap_grow (ap_symm p93) h104 (fun b hb => (h92.lt b hb).2)
    have h107 : ∀ b, b ∈ fp102 → w.heap.size ≤ b := fun b hb => (h104 b hb).elim (h77 b) (fun hl => Nat.le_trans C.up.size hl)
    replace h27 := h27.cf c100 h105
    replace h92 := h92.cf c100 h105 p93
    replace C := C.ofc c100 (fun b hb => .inr (h77 b hb))
    refine sv (asv (.int .i64 y96.1) rfl) (W.e (k95 _ _ ?_))
    refine cw_seq fun K108 k109 => ?_
    refine cw_region (sv (mvv v10 rfl) (sv (mvv v25 rfl) ?_))
    obtain ⟨y110, h111, h⟩ := bnd_some h
    refine sc (dc_call (vs := [v10, v25]) can14 rfl ?_)
    refine (index_Index_Add_w C.sb h103 h27 h111).mono ?_
    rintro _ w112 ⟨S113, cs115, fp116, rfl, c114, h117, h118⟩
    refine ⟨_, rfl, ?_⟩
    have h119 : ∀ b, b ∈ fp102 → ¬ S99 b := fun b hb => (h103.lt b hb).2
    have p120 := ap_grow p106 h118 (fun b hb => (h92.lt b hb).2)
    have h121 : ∀ b, b ∈ fp116 → w.heap.size ≤ b := fun b hb => (h118 b hb).elim (h107 b) (fun hl => Nat.le_trans C.up.size hl)
    replace h92 := h92.cf c114 h119 (ap_symm p106)
    replace C := C.ofc c114 (fun b hb => .inr (h107 b hb))
    refine sv (mvv (.tuple (List.toArray [.int .i64 y110.1, .int .i64 y110.2.1])) rfl) (sv (rv_extract rfl rfl) (sv (rv_extract rfl rfl) (sv (asv (.int .i64 y110.1) rfl) (sv (asv (.int .i64 y110.2.1) rfl) (W.e (k109 _ _ ?_))))))
    obtain ⟨o122, h125, h⟩ := bnd_some h
    refine cw_seq' (fun ρ w1 => ∃ S1, Cx No S w S1 w1 ∧ Has ρ [(0, .bool o122)]) ?_ ?_
    · refine cw_region (sv (mvv (.int .i64 y40.1) rfl) (sv (rv_eql rfl rfl) (sv (mvv (.bool (y40.1 == (0 : Int))) rfl) ?_)))
      rcases bif_some h125 with ⟨b126, h125⟩ | ⟨b126, h125⟩
      · refine W.v (gy rfl rfl rfl b126) (mvv (.int .i64 y54.1) rfl) (W.v (gy rfl rfl rfl b126) (rv_eql rfl rfl) (sv (ptk (.bool (y54.1 == (1 : Int))) rfl b126 rfl) (sv (mvv (.bool (y54.1 == (1 : Int))) rfl) ?_)))
        rcases bif_some h125 with ⟨b127, h125⟩ | ⟨b127, h125⟩
        · refine W.v (gy rfl rfl rfl b127) (mvv (.int .i64 y67.1) rfl) (W.v (gy rfl rfl rfl b127) (rv_eql rfl rfl) (sv (ptk (.bool (y67.1 == (0 : Int))) rfl b127 rfl) (sv (mvv (.bool (y67.1 == (0 : Int))) rfl) ?_)))
          rcases bif_some h125 with ⟨b128, h125⟩ | ⟨b128, h125⟩
          · refine W.v (gy rfl rfl rfl b128) (mvv (.int .i64 y110.1) rfl) (W.v (gy rfl rfl rfl b128) (rv_eql rfl rfl) (sv (ptk (.bool (y110.1 == (2 : Int))) rfl b128 rfl) (sv (mvv (.bool (y110.1 == (2 : Int))) rfl) ?_)))
            rcases bif_some h125 with ⟨b129, h125⟩ | ⟨b129, h125⟩
            · refine W.v (gy rfl rfl rfl b129) (mvv (.int .i64 y40.2.1) rfl) (W.v (gy rfl rfl rfl b129) (rv_eql rfl rfl) (sv (ptk (.bool (y40.2.1 == (0 : Int))) rfl b129 rfl) (sv (mvv (.bool (y40.2.1 == (0 : Int))) rfl) ?_)))
              rcases bif_some h125 with ⟨b130, h125⟩ | ⟨b130, h125⟩
              · refine W.v (gy rfl rfl rfl b130) (mvv (.int .i64 y54.2.1) rfl) (W.v (gy rfl rfl rfl b130) (rv_eql rfl rfl) (sv (ptk (.bool (y54.2.1 == (0 : Int))) rfl b130 rfl) (sv (mvv (.bool (y54.2.1 == (0 : Int))) rfl) ?_)))
                rcases bif_some h125 with ⟨b131, h125⟩ | ⟨b131, h125⟩
                · refine W.v (gy rfl rfl rfl b131) (mvv (.int .i64 y67.2.1) rfl) (W.v (gy rfl rfl rfl b131) (rv_eql rfl rfl) (sv (ptk (.bool (y67.2.1 == (0 : Int))) rfl b131 rfl) (sv (mvv (.bool (y67.2.1 == (0 : Int))) rfl) ?_)))
                  rcases bif_some h125 with ⟨b132, h125⟩ | ⟨b132, h125⟩
                  · refine W.v (gy rfl rfl rfl b132) (mvv (.int .i64 y86.2) rfl) (W.v (gy rfl rfl rfl b132) (rv_eql rfl rfl) (sv (ptk (.bool (y86.2 == (0 : Int))) rfl b132 rfl) (sv (mvv (.bool (y86.2 == (0 : Int))) rfl) ?_)))
                    rcases bif_some h125 with ⟨b133, h125⟩ | ⟨b133, h125⟩
                    · refine W.v (gy rfl rfl rfl b133) (mvv (.int .i64 y96.1) rfl) (W.v (gy rfl rfl rfl b133) (rv_eql rfl rfl) (sv (ptk (.bool (y96.1 == (0 : Int))) rfl b133 rfl) (sv (mvv (.bool (y96.1 == (0 : Int))) rfl) ?_)))
                      rcases bif_some h125 with ⟨b134, h125⟩ | ⟨b134, h125⟩
                      · refine W.v (gy rfl rfl rfl b134) (mvv (.int .i64 y110.2.1) rfl) (W.v (gy rfl rfl rfl b134) (rv_eql rfl rfl) (sv (ptk (.bool (y110.2.1 == (0 : Int))) rfl b134 rfl) (sv (mvv (.bool (y110.2.1 == (0 : Int))) rfl) ?_)))
                        rcases bif_some h125 with ⟨b135, h125⟩ | ⟨b135, h125⟩
                        · refine W.v (gy rfl rfl rfl b135) (mvv v91 rfl) ?_
                          refine W.c (gy rfl rfl rfl b135) (dc_lit (vs := [.int .i64 1]) (xs := ([(1 : Int)] : List Int)) (base := w.heap.size) el49 rfl rfl (.cons (sl_sc.2 rfl) (.nil)) (Nat.le_of_ble_eq_true rfl) C.up.size C.sb fun v136 w137 h138 h139 u140 => ?_)
                          have p141 := ap_fresh h139 (fun b hb => (h92.lt b hb).2)
                          replace h92 := h92.nw u140
                          replace C := C.new u140
                          replace h138 := h138.or p141
                          replace C := C.sealO h92
                          replace h92 := h92.sealed
                          replace h92 := h92.or (T := Blk v136)
                          replace C := C.sealO h138
                          replace h138 := h138.sealed
                          obtain ⟨y142, h143, h125⟩ := bnd_some h125
                          refine W.c (gy rfl rfl rfl b135) (dc_call (vs := [v91, v136]) can17 rfl ?_)
                          refine (marigraphref04_Ints_w C.sb h92 h138 h143).mono ?_
                          rintro _ w144 ⟨S145, rfl, c146⟩
                          refine ⟨_, rfl, ?_⟩
                          replace C := C.trans c146
                          refine sv (ptk (.bool y142) rfl b135 rfl) (sv (asv (.bool y142) rfl) (W.e ?_))
                          obtain rfl := osi h125
                          exact ⟨_, C, ⟨rfl, trivial⟩⟩
                        · refine W.n (gn rfl rfl rfl b135) (W.n (gn rfl rfl rfl b135) (W.n (gn rfl rfl rfl b135) (sv (pfk (.bool false) rfl b135 rfl) (sv (asv (.bool false) rfl) (W.e ?_)))))
                          obtain rfl := osi h125
                          exact ⟨_, C, ⟨rfl, trivial⟩⟩
                      · refine W.n (gn rfl rfl rfl b134) (W.n (gn rfl rfl rfl b134) (sv (pfk (.bool false) rfl b134 rfl) (sv (mvv (.bool false) rfl) (W.n (gn rfl rfl rfl rfl) (W.n (gn rfl rfl rfl rfl) (W.n (gn rfl rfl rfl rfl) (sv (pfk (.bool false) rfl rfl rfl) (sv (asv (.bool false) rfl) (W.e ?_)))))))))
                        obtain rfl := osi h125
                        exact ⟨_, C, ⟨rfl, trivial⟩⟩
                    · refine W.n (gn rfl rfl rfl b133) (W.n (gn rfl rfl rfl b133) (sv (pfk (.bool false) rfl b133 rfl) (sv (mvv (.bool false) rfl) (W.n (gn rfl rfl rfl rfl) (W.n (gn rfl rfl rfl rfl) (sv (pfk (.bool false) rfl rfl rfl) (sv (mvv (.bool false) rfl) (W.n (gn rfl rfl rfl rfl) (W.n (gn rfl rfl rfl rfl) (W.n (gn rfl rfl rfl rfl) (sv (pfk (.bool false) rfl rfl rfl) ?_)))))))))))
                      refine sv (asv (.bool false) rfl) (W.e ?_)
                      obtain rfl := osi h125
                      exact ⟨_, C, ⟨rfl, trivial⟩⟩
                  · refine W.n (gn rfl rfl rfl b132) (W.n (gn rfl rfl rfl b132) (sv (pfk (.bool false) rfl b132 rfl) (sv (mvv (.bool false) rfl) (W.n (gn rfl rfl rfl rfl) (W.n (gn rfl rfl rfl rfl) (sv (pfk (.bool false) rfl rfl rfl) (sv (mvv (.bool false) rfl) (W.n (gn rfl rfl rfl rfl) (W.n (gn rfl rfl rfl rfl) (sv (pfk (.bool false) rfl rfl rfl) (sv (mvv (.bool false) rfl) ?_)))))))))))
                    refine W.n (gn rfl rfl rfl rfl) (W.n (gn rfl rfl rfl rfl) (W.n (gn rfl rfl rfl rfl) (sv (pfk (.bool false) rfl rfl rfl) (sv (asv (.bool false) rfl) (W.e ?_)))))
                    obtain rfl := osi h125
                    exact ⟨_, C, ⟨rfl, trivial⟩⟩
                · refine W.n (gn rfl rfl rfl b131) (W.n (gn rfl rfl rfl b131) (sv (pfk (.bool false) rfl b131 rfl) (sv (mvv (.bool false) rfl) (W.n (gn rfl rfl rfl rfl) (W.n (gn rfl rfl rfl rfl) (sv (pfk (.bool false) rfl rfl rfl) (sv (mvv (.bool false) rfl) (W.n (gn rfl rfl rfl rfl) (W.n (gn rfl rfl rfl rfl) (sv (pfk (.bool false) rfl rfl rfl) (sv (mvv (.bool false) rfl) ?_)))))))))))
                  refine W.n (gn rfl rfl rfl rfl) (W.n (gn rfl rfl rfl rfl) (sv (pfk (.bool false) rfl rfl rfl) (sv (mvv (.bool false) rfl) (W.n (gn rfl rfl rfl rfl) (W.n (gn rfl rfl rfl rfl) (W.n (gn rfl rfl rfl rfl) (sv (pfk (.bool false) rfl rfl rfl) (sv (asv (.bool false) rfl) (W.e ?_)))))))))
                  obtain rfl := osi h125
                  exact ⟨_, C, ⟨rfl, trivial⟩⟩
              · refine W.n (gn rfl rfl rfl b130) (W.n (gn rfl rfl rfl b130) (sv (pfk (.bool false) rfl b130 rfl) (sv (mvv (.bool false) rfl) (W.n (gn rfl rfl rfl rfl) (W.n (gn rfl rfl rfl rfl) (sv (pfk (.bool false) rfl rfl rfl) (sv (mvv (.bool false) rfl) (W.n (gn rfl rfl rfl rfl) (W.n (gn rfl rfl rfl rfl) (sv (pfk (.bool false) rfl rfl rfl) (sv (mvv (.bool false) rfl) ?_)))))))))))
                refine W.n (gn rfl rfl rfl rfl) (W.n (gn rfl rfl rfl rfl) (sv (pfk (.bool false) rfl rfl rfl) (sv (mvv (.bool false) rfl) (W.n (gn rfl rfl rfl rfl) (W.n (gn rfl rfl rfl rfl) (sv (pfk (.bool false) rfl rfl rfl) (sv (mvv (.bool false) rfl) (W.n (gn rfl rfl rfl rfl) (W.n (gn rfl rfl rfl rfl) (W.n (gn rfl rfl rfl rfl) (sv (pfk (.bool false) rfl rfl rfl) ?_)))))))))))
                refine sv (asv (.bool false) rfl) (W.e ?_)
                obtain rfl := osi h125
                exact ⟨_, C, ⟨rfl, trivial⟩⟩
            · refine W.n (gn rfl rfl rfl b129) (W.n (gn rfl rfl rfl b129) (sv (pfk (.bool false) rfl b129 rfl) (sv (mvv (.bool false) rfl) (W.n (gn rfl rfl rfl rfl) (W.n (gn rfl rfl rfl rfl) (sv (pfk (.bool false) rfl rfl rfl) (sv (mvv (.bool false) rfl) (W.n (gn rfl rfl rfl rfl) (W.n (gn rfl rfl rfl rfl) (sv (pfk (.bool false) rfl rfl rfl) (sv (mvv (.bool false) rfl) ?_)))))))))))
              refine W.n (gn rfl rfl rfl rfl) (W.n (gn rfl rfl rfl rfl) (sv (pfk (.bool false) rfl rfl rfl) (sv (mvv (.bool false) rfl) (W.n (gn rfl rfl rfl rfl) (W.n (gn rfl rfl rfl rfl) (sv (pfk (.bool false) rfl rfl rfl) (sv (mvv (.bool false) rfl) (W.n (gn rfl rfl rfl rfl) (W.n (gn rfl rfl rfl rfl) (sv (pfk (.bool false) rfl rfl rfl) (sv (mvv (.bool false) rfl) ?_)))))))))))
              refine W.n (gn rfl rfl rfl rfl) (W.n (gn rfl rfl rfl rfl) (W.n (gn rfl rfl rfl rfl) (sv (pfk (.bool false) rfl rfl rfl) (sv (asv (.bool false) rfl) (W.e ?_)))))
              obtain rfl := osi h125
              exact ⟨_, C, ⟨rfl, trivial⟩⟩
          · refine W.n (gn rfl rfl rfl b128) (W.n (gn rfl rfl rfl b128) (sv (pfk (.bool false) rfl b128 rfl) (sv (mvv (.bool false) rfl) (W.n (gn rfl rfl rfl rfl) (W.n (gn rfl rfl rfl rfl) (sv (pfk (.bool false) rfl rfl rfl) (sv (mvv (.bool false) rfl) (W.n (gn rfl rfl rfl rfl) (W.n (gn rfl rfl rfl rfl) (sv (pfk (.bool false) rfl rfl rfl) (sv (mvv (.bool false) rfl) ?_)))))))))))
            refine W.n (gn rfl rfl rfl rfl) (W.n (gn rfl rfl rfl rfl) (sv (pfk (.bool false) rfl rfl rfl) (sv (mvv (.bool false) rfl) (W.n (gn rfl rfl rfl rfl) (W.n (gn rfl rfl rfl rfl) (sv (pfk (.bool false) rfl rfl rfl) (sv (mvv (.bool false) rfl) (W.n (gn rfl rfl rfl rfl) (W.n (gn rfl rfl rfl rfl) (sv (pfk (.bool false) rfl rfl rfl) (sv (mvv (.bool false) rfl) ?_)))))))))))
            refine W.n (gn rfl rfl rfl rfl) (W.n (gn rfl rfl rfl rfl) (sv (pfk (.bool false) rfl rfl rfl) (sv (mvv (.bool false) rfl) (W.n (gn rfl rfl rfl rfl) (W.n (gn rfl rfl rfl rfl) (W.n (gn rfl rfl rfl rfl) (sv (pfk (.bool false) rfl rfl rfl) (sv (asv (.bool false) rfl) (W.e ?_)))))))))
            obtain rfl := osi h125
            exact ⟨_, C, ⟨rfl, trivial⟩⟩
        · refine W.n (gn rfl rfl rfl b127) (W.n (gn rfl rfl rfl b127) (sv (pfk (.bool false) rfl b127 rfl) (sv (mvv (.bool false) rfl) (W.n (gn rfl rfl rfl rfl) (W.n (gn rfl rfl rfl rfl) (sv (pfk (.bool false) rfl rfl rfl) (sv (mvv (.bool false) rfl) (W.n (gn rfl rfl rfl rfl) (W.n (gn rfl rfl rfl rfl) (sv (pfk (.bool false) rfl rfl rfl) (sv (mvv (.bool false) rfl) ?_)))))))))))
          refine W.n (gn rfl rfl rfl rfl) (W.n (gn rfl rfl rfl rfl) (sv (pfk (.bool false) rfl rfl rfl) (sv (mvv (.bool false) rfl) (W.n (gn rfl rfl rfl rfl) (W.n (gn rfl rfl rfl rfl) (sv (pfk (.bool false) rfl rfl rfl) (sv (mvv (.bool false) rfl) (W.n (gn rfl rfl rfl rfl) (W.n (gn rfl rfl rfl rfl) (sv (pfk (.bool false) rfl rfl rfl) (sv (mvv (.bool false) rfl) ?_)))))))))))
          refine W.n (gn rfl rfl rfl rfl) (W.n (gn rfl rfl rfl rfl) (sv (pfk (.bool false) rfl rfl rfl) (sv (mvv (.bool false) rfl) (W.n (gn rfl rfl rfl rfl) (W.n (gn rfl rfl rfl rfl) (sv (pfk (.bool false) rfl rfl rfl) (sv (mvv (.bool false) rfl) (W.n (gn rfl rfl rfl rfl) (W.n (gn rfl rfl rfl rfl) (W.n (gn rfl rfl rfl rfl) (sv (pfk (.bool false) rfl rfl rfl) ?_)))))))))))
          refine sv (asv (.bool false) rfl) (W.e ?_)
          obtain rfl := osi h125
          exact ⟨_, C, ⟨rfl, trivial⟩⟩
      · refine W.n (gn rfl rfl rfl b126) (W.n (gn rfl rfl rfl b126) (sv (pfk (.bool false) rfl b126 rfl) (sv (mvv (.bool false) rfl) (W.n (gn rfl rfl rfl rfl) (W.n (gn rfl rfl rfl rfl) (sv (pfk (.bool false) rfl rfl rfl) (sv (mvv (.bool false) rfl) (W.n (gn rfl rfl rfl rfl) (W.n (gn rfl rfl rfl rfl) (sv (pfk (.bool false) rfl rfl rfl) (sv (mvv (.bool false) rfl) ?_)))))))))))
        refine W.n (gn rfl rfl rfl rfl) (W.n (gn rfl rfl rfl rfl) (sv (pfk (.bool false) rfl rfl rfl) (sv (mvv (.bool false) rfl) (W.n (gn rfl rfl rfl rfl) (W.n (gn rfl rfl rfl rfl) (sv (pfk (.bool false) rfl rfl rfl) (sv (mvv (.bool false) rfl) (W.n (gn rfl rfl rfl rfl) (W.n (gn rfl rfl rfl rfl) (sv (pfk (.bool false) rfl rfl rfl) (sv (mvv (.bool false) rfl) ?_)))))))))))
        refine W.n (gn rfl rfl rfl rfl) (W.n (gn rfl rfl rfl rfl) (sv (pfk (.bool false) rfl rfl rfl) (sv (mvv (.bool false) rfl) (W.n (gn rfl rfl rfl rfl) (W.n (gn rfl rfl rfl rfl) (sv (pfk (.bool false) rfl rfl rfl) (sv (mvv (.bool false) rfl) (W.n (gn rfl rfl rfl rfl) (W.n (gn rfl rfl rfl rfl) (sv (pfk (.bool false) rfl rfl rfl) (sv (mvv (.bool false) rfl) ?_)))))))))))
        refine W.n (gn rfl rfl rfl rfl) (W.n (gn rfl rfl rfl rfl) (W.n (gn rfl rfl rfl rfl) (sv (pfk (.bool false) rfl rfl rfl) (sv (asv (.bool false) rfl) (W.e ?_)))))
        obtain rfl := osi h125
        exact ⟨_, C, ⟨rfl, trivial⟩⟩
    · rintro ρ w148 ⟨S147, C, h149⟩
      refine h149.cw fun ρ => ?_
      clear h149
      refine cw_ret ?_
      obtain rfl := osi h
      exact ⟨_, rfl, _, rfl, C⟩

noncomputable def octs_New (a0 : List Int) : Option (Option octs_Taker) :=
  ((app_ 1 ([] : List Int) a0).bind fun y10 => some (some (octs_Taker.mk y10 false)))
theorem octs_New_w {S : Nat → Prop} {w : World} {a0 : List Int} {v0 : Value} {r : (Option octs_Taker)} (hS : Sb S w) (h0 : Sl (kSl (kI .u8)) S w v0 a0) (h : octs_New a0 = some r) :
    Calls Tryz.prog 38 (List.toArray [v0]) w fun e w1 => ∃ S1 u0 us0 up0, e = .returned (u0) ∧ Cx No S w S1 w1 ∧ Obo 112 octs_Taker.fs S1 w1 u0 r us0 up0 ∧ (∀ b, b ∈ up0 → w.heap.size ≤ b) := by
  refine enter Tryz.func38 rfl (by kernel_rfl) rfl ?_
  have C := Cx.refl (F := No) hS
  unfold octs_New at h
  refine cw_seq fun K1 k2 => ?_
  refine cw_region (sv (asv (.pointer none) rfl) (W.e (k2 _ _ ?_)))
  refine cw_seq fun K3 k4 => ?_
  refine cw_region ?_
  refine sc (dc_lit (vs := []) (xs := ([] : List Int)) (base := w.heap.size) el36 rfl rfl (.nil) (Nat.le_of_ble_eq_true rfl) C.up.size C.sb fun v5 w6 h7 h8 u9 => ?_)
  replace h0 := h0.nw u9
  replace C := C.new u9
  refine sv (mvv v0 rfl) ?_
  obtain ⟨y10, h11, h⟩ := bnd_some h
  have h17 := h7
  refine sc (dc_append el36 (by decide) h17 (h0.src fun _ h => h) rfl rfl h11 C.up.size C.sb fun v12 w13 h14 u15 h16 => ?_)
  replace C := C.ow h17 u15
  replace h0 := h0.or (T := Blk v12)
  replace C := C.sealO h14
  replace h14 := h14.sealed
  refine sv (rv_build (r := [v12, .bool false]) st112 zr112 (by obtain ⟨_, _, rfl⟩ := h14.len; rfl)) ?_
  refine sc (dc_obox (l := octs_Taker.fs (octs_Taker.mk y10 false)) (S := (Or S (Blk v12))) (cs := [v12, .bool false]) (.cons ⟨rep_sl.2 ⟨_, rfl, h14⟩, rfl⟩ (.cons ⟨rep_sc.2 rfl, rfl⟩ (.nil))) (by simp) C.sb rfl fun v18 w19 h20 h21 u22 => ?_)
  have h24p := C.up.size
  obtain ⟨fp23, h20, h24, h24fr⟩ : ∃ fp, Ob 112 (octs_Taker.fs (octs_Taker.mk y10 false)) (Or S (Blk v12)) w19 v18 [v12, .bool false] fp ∧ (∀ q, q ∈ fp → w.heap.size ≤ q) ∧ ∀ q, q ∈ fp → w13.heap.size ≤ q := ⟨_, h20, fun q hq => by simp at hq; omega, fun q hq => by simp at hq; omega⟩
  replace C := C.new u22
  refine sv (asv v18 rfl) (W.e (k4 _ _ (cw_ret ?_)))
  obtain rfl := osi h
  exact ⟨_, rfl, _, _, _, _, rfl, C, h20, h24⟩

def math_bits_Len64 (a0 : Int) : Option Int := if 0 ≤ a0 ∧ a0 ≤ 18446744073709551615 then some (Lib.bitLen a0.toNat : Int) else none
theorem math_bits_Len64_w {S : Nat → Prop} {w : World} {a0 : Int} {r : Int} (hS : Sb S w) (h : math_bits_Len64 a0 = some r) :
    Calls Tryz.prog 66 (List.toArray [.int .u64 a0]) w fun e w1 => ∃ S1, e = .returned (.int .i64 r) ∧ Cx No S w S1 w1 := by
  unfold math_bits_Len64 at h
  split at h
  case isFalse => cases h
  rename_i hc
  obtain rfl := osi h
  exact (Tryz.bits_Len64 a0 w hc.1 hc.2).mono fun e w1 hp => ⟨S, hp.1, by rw [hp.2]; exact Cx.refl hS⟩

noncomputable def octs_Taker_fail (a0 : octs_Taker) : Option octs_Taker :=
  (pur ({ a0 with rest := ([] : List Int) } : octs_Taker) fun y1 => (pur ({ y1 with bad := true } : octs_Taker) fun y10 => some y10))
theorem octs_Taker_fail_w {S : Nat → Prop} {w : World} {a0 : octs_Taker} {v0 : Value} {cs0 : List Value} {fp0 : List Nat} {r : octs_Taker} (hS : Sb S w) (h0 : Ob 112 (octs_Taker.fs a0) S w v0 cs0 fp0) (h : octs_Taker_fail a0 = some r) :
    Calls Tryz.prog 67 (List.toArray [v0]) w fun e w1 => ∃ S1 us_0 up_0, e = .returned (.tuple (List.toArray [])) ∧ Cx (fun b => b ∈ fp0) S w S1 w1 ∧ Ob 112 (octs_Taker.fs r) S1 w1 v0 us_0 up_0 ∧ (∀ b, b ∈ up_0 → b ∈ fp0 ∨ w.heap.size ≤ b) := by
  refine enter Tryz.func67 rfl (by kernel_rfl) rfl ?_
  have C := Cx.refl (F := (fun b => b ∈ fp0)) hS
  unfold octs_Taker_fail at h
  have hs0 : ∀ b, b ∈ fp0 → b ∈ fp0 ∨ w.heap.size ≤ b := fun b hb => .inl hb
  have hl0 : ∀ b ∈ fp0, b < w.heap.size := fun b hb => (h0.lt b hb).1
  refine cw_region (sv (mvv v0 rfl) (sv (mvv v0 rfl) (sv (rv_nilcheck rfl h0.ptr) (sv (rv_fieldAddr (b := pb v0) (o := 0) st112 rfl h0.ptr) ?_))))
  obtain ⟨y1, h2, h⟩ := pur_some h
  have h7 : ∀ b, b ∈ fp0 → ¬ S b := fun b hb => (h0.lt b hb).2
  refine sc (dc_ofield (i := 0) (k := (kSl (kI .u8))) (h1 := rfl) (a' := ([] : List Int)) h0 rfl ag36 rfl rfl (rep_sl.2 ⟨_, rfl, (sl_nil _ _ _)⟩) fun w3 h4 u5 => ?_)
  replace h4 : Ob 112 (octs_Taker.fs ({ a0 with rest := ([] : List Int) } : octs_Taker)) S w3 v0 (cs0.set 0 (.slice none 0 0)) fp0 := h4
  rw [h2] at h4
  obtain ⟨cs8, h9⟩ : ∃ cs, cs = cs0.set 0 (.slice none 0 0) := ⟨_, rfl⟩
  rw [← h9] at h4
  have c6 := Cx.ofUp C.sb u5
  replace C := C.ofc c6 hs0
  refine sv (rv_nilcheck rfl h4.ptr) (sv (rv_fieldAddr (b := pb v0) (o := 0) st112 rfl h4.ptr) ?_)
  obtain ⟨y10, h11, h⟩ := pur_some h
  have h16 : ∀ b, b ∈ fp0 → ¬ S b := fun b hb => (h4.lt b hb).2
  refine sc (dc_ofield (i := 1) (k := kB) (h1 := rfl) (a' := true) h4 rfl ag4 rfl rfl (rep_sc.2 rfl) fun w12 h13 u14 => ?_)
  replace h13 : Ob 112 (octs_Taker.fs ({ y1 with bad := true } : octs_Taker)) S w12 v0 (cs8.set 1 (.bool true)) fp0 := h13
  rw [h11] at h13
  obtain ⟨cs17, h18⟩ : ∃ cs, cs = cs8.set 1 (.bool true) := ⟨_, rfl⟩
  rw [← h18] at h13
  have c15 := Cx.ofUp C.sb u14
  replace C := C.ofc c15 hs0
  refine W.e ?_
  obtain rfl := osi h
  exact ⟨_, rfl, _, _, _, rfl, C, h13, hs0⟩

noncomputable def octs_Taker_Num.b2 (y18 : octs_Taker) (x28 : Int) (x29 : Int) : Option ((Int × Int) ⊕ ((Unit) ⊕ (Int × (Option octs_Taker)))) :=
  (bif (decide (x29 < (y18.rest.length : Int))) then (((at_ y18.rest x29).bind fun y43 => (((bif (x29 == (10 : Int)) then some true else (bif (x29 == (9 : Int)) then some (decide ((1 : Int) < y43)) else some false)).bind fun o49 => (bif o49 then some (.inr (.inr (.inr (.inl ())))) else some (.inl ()))).bind (Sum.elim (fun o45n => (pur (iandn .u8 y43 (128 : Int)) fun y65 => (pur (IntKind.u64.wrap y65) fun y67 => (pur (IntKind.i64.wrap ((7 : Int) * x29)) fun y69 => ((pos_ y69 (ishl .u64 y67 y69)).bind fun y71 => (pur (ior .u64 x28 y71) fun y74 => (pur (iand .u8 y43 (128 : Int)) fun y80 => (bif (y80 != (0 : Int)) then some (.inl y74) else (pur (IntKind.i64.wrap (x29 + (1 : Int))) fun y87 => ((math_bits_Len64 y74).bind fun y89 => (pur (IntKind.i64.wrap (y89 + (7 : Int))) fun y94 => (pur (IntKind.i64.wrap (y94 - (1 : Int))) fun y96 => (pur (IntKind.i64.wrap (Int.tdiv y96 (7 : Int))) fun y98 => (pur (if (1 : Int) < y98 then y98 else (1 : Int)) fun y100 => (bif (y87 != y100) then some (.inr (.inr (.inl ()))) else (pur (IntKind.i64.wrap (x29 + (1 : Int))) fun y109 => ((from_ y18.rest y109).bind fun y111 => (pur ({ y18 with rest := y111 } : octs_Taker) fun y116 => some (.inr (.inr (.inr (y74, some y116)))))))))))))))))))))) (fun q => some q)))).bind (Sum.elim (fun o37n => (pur (IntKind.i64.wrap (x29 + (1 : Int))) fun y131 => some (.inl (o37n, y131)))) (fun q => some q))) else some (.inr (.inl ())))
noncomputable def octs_Taker_Num (a0 : Option octs_Taker) : Option (Int × (Option octs_Taker)) :=
  (bif a0.isNone then some ((0 : Int), a0) else (((a0).bind fun y18 => (iter (fun s : Int × Int => octs_Taker_Num.b2 y18 s.1 s.2) ((0 : Int), (0 : Int)))).bind (Sum.elim (fun o12n => ((a0).bind fun y139 => ((octs_Taker_fail y139).bind fun y142 => some ((0 : Int), some y142)))) (fun q => some q))))
theorem octs_Taker_Num_w {S : Nat → Prop} {w : World} {a0 : Option octs_Taker} {v0 : Value} {cs0 : List Value} {fp0 : List Nat} {r : Int × (Option octs_Taker)} (hS : Sb S w) (h0 : Obo 112 octs_Taker.fs S w v0 a0 cs0 fp0) (h : octs_Taker_Num a0 = some r) :
    Calls Tryz.prog 39 (List.toArray [v0]) w fun e w1 => ∃ S1 us_0 up_0, e = .returned (.int .u64 r.1) ∧ Cx (fun b => b ∈ fp0) S w S1 w1 ∧ Obo 112 octs_Taker.fs S1 w1 v0 r.2 us_0 up_0 ∧ (∀ b, b ∈ up_0 → b ∈ fp0 ∨ w.heap.size ≤ b) := by
  refine enter Tryz.func39 rfl (by kernel_rfl) rfl ?_
  have C := Cx.refl (F := (fun b => b ∈ fp0)) hS
  unfold octs_Taker_Num at h
  have hs0 : ∀ b, b ∈ fp0 → b ∈ fp0 ∨ w.heap.size ≤ b := fun b hb => .inl hb
  have hl0 : ∀ b ∈ fp0, b < w.heap.size := fun b hb => (h0.lt b hb).1
  refine cw_seq fun K1 k2 => ?_
  refine cw_region (sv (asv (.int .u64 0) rfl) (W.e (k2 _ _ ?_)))
  refine cw_seq fun K3 k4 => ?_
  refine cw_seq fun K5 k6 => ?_
  refine cw_region (sv (mvv v0 rfl) (sv (rv_nileq Tryz.underlying80 rfl rfl h0.ne) (W.e (k6 _ _ ?_))))
  rcases bif_some h with ⟨b7, h⟩ | ⟨b7, h⟩
  · refine cw_t rfl b7 ?_
    refine cw_seq fun K8 k9 => ?_
    refine cw_region (sv (asv (.int .u64 0) rfl) (W.e (k9 _ _ (cw_ret ?_))))
    obtain rfl := osi h
    exact ⟨_, rfl, _, _, _, rfl, C, h0, hs0⟩
  · refine cw_f rfl b7 (cw_skip (k4 _ _ ?_))
    refine cw_seq fun K10 k11 => ?_
    refine cw_region (sv (asv (.int .u64 0) rfl) (W.e (k11 _ _ ?_)))
    obtain ⟨o12, h15, h⟩ := bnds_some h
    refine cw_seq' (fun ρ w1 => ∃ o12n, o12 = (.inl o12n) ∧ ∃ S1, Cx (fun b => b ∈ fp0) S w S1 w1 ∧ Has ρ [(0, v0)] ∧ Obo 112 octs_Taker.fs S1 w1 v0 a0 cs0 fp0) ?_ ?_
    · refine cw_seq fun K16 k17 => ?_
      refine cw_region (sv (mvv v0 rfl) ?_)
      obtain ⟨y18, h19, h15⟩ := bnd_some h15
      have h20 := h0
      rw [h19] at h20
      replace h20 : Ob 112 (octs_Taker.fs y18) _ _ _ _ _ := h20
      refine sv (rv_nilcheck rfl h20.ptr) (sv (rv_fieldAddr (b := pb v0) (o := 0) st112 rfl h20.ptr) ?_)
      obtain ⟨c21, h22, h23⟩ := h20.sl (i := 0) rfl
      refine sr (rw_ofield (i := 0) (c := c21) h20 ag36 h22 rfl) (sv (rv_lenS el36 h23 rfl) (sv (mvv (.int .i64 0) rfl) (W.e (k17 _ _ (cw_block ?_)))))
      refine cw_iter h15 (fun s ρ w1 => ∃ S1, Cx (fun b => b ∈ fp0) S w S1 w1 ∧ Has ρ [(0, v0), (3, .int .u64 s.1), (11, c21), (12, .int .i64 (y18.rest.length : Int)), (13, .int .i64 s.2)] ∧ Sl (kSl (kI .u8)) S1 w1 c21 y18.rest ∧ Obo 112 octs_Taker.fs S1 w1 v0 a0 cs0 fp0 ∧ Ob 112 (octs_Taker.fs y18) S1 w1 v0 cs0 fp0) ⟨_, C, ⟨rfl, rfl, rfl, rfl, rfl, trivial⟩, h23, h0, h20⟩ ?_
      rintro ⟨x28, x29⟩ q24 ρ w26 ⟨S25, C, h27, h23, h0, h20⟩ h31 h30
      refine h27.cw fun ρ => ?_
      clear h27
      replace h31 : octs_Taker_Num.b2 y18 x28 x29 = some q24 := h31
      unfold octs_Taker_Num.b2 at h31
      refine cw_seq fun K32 k33 => ?_
      refine cw_region (sv (rv_lss rfl rfl) (W.e (k33 _ _ ?_)))
      refine cw_seq fun K34 k35 => ?_
      rcases bif_some h31 with ⟨b36, h31⟩ | ⟨b36, h31⟩
      · refine cw_t rfl b36 (cw_skip (k35 _ _ ?_))
        obtain ⟨o37, h40, h31⟩ := bnds_some h31
        refine cw_seq' (fun ρ w1 => ∃ o37n, o37 = (.inl o37n) ∧ ∃ S1, Cx (fun b => b ∈ fp0) S w S1 w1 ∧ Has ρ [(0, v0), (3, .int .u64 o37n), (11, c21), (12, .int .i64 (y18.rest.length : Int)), (13, .int .i64 x29)] ∧ Sl (kSl (kI .u8)) S1 w1 c21 y18.rest ∧ Obo 112 octs_Taker.fs S1 w1 v0 a0 cs0 fp0 ∧ Ob 112 (octs_Taker.fs y18) S1 w1 v0 cs0 fp0) ?_ ?_
        · refine cw_block ?_
          refine cw_seq fun K41 k42 => ?_
          refine cw_region (sv (mvv (.int .i64 x29) rfl) ?_)
          obtain ⟨y43, h44, h40⟩ := bnd_some h40
          refine sv (rv_index el36 h23 rfl rfl h44) (sr (rw_loadC el36 h23 h44 rfl _ (Sm.refl _ _)) (sv (asv (.int .i64 x29) rfl) (sv (asv (.int .u8 y43) rfl) (W.e (k42 _ _ ?_)))))
          obtain ⟨o45, h48, h40⟩ := bnds_some h40
          refine cw_seq' (fun ρ w1 => ∃ o45n, o45 = (.inl o45n) ∧ ∃ S1, Cx (fun b => b ∈ fp0) S w S1 w1 ∧ Has ρ [(0, v0), (3, .int .u64 x28), (4, .int .i64 x29), (5, .int .u8 y43), (11, c21), (12, .int .i64 (y18.rest.length : Int)), (13, .int .i64 x29)] ∧ Sl (kSl (kI .u8)) S1 w1 c21 y18.rest ∧ Obo 112 octs_Taker.fs S1 w1 v0 a0 cs0 fp0 ∧ Ob 112 (octs_Taker.fs y18) S1 w1 v0 cs0 fp0) ?_ ?_
          · obtain ⟨o49, h52, h48⟩ := bnd_some h48
            refine cw_seq' (fun ρ w1 => ∃ S1, Cx (fun b => b ∈ fp0) S w S1 w1 ∧ Has ρ [(0, v0), (3, .int .u64 x28), (4, .int .i64 x29), (5, .int .u8 y43), (11, c21), (12, .int .i64 (y18.rest.length : Int)), (13, .int .i64 x29), (27, .bool o49)] ∧ Sl (kSl (kI .u8)) S1 w1 c21 y18.rest ∧ Obo 112 octs_Taker.fs S1 w1 v0 a0 cs0 fp0 ∧ Ob 112 (octs_Taker.fs y18) S1 w1 v0 cs0 fp0) ?_ ?_
            · refine cw_region (sv (mvv (.int .i64 x29) rfl) (sv (rv_eql rfl rfl) (sv (mvv (.bool (x29 == (10 : Int))) rfl) ?_)))
              rcases bif_some h52 with ⟨b53, h52⟩ | ⟨b53, h52⟩
              · refine W.n (gn rfl rfl rfl b53) (W.n (gn rfl rfl rfl b53) (W.n (gn rfl rfl rfl b53) (W.n (gu rfl rfl rfl) (W.n (gu rfl rfl rfl) (W.n (gn rfl rfl rfl b53) (sv (ptk (.bool true) rfl b53 rfl) (W.e ?_)))))))
                obtain rfl := osi h52
                exact ⟨_, C, ⟨rfl, rfl, rfl, rfl, rfl, rfl, rfl, rfl, trivial⟩, h23, h0, h20⟩
              · refine W.v (gy rfl rfl rfl b53) (mvv (.int .i64 x29) rfl) (W.v (gy rfl rfl rfl b53) (rv_eql rfl rfl) (W.v (gy rfl rfl rfl b53) (mvv (.bool (x29 == (9 : Int))) rfl) ?_))
                rcases bif_some h52 with ⟨b54, h52⟩ | ⟨b54, h52⟩
                · refine W.v (gy rfl rfl rfl b54) (mvv (.int .u8 y43) rfl) (W.v (gy rfl rfl rfl b54) (rv_gtr rfl rfl) (W.v (gy rfl rfl rfl b53) (ptk (.bool (decide ((1 : Int) < y43))) rfl b54 rfl) (sv (pfk (.bool (decide ((1 : Int) < y43))) rfl b53 rfl) (W.e ?_))))
                  obtain rfl := osi h52
                  exact ⟨_, C, ⟨rfl, rfl, rfl, rfl, rfl, rfl, rfl, rfl, trivial⟩, h23, h0, h20⟩
                · refine W.n (gn rfl rfl rfl b54) (W.n (gn rfl rfl rfl b54) (W.v (gy rfl rfl rfl b53) (pfk (.bool false) rfl b54 rfl) (sv (pfk (.bool false) rfl b53 rfl) (W.e ?_))))
                  obtain rfl := osi h52
                  exact ⟨_, C, ⟨rfl, rfl, rfl, rfl, rfl, rfl, rfl, rfl, trivial⟩, h23, h0, h20⟩
            · rintro ρ w56 ⟨S55, C, h57, h23, h0, h20⟩
              refine h57.cw fun ρ => ?_
              clear h57
              rcases bif_some h48 with ⟨b58, h48⟩ | ⟨b58, h48⟩
              · refine cw_t rfl b58 (cw_exit ?_)
                obtain rfl := osi h48
                replace h40 := h40.2 _ rfl
                obtain rfl := osi h40
                replace h31 := h31.2 _ rfl
                obtain rfl := osi h31
                have h59 := congrArg some h30
                obtain rfl := osi h59
                exact ⟨_, rfl, ⟨_, C, ⟨rfl, trivial⟩, h0⟩⟩
              · refine cw_f rfl b58 (cw_skip ?_)
                obtain rfl := osi h48
                exact ⟨_, rfl, ⟨_, C, ⟨rfl, rfl, rfl, rfl, rfl, rfl, rfl, trivial⟩, h23, h0, h20⟩⟩
          · rintro ρ w61 ⟨o45n, rfl, ⟨S60, C, h62, h23, h0, h20⟩⟩
            replace h40 := h40.1 _ rfl
            refine h62.cw fun ρ => ?_
            clear h62
            refine cw_seq fun K63 k64 => ?_
            refine cw_region (sv (mvv (.int .u64 x28) rfl) (sv (mvv (.int .u8 y43) rfl) ?_))
            obtain ⟨y65, h66, h40⟩ := pur_some h40
            refine sv (rv_andNot rfl rfl h66) ?_
            obtain ⟨y67, h68, h40⟩ := pur_some h40
            refine sv (rv_conv Tryz.underlying5 Tryz.underlying74 rfl h68) (sv (mvv (.int .i64 x29) rfl) ?_)
            obtain ⟨y69, h70, h40⟩ := pur_some h40
            refine sv (rv_mul rfl rfl h70) ?_
            obtain ⟨y71, h72, h40⟩ := bnd_some h40
            obtain ⟨h73, h72⟩ := pos_some h72
            refine sv (rv_shl rfl rfl h73 h72) ?_
            obtain ⟨y74, h75, h40⟩ := pur_some h40
            refine sv (rv_or rfl rfl h75) (sv (asv (.int .u64 y74) rfl) (W.e (k64 _ _ ?_)))
            refine cw_seq fun K76 k77 => ?_
            refine cw_seq fun K78 k79 => ?_
            refine cw_region (sv (mvv (.int .u8 y43) rfl) ?_)
            obtain ⟨y80, h81, h40⟩ := pur_some h40
            refine sv (rv_and rfl rfl h81) (sv (rv_neq rfl rfl) (W.e (k79 _ _ ?_)))
            rcases bif_some h40 with ⟨b82, h40⟩ | ⟨b82, h40⟩
            · refine cw_t rfl b82 (cw_exit ?_)
              obtain rfl := osi h40
              exact ⟨_, rfl, ⟨_, C, ⟨rfl, rfl, rfl, rfl, rfl, trivial⟩, h23, h0, h20⟩⟩
            · refine cw_f rfl b82 (cw_skip (k77 _ _ ?_))
              refine cw_seq fun K83 k84 => ?_
              refine cw_seq fun K85 k86 => ?_
              refine cw_region (sv (mvv (.int .i64 x29) rfl) ?_)
              obtain ⟨y87, h88, h40⟩ := pur_some h40
              refine sv (rv_add rfl rfl h88) (sv (mvv (.int .u64 y74) rfl) ?_)
              obtain ⟨y89, h90, h40⟩ := bnd_some h40
              refine sc (dc_call (vs := [.int .u64 y74]) can66 rfl ?_)
              refine (math_bits_Len64_w C.sb  h90).mono ?_
              rintro _ w91 ⟨S92, rfl, c93⟩
              refine ⟨_, rfl, ?_⟩
              replace h20 := h20.cx c93
              replace h0 := h0.cx c93
              replace C := C.trans c93
              obtain ⟨y94, h95, h40⟩ := pur_some h40
              refine sv (rv_add rfl rfl h95) ?_
              obtain ⟨y96, h97, h40⟩ := pur_some h40
              refine sv (rv_sub rfl rfl h97) ?_
              obtain ⟨y98, h99, h40⟩ := pur_some h40
              refine sv (rv_quo rfl rfl (by decide) h99) ?_
              obtain ⟨y100, h101, h40⟩ := pur_some h40
              refine sv (rv_max rfl rfl h101) (sv (rv_neq rfl rfl) (W.e (k86 _ _ ?_)))
              rcases bif_some h40 with ⟨b102, h40⟩ | ⟨b102, h40⟩
              · refine cw_t rfl b102 (cw_exit ?_)
                obtain rfl := osi h40
                replace h31 := h31.2 _ rfl
                obtain rfl := osi h31
                have h103 := congrArg some h30
                obtain rfl := osi h103
                exact ⟨_, rfl, ⟨_, C, ⟨rfl, trivial⟩, h0⟩⟩
              · refine cw_f rfl b102 (cw_skip (k84 _ _ ?_))
                refine cw_seq fun K104 k105 => ?_
                refine cw_region (sv (mvv v0 rfl) (sv (mvv v0 rfl) (sv (rv_nilcheck rfl h20.ptr) (sv (rv_fieldAddr (b := pb v0) (o := 0) st112 rfl h20.ptr) ?_))))
                obtain ⟨c106, h107, h108⟩ := h20.sl (i := 0) rfl
                refine sr (rw_ofield (i := 0) (c := c106) h20 ag36 h107 rfl) (sv (mvv (.int .i64 x29) rfl) ?_)
                obtain ⟨y109, h110, h40⟩ := pur_some h40
                refine sv (rv_add rfl rfl h110) ?_
                obtain ⟨y111, h112, h40⟩ := bnd_some h40
                obtain ⟨v113, h114, h115⟩ := rv_fromA (P := Tryz.prog) el36 h108 h112
                refine sv (h115 rfl rfl) (sv (rv_nilcheck rfl h20.ptr) (sv (rv_fieldAddr (b := pb v0) (o := 0) st112 rfl h20.ptr) ?_))
                obtain ⟨y116, h117, h40⟩ := pur_some h40
                have h122 : ∀ b, b ∈ fp0 → ¬ S92 b := fun b hb => (h20.lt b hb).2
                refine sc (dc_ofield (i := 0) (k := (kSl (kI .u8))) (h1 := rfl) (a' := y111) h20 rfl ag36 rfl rfl (rep_sl.2 ⟨_, rfl, h114⟩) fun w118 h119 u120 => ?_)
                replace h119 : Ob 112 (octs_Taker.fs ({ y18 with rest := y111 } : octs_Taker)) S92 w118 v0 (cs0.set 0 v113) fp0 := h119
                rw [h117] at h119
                obtain ⟨cs123, h124⟩ : ∃ cs, cs = cs0.set 0 v113 := ⟨_, rfl⟩
                rw [← h124] at h119
                have c121 := Cx.ofUp C.sb u120
                replace C := C.ofc c121 hs0
                refine W.e (k105 _ _ ?_)
                refine cw_seq fun K125 k126 => ?_
                refine cw_region (sv (mvv (.int .u64 y74) rfl) (sv (asv (.int .u64 y74) rfl) (W.e (k126 _ _ (cw_ret ?_)))))
                obtain rfl := osi h40
                replace h31 := h31.2 _ rfl
                obtain rfl := osi h31
                have h127 := congrArg some h30
                obtain rfl := osi h127
                replace h := h.2 _ rfl
                obtain rfl := osi h
                exact ⟨_, rfl, _, _, _, rfl, C, h119, hs0⟩
        · rintro ρ w129 ⟨o37n, rfl, ⟨S128, C, h130, h23, h0, h20⟩⟩
          replace h31 := h31.1 _ rfl
          refine h130.cw fun ρ => ?_
          clear h130
          refine cw_region ?_
          obtain ⟨y131, h132, h31⟩ := pur_some h31
          refine sv (rv_add rfl rfl h132) (sv (mvv (.int .i64 y131) rfl) (W.e ?_))
          obtain rfl := osi h31
          exact ⟨_, rfl, ⟨_, C, ⟨rfl, rfl, rfl, rfl, rfl, trivial⟩, h23, h0, h20⟩⟩
      · refine cw_f rfl b36 (cw_exit ?_)
        obtain rfl := osi h31
        have h133 := congrArg some h30
        obtain rfl := osi h133
        exact ⟨_, rfl, ⟨_, C, ⟨rfl, trivial⟩, h0⟩⟩
    · rintro ρ w135 ⟨o12n, rfl, ⟨S134, C, h136, h0⟩⟩
      replace h := h.1 _ rfl
      refine h136.cw fun ρ => ?_
      clear h136
      refine cw_seq fun K137 k138 => ?_
      refine cw_region (sv (mvv v0 rfl) ?_)
      obtain ⟨y139, h140, h⟩ := bnd_some h
      have h141 := h0
      rw [h140] at h141
      replace h141 : Ob 112 (octs_Taker.fs y139) _ _ _ _ _ := h141
      obtain ⟨y142, h143, h⟩ := bnd_some h
      refine sc (dc_call (vs := [v0]) can67 rfl ?_)
      refine (octs_Taker_fail_w C.sb h141 h143).mono ?_
      rintro _ w144 ⟨S145, cs147, fp148, rfl, c146, h149, h150⟩
      refine ⟨_, rfl, ?_⟩
      have h151 : ∀ b, b ∈ fp0 → ¬ S134 b := fun b hb => (h141.lt b hb).2
      have h152 : ∀ b, b ∈ fp148 → b ∈ fp0 ∨ w.heap.size ≤ b := fun b hb => (h150 b hb).elim (hs0 b) (fun hl => .inr (Nat.le_trans C.up.size hl))
      replace C := C.ofc c146 hs0
      refine W.e (k138 _ _ ?_)
      refine cw_seq fun K153 k154 => ?_
      refine cw_region (sv (asv (.int .u64 0) rfl) (W.e (k154 _ _ (cw_ret ?_))))
      obtain rfl := osi h
      exact ⟨_, rfl, _, _, _, rfl, C, h149, h152⟩

noncomputable def octs_Taker_Left (a0 : Option octs_Taker) : Option Int :=
  (bif a0.isNone then some (0 : Int) else ((a0).bind fun y12 => some (y12.rest.length : Int)))
theorem octs_Taker_Left_w {S : Nat → Prop} {w : World} {a0 : Option octs_Taker} {v0 : Value} {cs0 : List Value} {fp0 : List Nat} {r : Int} (hS : Sb S w) (h0 : Obo 112 octs_Taker.fs S w v0 a0 cs0 fp0) (h : octs_Taker_Left a0 = some r) :
    Calls Tryz.prog 40 (List.toArray [v0]) w fun e w1 => ∃ S1, e = .returned (.int .i64 r) ∧ Cx No S w S1 w1 := by
  refine enter Tryz.func40 rfl (by kernel_rfl) rfl ?_
  have C := Cx.refl (F := No) hS
  unfold octs_Taker_Left at h
  have hl0 : ∀ b ∈ fp0, b < w.heap.size := fun b hb => (h0.lt b hb).1
  refine cw_seq fun K1 k2 => ?_
  refine cw_region (sv (asv (.int .i64 0) rfl) (W.e (k2 _ _ ?_)))
  refine cw_seq fun K3 k4 => ?_
  refine cw_seq fun K5 k6 => ?_
  refine cw_region (sv (mvv v0 rfl) (sv (rv_nileq Tryz.underlying80 rfl rfl h0.ne) (W.e (k6 _ _ ?_))))
  rcases bif_some h with ⟨b7, h⟩ | ⟨b7, h⟩
  · refine cw_t rfl b7 ?_
    refine cw_seq fun K8 k9 => ?_
    refine cw_region (sv (asv (.int .i64 0) rfl) (W.e (k9 _ _ (cw_ret ?_))))
    obtain rfl := osi h
    exact ⟨_, rfl, _, rfl, C⟩
  · refine cw_f rfl b7 (cw_skip (k4 _ _ ?_))
    refine cw_seq fun K10 k11 => ?_
    refine cw_region (sv (mvv v0 rfl) ?_)
    obtain ⟨y12, h13, h⟩ := bnd_some h
    have h14 := h0
    rw [h13] at h14
    replace h14 : Ob 112 (octs_Taker.fs y12) _ _ _ _ _ := h14
    refine sv (rv_nilcheck rfl h14.ptr) (sv (rv_fieldAddr (b := pb v0) (o := 0) st112 rfl h14.ptr) ?_)
    obtain ⟨c15, h16, h17⟩ := h14.sl (i := 0) rfl
    refine sr (rw_ofield (i := 0) (c := c15) h14 ag36 h16 rfl) (sv (rv_lenS el36 h17 rfl) (sv (asv (.int .i64 (y12.rest.length : Int)) rfl) (W.e (k11 _ _ (cw_ret ?_)))))
    obtain rfl := osi h
    exact ⟨_, rfl, _, rfl, C⟩

noncomputable def octs_Taker_End (a0 : Option octs_Taker) : Option Int :=
  ((bif a0.isNone then some (.inr (1 : Int)) else (((a0).bind fun y16 => (bif y16.bad then some true else some (decide ((0 : Int) < (y16.rest.length : Int))))).bind fun o12 => (bif o12 then some (.inr (6 : Int)) else some (.inl ())))).bind (Sum.elim (fun o3n => some (0 : Int)) (fun q => some q)))
theorem octs_Taker_End_w {S : Nat → Prop} {w : World} {a0 : Option octs_Taker} {v0 : Value} {cs0 : List Value} {fp0 : List Nat} {r : Int} (hS : Sb S w) (h0 : Obo 112 octs_Taker.fs S w v0 a0 cs0 fp0) (h : octs_Taker_End a0 = some r) :
    Calls Tryz.prog 41 (List.toArray [v0]) w fun e w1 => ∃ S1, e = .returned (.int .i64 r) ∧ Cx No S w S1 w1 := by
  refine enter Tryz.func41 rfl (by kernel_rfl) rfl ?_
  have C := Cx.refl (F := No) hS
  unfold octs_Taker_End at h
  have hl0 : ∀ b ∈ fp0, b < w.heap.size := fun b hb => (h0.lt b hb).1
  refine cw_seq fun K1 k2 => ?_
  refine cw_region (sv (asv (.int .i64 0) rfl) (W.e (k2 _ _ ?_)))
  obtain ⟨o3, h6, h⟩ := bnds_some h
  refine cw_seq' (fun ρ w1 => ∃ o3n, o3 = (.inl o3n) ∧ ∃ S1, Cx No S w S1 w1 ∧ Has ρ []) ?_ ?_
  · refine cw_block ?_
    refine cw_seq fun K7 k8 => ?_
    refine cw_region (sv (mvv v0 rfl) (sv (rv_nileq Tryz.underlying80 rfl rfl h0.ne) (sv (asv (.bool a0.isNone) rfl) (W.e (k8 _ _ ?_)))))
    rcases bif_some h6 with ⟨b9, h6⟩ | ⟨b9, h6⟩
    · refine cw_t rfl b9 ?_
      refine cw_seq fun K10 k11 => ?_
      refine cw_region (sv (asv (.int .i64 1) rfl) (W.e (k11 _ _ (cw_ret ?_))))
      obtain rfl := osi h6
      replace h := h.2 _ rfl
      obtain rfl := osi h
      exact ⟨_, rfl, _, rfl, C⟩
    · refine cw_f rfl b9 ?_
      obtain ⟨o12, h15, h6⟩ := bnd_some h6
      refine cw_seq' (fun ρ w1 => ∃ S1, Cx No S w S1 w1 ∧ Has ρ [(6, .bool o12)]) ?_ ?_
      · refine cw_region (sv (mvv v0 rfl) ?_)
        obtain ⟨y16, h17, h15⟩ := bnd_some h15
        have h18 := h0
        rw [h17] at h18
        replace h18 : Ob 112 (octs_Taker.fs y16) _ _ _ _ _ := h18
        refine sv (rv_nilcheck rfl h18.ptr) (sv (rv_fieldAddr (b := pb v0) (o := 0) st112 rfl h18.ptr) (sr (rw_ofield (i := 1) (c := .bool y16.bad) h18 ag4 (h18.sc (i := 1) rfl) rfl) (sv (mvv (.bool y16.bad) rfl) ?_)))
        rcases bif_some h15 with ⟨b19, h15⟩ | ⟨b19, h15⟩
        · refine W.n (gn rfl rfl rfl b19) (W.n (gn rfl rfl rfl b19) (W.n (gn rfl rfl rfl b19) (W.n (gn rfl rfl rfl b19) (W.n (gn rfl rfl rfl b19) (W.n (gn rfl rfl rfl b19) (sv (ptk (.bool true) rfl b19 rfl) (sv (asv (.bool true) rfl) (W.e ?_))))))))
          obtain rfl := osi h15
          exact ⟨_, C, ⟨rfl, trivial⟩⟩
        · refine W.v (gy rfl rfl rfl b19) (mvv v0 rfl) (W.v (gy rfl rfl rfl b19) (rv_nilcheck rfl h18.ptr) (W.v (gy rfl rfl rfl b19) (rv_fieldAddr (b := pb v0) (o := 0) st112 rfl h18.ptr) ?_))
          obtain ⟨c20, h21, h22⟩ := h18.sl (i := 0) rfl
          refine W.r (gy rfl rfl rfl b19) (rw_ofield (i := 0) (c := c20) h18 ag36 h21 rfl) (W.v (gy rfl rfl rfl b19) (rv_lenS el36 h22 rfl) (W.v (gy rfl rfl rfl b19) (rv_gtr rfl rfl) (sv (pfk (.bool (decide ((0 : Int) < (y16.rest.length : Int)))) rfl b19 rfl) (sv (asv (.bool (decide ((0 : Int) < (y16.rest.length : Int)))) rfl) (W.e ?_)))))
          obtain rfl := osi h15
          exact ⟨_, C, ⟨rfl, trivial⟩⟩
      · rintro ρ w24 ⟨S23, C, h25⟩
        refine h25.cw fun ρ => ?_
        clear h25
        rcases bif_some h6 with ⟨b26, h6⟩ | ⟨b26, h6⟩
        · refine cw_t rfl b26 ?_
          refine cw_seq fun K27 k28 => ?_
          refine cw_region (sv (asv (.int .i64 6) rfl) (W.e (k28 _ _ (cw_ret ?_))))
          obtain rfl := osi h6
          replace h := h.2 _ rfl
          obtain rfl := osi h
          exact ⟨_, rfl, _, rfl, C⟩
        · refine cw_f rfl b26 (cw_skip ?_)
          obtain rfl := osi h6
          exact ⟨_, rfl, ⟨_, C, trivial⟩⟩
  · rintro ρ w30 ⟨o3n, rfl, ⟨S29, C, h31⟩⟩
    replace h := h.1 _ rfl
    refine h31.cw fun ρ => ?_
    clear h31
    refine cw_seq fun K32 k33 => ?_
    refine cw_region (sv (asv (.int .i64 0) rfl) (W.e (k33 _ _ (cw_ret ?_))))
    obtain rfl := osi h
    exact ⟨_, rfl, _, rfl, C⟩

noncomputable def octs_Taker_Text (a0 : Option octs_Taker) : Option (ByteArray × (Option octs_Taker)) :=
  ((octs_Taker_Num a0).bind fun y5 => (bif y5.2.isNone then some (ByteArray.empty, y5.2) else ((y5.2).bind fun y25 => (pur (IntKind.u64.wrap (y25.rest.length : Int)) fun y31 => (bif (decide (y31 < y5.1)) then ((octs_Taker_fail y25).bind fun y36 => some (ByteArray.empty, some y36)) else ((upto_ y25.rest y5.1).bind fun y54 => ((from_ y25.rest y5.1).bind fun y64 => (pur ({ y25 with rest := y64 } : octs_Taker) fun y69 => some ((strOf y54), some y69)))))))))
theorem octs_Taker_Text_w {S : Nat → Prop} {w : World} {a0 : Option octs_Taker} {v0 : Value} {cs0 : List Value} {fp0 : List Nat} {r : ByteArray × (Option octs_Taker)} (hS : Sb S w) (h0 : Obo 112 octs_Taker.fs S w v0 a0 cs0 fp0) (h : octs_Taker_Text a0 = some r) :
    Calls Tryz.prog 68 (List.toArray [v0]) w fun e w1 => ∃ S1 us_0 up_0, e = .returned (.string r.1) ∧ Cx (fun b => b ∈ fp0) S w S1 w1 ∧ Obo 112 octs_Taker.fs S1 w1 v0 r.2 us_0 up_0 ∧ (∀ b, b ∈ up_0 → b ∈ fp0 ∨ w.heap.size ≤ b) := by
  refine enter Tryz.func68 rfl (by kernel_rfl) rfl ?_
  have C := Cx.refl (F := (fun b => b ∈ fp0)) hS
  unfold octs_Taker_Text at h
  have hs0 : ∀ b, b ∈ fp0 → b ∈ fp0 ∨ w.heap.size ≤ b := fun b hb => .inl hb
  have hl0 : ∀ b ∈ fp0, b < w.heap.size := fun b hb => (h0.lt b hb).1
  refine cw_seq fun K1 k2 => ?_
  refine cw_region (sv (asv (.string ByteArray.empty) rfl) (W.e (k2 _ _ ?_)))
  refine cw_seq fun K3 k4 => ?_
  refine cw_region (sv (mvv v0 rfl) ?_)
  obtain ⟨y5, h6, h⟩ := bnd_some h
  refine sc (dc_call (vs := [v0]) can39 rfl ?_)
  refine (octs_Taker_Num_w C.sb h0 h6).mono ?_
  rintro _ w7 ⟨S8, cs10, fp11, rfl, c9, h12, h13⟩
  refine ⟨_, rfl, ?_⟩
  have h14 : ∀ b, b ∈ fp0 → ¬ S b := fun b hb => (h0.lt b hb).2
  have h15 : ∀ b, b ∈ fp11 → b ∈ fp0 ∨ w.heap.size ≤ b := fun b hb => (h13 b hb).elim (hs0 b) (fun hl => .inr (Nat.le_trans C.up.size hl))
  replace C := C.ofc c9 hs0
  refine sv (asv (.int .u64 y5.1) rfl) (W.e (k4 _ _ ?_))
  refine cw_seq fun K16 k17 => ?_
  refine cw_block ?_
  refine cw_seq fun K18 k19 => ?_
  refine cw_region (sv (mvv v0 rfl) (sv (rv_nileq Tryz.underlying80 rfl rfl h12.ne) (sv (asv (.bool y5.2.isNone) rfl) (W.e (k19 _ _ ?_)))))
  rcases bif_some h with ⟨b20, h⟩ | ⟨b20, h⟩
  · refine cw_t rfl b20 ?_
    refine cw_seq fun K21 k22 => ?_
    refine cw_region (sv (asv (.string ByteArray.empty) rfl) (W.e (k22 _ _ (cw_ret ?_))))
    obtain rfl := osi h
    exact ⟨_, rfl, _, _, _, rfl, C, h12, h15⟩
  · refine cw_f rfl b20 ?_
    refine cw_seq fun K23 k24 => ?_
    refine cw_region (sv (mvv (.int .u64 y5.1) rfl) (sv (mvv v0 rfl) ?_))
    obtain ⟨y25, h26, h⟩ := bnd_some h
    have h27 := h12
    rw [h26] at h27
    replace h27 : Ob 112 (octs_Taker.fs y25) _ _ _ _ _ := h27
    refine sv (rv_nilcheck rfl h27.ptr) (sv (rv_fieldAddr (b := pb v0) (o := 0) st112 rfl h27.ptr) ?_)
    obtain ⟨c28, h29, h30⟩ := h27.sl (i := 0) rfl
    refine sr (rw_ofield (i := 0) (c := c28) h27 ag36 h29 rfl) (sv (rv_lenS el36 h30 rfl) ?_)
    obtain ⟨y31, h32, h⟩ := pur_some h
    refine sv (rv_conv Tryz.underlying3 Tryz.underlying74 rfl h32) (sv (rv_gtr rfl rfl) (sv (asv (.bool (decide (y31 < y5.1))) rfl) (W.e (k24 _ _ ?_))))
    rcases bif_some h with ⟨b33, h⟩ | ⟨b33, h⟩
    · refine cw_t rfl b33 ?_
      refine cw_seq fun K34 k35 => ?_
      refine cw_region (sv (mvv v0 rfl) ?_)
      obtain ⟨y36, h37, h⟩ := bnd_some h
      refine sc (dc_call (vs := [v0]) can67 rfl ?_)
      refine (octs_Taker_fail_w C.sb h27 h37).mono ?_
      rintro _ w38 ⟨S39, cs41, fp42, rfl, c40, h43, h44⟩
      refine ⟨_, rfl, ?_⟩
      have h45 : ∀ b, b ∈ fp11 → ¬ S8 b := fun b hb => (h27.lt b hb).2
      have h46 : ∀ b, b ∈ fp42 → b ∈ fp0 ∨ w.heap.size ≤ b := fun b hb => (h44 b hb).elim (h15 b) (fun hl => .inr (Nat.le_trans C.up.size hl))
      replace C := C.ofc c40 h15
      refine W.e (k35 _ _ ?_)
      refine cw_seq fun K47 k48 => ?_
      refine cw_region (sv (asv (.string ByteArray.empty) rfl) (W.e (k48 _ _ (cw_ret ?_))))
      obtain rfl := osi h
      exact ⟨_, rfl, _, _, _, rfl, C, h43, h46⟩
    · refine cw_f rfl b33 (cw_skip (k17 _ _ ?_))
      refine cw_seq fun K49 k50 => ?_
      refine cw_region (sv (mvv v0 rfl) (sv (rv_nilcheck rfl h27.ptr) (sv (rv_fieldAddr (b := pb v0) (o := 0) st112 rfl h27.ptr) ?_)))
      obtain ⟨c51, h52, h53⟩ := h27.sl (i := 0) rfl
      refine sr (rw_ofield (i := 0) (c := c51) h27 ag36 h52 rfl) (sv (mvv (.int .u64 y5.1) rfl) ?_)
      obtain ⟨y54, h55, h⟩ := bnd_some h
      obtain ⟨v56, h57, h58⟩ := rv_uptoA (P := Tryz.prog) el36 h53 h55
      refine sv (h58 rfl rfl) (sr (rw_str h57 (Sm.refl _ _) Tryz.underlying36 Tryz.underlying5 Tryz.underlying9 rfl) (sv (asv (.string (strOf y54)) rfl) (W.e (k50 _ _ ?_))))
      refine cw_seq fun K59 k60 => ?_
      refine cw_region (sv (mvv v0 rfl) (sv (mvv v0 rfl) (sv (rv_nilcheck rfl h27.ptr) (sv (rv_fieldAddr (b := pb v0) (o := 0) st112 rfl h27.ptr) ?_))))
      obtain ⟨c61, h62, h63⟩ := h27.sl (i := 0) rfl
      refine sr (rw_ofield (i := 0) (c := c61) h27 ag36 h62 rfl) (sv (mvv (.int .u64 y5.1) rfl) ?_)
      obtain ⟨y64, h65, h⟩ := bnd_some h
      obtain ⟨v66, h67, h68⟩ := rv_fromA (P := Tryz.prog) el36 h63 h65
      refine sv (h68 rfl rfl) (sv (rv_nilcheck rfl h27.ptr) (sv (rv_fieldAddr (b := pb v0) (o := 0) st112 rfl h27.ptr) ?_))
      obtain ⟨y69, h70, h⟩ := pur_some h
      have h75 : ∀ b, b ∈ fp11 → ¬ S8 b := fun b hb => (h27.lt b hb).2
      refine sc (dc_ofield (i := 0) (k := (kSl (kI .u8))) (h1 := rfl) (a' := y64) h27 rfl ag36 rfl rfl (rep_sl.2 ⟨_, rfl, h67⟩) fun w71 h72 u73 => ?_)
      replace h72 : Ob 112 (octs_Taker.fs ({ y25 with rest := y64 } : octs_Taker)) S8 w71 v0 (cs10.set 0 v66) fp11 := h72
      rw [h70] at h72
      obtain ⟨cs76, h77⟩ : ∃ cs, cs = cs10.set 0 v66 := ⟨_, rfl⟩
      rw [← h77] at h72
      have c74 := Cx.ofUp C.sb u73
      replace C := C.ofc c74 h15
      refine W.e (k60 _ _ ?_)
      refine cw_seq fun K78 k79 => ?_
      refine cw_region (sv (mvv (.string (strOf y54)) rfl) (sv (asv (.string (strOf y54)) rfl) (W.e (k79 _ _ (cw_ret ?_)))))
      obtain rfl := osi h
      exact ⟨_, rfl, _, _, _, rfl, C, h72, h15⟩

def slices_Clone_byte_byte (a0 : List Int) : Option (List Int) := clone_ 1 a0
theorem slices_Clone_byte_byte_w {S : Nat → Prop} {w : World} {a0 : List Int} {v0 : Value} {r : List Int} (hS : Sb S w) (h0 : Sl (kSl (kI .u8)) S w v0 a0) (h : slices_Clone_byte_byte a0 = some r) :
    Calls Tryz.prog 69 (List.toArray [v0]) w fun e w1 => ∃ S1 u0, e = .returned u0 ∧ Cx No S w S1 w1 ∧ Ow (kI .u8) 5 S1 w.heap.size w1 u0 r := by
  refine enter Tryz.func69 rfl (by kernel_rfl) rfl ?_
  have C := Cx.refl (F := No) hS
  unfold slices_Clone_byte_byte at h
  refine cw_seq fun K1 k1 => cw_region (sv rv_assign (W.e (k1 _ _ ?_)))
  obtain ⟨A, c, rfl, _, _, hA⟩ := sl_slice.1 h0
  refine cw_seq fun K2 k2 => cw_seq fun K3 k3 => cw_region (sv rv_move (sv (rv_slnil Tryz.underlying36 rfl rfl) (W.e (k3 _ _ ?_))))
  cases A with
  | none =>
    refine cw_t rfl rfl (cw_seq fun K4 k4 => cw_region (sv rv_assign (W.e (k4 _ _ (cw_ret ?_)))))
    have : a0 = [] := hA.elim (fun h => h) fun ⟨_, _, h, _⟩ => by cases h
    subst this
    obtain rfl := clone_nil h
    exact ⟨_, rfl, S, _, rfl, C, Ow.nil _ _ _ _ _⟩
  | some a =>
    refine cw_f rfl rfl (cw_skip (k2 _ _ ?_))
    refine cw_seq fun K5 k5 => cw_region ?_
    refine sc (dc_lit (vs := []) (xs := ([] : List Int)) (base := w.heap.size) el36 rfl rfl .nil (Nat.le_of_ble_eq_true rfl) C.up.size C.sb fun u w1 ho hb up => ?_)
    replace h0 := h0.nw up
    replace C := C.new up
    refine sv rv_move (sc (dc_append el36 (by decide) ho (h0.src fun _ h => h) rfl rfl (clone_app h) C.up.size C.sb fun u2 w2 ho2 up2 hb2 => ?_))
    replace C := C.ow ho up2
    exact sv rv_assign (W.e (k5 _ _ (cw_ret ⟨_, rfl, S, _, rfl, C, ho2⟩)))

noncomputable def label_Take.b2 (y18 : Int × (Option octs_Taker)) (x55 : List api_Label) (x56 : Int) (x57 : Option octs_Taker) : Option (((List api_Label) × Int × (Option octs_Taker)) ⊕ ((List api_Label) × (Option octs_Taker))) :=
  (bif (decide (x56 < y18.1)) then ((octs_Taker_Text x57).bind fun y69 => ((octs_Taker_Text y69.2).bind fun y81 => ((app_ 32 x55 ([(api_Label.mk y69.1 y81.1)] : List api_Label)).bind fun y100 => (pur (IntKind.u64.wrap (x56 + (1 : Int))) fun y109 => some (.inl (y100, y109, y81.2)))))) else some (.inr (x55, x57)))
noncomputable def label_Take (a0 : List Int) : Option ((List api_Label) × (List Int) × Int) :=
  ((octs_New a0).bind fun y5 => ((octs_Taker_Num y5).bind fun y18 => (bif (decide ((6 : Int) < y18.1)) then some (([] : List api_Label), ([] : List Int), (6 : Int)) else ((iter (fun s : (List api_Label) × Int × (Option octs_Taker) => label_Take.b2 y18 s.1 s.2.1 s.2.2) (([] : List api_Label), (0 : Int), y18.2)).bind fun o38 => ((label_Right o38.1).bind fun y126 => (bif (!y126) then some (([] : List api_Label), ([] : List Int), (6 : Int)) else ((octs_Taker_Left o38.2).bind fun y136 => (pur (IntKind.i64.wrap ((a0.length : Int) - y136)) fun y141 => ((from_ a0 y141).bind fun y143 => ((slices_Clone_byte_byte y143).bind fun y148 => some (o38.1, y148, (0 : Int))))))))))))
theorem label_Take_w {S : Nat → Prop} {w : World} {a0 : List Int} {v0 : Value} {r : (List api_Label) × (List Int) × Int} (hS : Sb S w) (h0 : Sl (kSl (kI .u8)) S w v0 a0) (h : label_Take a0 = some r) :
    Calls Tryz.prog 42 (List.toArray [v0]) w fun e w1 => ∃ S1 u0 u1, e = .returned (.tuple (List.toArray [u0, u1, .int .i64 r.2.2])) ∧ Cx No S w S1 w1 ∧ Sl (kSl api_Label.k) S1 w1 u0 r.1 ∧ Ow (kI .u8) 5 S1 w.heap.size w1 u1 r.2.1 := by
  refine enter Tryz.func42 rfl (by kernel_rfl) rfl ?_
  have C := Cx.refl (F := No) hS
  unfold label_Take at h
  refine cw_seq fun K1 k2 => ?_
  refine cw_region (sv (asv (.slice none 0 0) rfl) (sv (asv (.slice none 0 0) rfl) (sv (asv (.int .i64 0) rfl) (W.e (k2 _ _ ?_)))))
  refine cw_seq fun K3 k4 => ?_
  refine cw_region (sv (mvv v0 rfl) ?_)
  obtain ⟨y5, h6, h⟩ := bnd_some h
  refine sc (dc_call (vs := [v0]) can38 rfl ?_)
  refine (octs_New_w C.sb h0 h6).mono ?_
  rintro _ w7 ⟨S8, v10, cs11, fp12, rfl, c9, h13, h14⟩
  refine ⟨_, rfl, ?_⟩
  have h15 : ∀ b, b ∈ fp12 → w.heap.size ≤ b := fun b hb => Nat.le_trans C.up.size (h14 b hb)
  replace h0 := h0.cx c9
  replace C := C.trans c9
  refine sv (asv v10 rfl) (W.e (k4 _ _ ?_))
  refine cw_seq fun K16 k17 => ?_
  refine cw_region (sv (mvv v10 rfl) ?_)
  obtain ⟨y18, h19, h⟩ := bnd_some h
  refine sc (dc_call (vs := [v10]) can39 rfl ?_)
  refine (octs_Taker_Num_w C.sb h13 h19).mono ?_
  rintro _ w20 ⟨S21, cs23, fp24, rfl, c22, h25, h26⟩
  refine ⟨_, rfl, ?_⟩
  have h27 : ∀ b, b ∈ fp12 → ¬ S8 b := fun b hb => (h13.lt b hb).2
  have h28 : ∀ b, b ∈ fp24 → w.heap.size ≤ b := fun b hb => (h26 b hb).elim (h15 b) (fun hl => Nat.le_trans C.up.size hl)
  replace h0 := h0.cf c22 h27
  replace C := C.ofc c22 (fun b hb => .inr (h15 b hb))
  refine sv (asv (.int .u64 y18.1) rfl) (W.e (k17 _ _ ?_))
  refine cw_seq fun K29 k30 => ?_
  refine cw_seq fun K31 k32 => ?_
  refine cw_region (sv (mvv (.int .u64 y18.1) rfl) (sv (rv_gtr rfl rfl) (W.e (k32 _ _ ?_))))
  rcases bif_some h with ⟨b33, h⟩ | ⟨b33, h⟩
  · refine cw_t rfl b33 ?_
    refine cw_seq fun K34 k35 => ?_
    refine cw_region (sv (asv (.slice none 0 0) rfl) (sv (asv (.slice none 0 0) rfl) (sv (asv (.int .i64 6) rfl) (W.e (k35 _ _ (cw_ret ?_))))))
    obtain rfl := osi h
    exact ⟨_, rfl, _, _, _, rfl, C, (sl_nil _ _ _), Ow.nil _ _ _ _ _⟩
  · refine cw_f rfl b33 (cw_skip (k30 _ _ ?_))
    refine cw_seq fun K36 k37 => ?_
    refine cw_region (sv (asv (.slice none 0 0) rfl) (W.e (k37 _ _ ?_)))
    obtain ⟨o38, h41, h⟩ := bnd_some h
    refine cw_seq' (fun ρ w1 => ∃ S1 v114 fp117 cs119, Cx No S w S1 w1 ∧ Has ρ [(0, v0), (5, v10), (7, v114)] ∧ Sl (kSl (kI .u8)) S1 w1 v0 a0 ∧ Ow api_Label.k 46 S1 w.heap.size w1 v114 o38.1 ∧ Obo 112 octs_Taker.fs S1 w1 v10 o38.2 cs119 fp117 ∧ (∀ b, b ∈ fp117 → w.heap.size ≤ b) ∧ (∀ b, Blk v114 b → ¬ b ∈ fp117)) ?_ ?_
    · refine cw_seq fun K42 k43 => ?_
      refine cw_region (sv (mvv (.int .u64 y18.1) rfl) (sv (mvv (.int .u64 0) rfl) (W.e (k43 _ _ (cw_block ?_)))))
      refine cw_iter h41 (fun s ρ w1 => ∃ S1 v47 fp50 cs52, Cx No S w S1 w1 ∧ Has ρ [(0, v0), (5, v10), (7, v47), (15, .int .u64 y18.1), (16, .int .u64 s.2.1)] ∧ Sl (kSl (kI .u8)) S1 w1 v0 a0 ∧ Ow api_Label.k 46 S1 w.heap.size w1 v47 s.1 ∧ Obo 112 octs_Taker.fs S1 w1 v10 s.2.2 cs52 fp50 ∧ (∀ b, b ∈ fp50 → w.heap.size ≤ b) ∧ (∀ b, Blk v47 b → ¬ b ∈ fp50)) ⟨_, _, _, _, C, ⟨rfl, rfl, rfl, rfl, rfl, trivial⟩, h0, Ow.nil _ _ _ _ _, h25, h28, ap_nil⟩ ?_
      rintro ⟨x55, x56, x57⟩ q44 ρ w46 ⟨S45, v47, fp50, cs52, C, h54, h0, h48, h49, h51, p53⟩ h59 h58
      refine h54.cw fun ρ => ?_
      clear h54
      replace h59 : label_Take.b2 y18 x55 x56 x57 = some q44 := h59
      unfold label_Take.b2 at h59
      refine cw_seq fun K60 k61 => ?_
      refine cw_region (sv (rv_lss rfl rfl) (W.e (k61 _ _ ?_)))
      refine cw_seq fun K62 k63 => ?_
      rcases bif_some h59 with ⟨b64, h59⟩ | ⟨b64, h59⟩
      · refine cw_t rfl b64 (cw_skip (k63 _ _ ?_))
        refine cw_seq fun K65 k66 => ?_
        refine cw_block ?_
        refine cw_seq fun K67 k68 => ?_
        refine cw_region (sv (mvv v10 rfl) ?_)
        obtain ⟨y69, h70, h59⟩ := bnd_some h59
        refine sc (dc_call (vs := [v10]) can68 rfl ?_)
        refine (octs_Taker_Text_w C.sb h49 h70).mono ?_
        rintro _ w71 ⟨S72, cs74, fp75, rfl, c73, h76, h77⟩
        refine ⟨_, rfl, ?_⟩
        have h78 : ∀ b, b ∈ fp50 → ¬ S45 b := fun b hb => (h49.lt b hb).2
        have p79 := ap_grow (ap_symm p53) h77 (fun b hb => (h48.lt b hb).2)
        have h80 : ∀ b, b ∈ fp75 → w.heap.size ≤ b := fun b hb => (h77 b hb).elim (h51 b) (fun hl => Nat.le_trans C.up.size hl)
        replace h0 := h0.cf c73 h78
        replace h48 := h48.cf c73 h78 p53
        replace C := C.ofc c73 (fun b hb => .inr (h51 b hb))
        refine sv (asv (.string y69.1) rfl) (W.e (k68 _ _ (cw_region (sv (mvv v47 rfl) (sv (mvv (.string y69.1) rfl) (sv (mvv v10 rfl) ?_))))))
        obtain ⟨y81, h82, h59⟩ := bnd_some h59
        refine sc (dc_call (vs := [v10]) can68 rfl ?_)
        refine (octs_Taker_Text_w C.sb h76 h82).mono ?_
        rintro _ w83 ⟨S84, cs86, fp87, rfl, c85, h88, h89⟩
        refine ⟨_, rfl, ?_⟩
        have h90 : ∀ b, b ∈ fp75 → ¬ S72 b := fun b hb => (h76.lt b hb).2
        have p91 := ap_grow p79 h89 (fun b hb => (h48.lt b hb).2)
        have h92 : ∀ b, b ∈ fp87 → w.heap.size ≤ b := fun b hb => (h89 b hb).elim (h80 b) (fun hl => Nat.le_trans C.up.size hl)
        replace h0 := h0.cf c85 h90
        replace h48 := h48.cf c85 h90 (ap_symm p79)
        replace C := C.ofc c85 (fun b hb => .inr (h80 b hb))
        refine sv (rv_build (r := [.string y69.1, .string y81.1]) st46 zr46 rfl) ?_
        refine sc (dc_lit (vs := [.agg (List.toArray [.string y69.1, .string y81.1])]) (xs := ([(api_Label.mk y69.1 y81.1)] : List api_Label)) (base := w.heap.size) el31 rfl rfl (.cons ((api_Label.o (x := (api_Label.mk y69.1 y81.1))).2 rfl) (.nil)) (Nat.le_of_ble_eq_true rfl) C.up.size C.sb fun v93 w94 h95 h96 u97 => ?_)
        have p98 := ap_fresh h96 (fun b hb => (h48.lt b hb).2)
        have p99 := ap_fresh h96 (fun b hb => (h88.lt b hb).1)
        replace h0 := h0.nw u97
        replace h48 := h48.nw u97
        replace h88 := h88.nw u97
        replace C := C.new u97
        obtain ⟨y100, h101, h59⟩ := bnd_some h59
        have h107 := h48
        refine sc (dc_append el31 (by decide) h107 h95.src rfl rfl h101 C.up.size C.sb fun v102 w103 h104 u105 h106 => ?_)
        have p108 := ap_grow (ap_symm p91) h106 (fun b hb => (h88.lt b hb).1)
        replace h0 := h0.wr u105 h107.not
        replace h88 := h88.wr u105 h107.not p91
        replace C := C.ow h107 u105
        refine sv (asv v102 rfl) (W.e (k66 _ _ (cw_region ?_)))
        obtain ⟨y109, h110, h59⟩ := pur_some h59
        refine sv (rv_add rfl rfl h110) (sv (mvv (.int .u64 y109) rfl) (W.e ?_))
        obtain rfl := osi h59
        exact ⟨_, rfl, ⟨_, _, _, _, C, ⟨rfl, rfl, rfl, rfl, rfl, trivial⟩, h0, h104, h88, h92, p108⟩⟩
      · refine cw_f rfl b64 (cw_exit ?_)
        obtain rfl := osi h59
        have h111 := congrArg some h58
        obtain rfl := osi h111
        exact ⟨_, _, _, _, C, ⟨rfl, rfl, rfl, trivial⟩, h0, h48, h49, h51, p53⟩
    · rintro ρ w113 ⟨S112, v114, fp117, cs119, C, h121, h0, h115, h116, h118, p120⟩
      refine h121.cw fun ρ => ?_
      clear h121
      refine cw_seq fun K122 k123 => ?_
      refine cw_seq fun K124 k125 => ?_
      refine cw_region (sv (mvv v114 rfl) ?_)
      replace h0 := h0.or (T := Blk v114)
      replace h116 := h116.or (ap_symm p120)
      replace C := C.sealO h115
      replace h115 := h115.sealed
      obtain ⟨y126, h127, h⟩ := bnd_some h
      refine sc (dc_call (vs := [v114]) can62 rfl ?_)
      refine (label_Right_w C.sb h115 h127).mono ?_
      rintro _ w128 ⟨S129, rfl, c130⟩
      refine ⟨_, rfl, ?_⟩
      replace h0 := h0.cx c130
      replace h116 := h116.cx c130
      replace h115 := h115.cx c130
      replace C := C.trans c130
      refine sv (rv_not rfl) (W.e (k125 _ _ ?_))
      rcases bif_some h with ⟨b131, h⟩ | ⟨b131, h⟩
      · refine cw_t rfl b131 ?_
        refine cw_seq fun K132 k133 => ?_
        refine cw_region (sv (asv (.slice none 0 0) rfl) (sv (asv (.slice none 0 0) rfl) (sv (asv (.int .i64 6) rfl) (W.e (k133 _ _ (cw_ret ?_))))))
        obtain rfl := osi h
        exact ⟨_, rfl, _, _, _, rfl, C, (sl_nil _ _ _), Ow.nil _ _ _ _ _⟩
      · refine cw_f rfl b131 (cw_skip (k123 _ _ ?_))
        refine cw_seq fun K134 k135 => ?_
        refine cw_region (sv (mvv v114 rfl) (sv (mvv v0 rfl) (sv (mvv v0 rfl) (sv (rv_lenS el36 h0 rfl) (sv (mvv v10 rfl) ?_)))))
        obtain ⟨y136, h137, h⟩ := bnd_some h
        refine sc (dc_call (vs := [v10]) can40 rfl ?_)
        refine (octs_Taker_Left_w C.sb h116 h137).mono ?_
        rintro _ w138 ⟨S139, rfl, c140⟩
        refine ⟨_, rfl, ?_⟩
        replace h0 := h0.cx c140
        replace h115 := h115.cx c140
        replace C := C.trans c140
        obtain ⟨y141, h142, h⟩ := pur_some h
        refine sv (rv_sub rfl rfl h142) ?_
        obtain ⟨y143, h144, h⟩ := bnd_some h
        obtain ⟨v145, h146, h147⟩ := rv_fromA (P := Tryz.prog) el36 h0 h144
        refine sv (h147 rfl rfl) ?_
        obtain ⟨y148, h149, h⟩ := bnd_some h
        refine sc (dc_call (vs := [v145]) can69 rfl ?_)
        refine (slices_Clone_byte_byte_w C.sb h146 h149).mono ?_
        rintro _ w150 ⟨S151, v153, rfl, c152, h154⟩
        refine ⟨_, rfl, ?_⟩
        replace h154 := h154.base C.up.size
        replace h115 := h115.cx c152
        replace C := C.trans c152
        refine sv (asv v114 rfl) (sv (asv v153 rfl) (sv (asv (.int .i64 0) rfl) (W.e (k135 _ _ (cw_ret ?_)))))
        obtain rfl := osi h
        exact ⟨_, rfl, _, _, _, rfl, C, h115, h154⟩

noncomputable def index_Open.b6 (y18 : Int × (Option octs_Taker)) (y29 : Int × (Option octs_Taker)) (x148 : List Int) (x149 : Int) (x150 : Int) (x151 : index_Index) : Option (((List Int) × Int × Int × index_Index) ⊕ (((List Int) × index_Index) ⊕ ((Option index_Index) × Int))) :=
  (bif (decide (x150 < y29.1)) then (((octs_New x148).bind fun y165 => ((octs_Taker_Num y165).bind fun y179 => ((octs_Taker_Left y179.2).bind fun y193 => (pur (IntKind.i64.wrap ((x148.length : Int) - y193)) fun y198 => ((from_ x148 y198).bind fun y200 => ((label_Take y200).bind fun y205 => (((bif (y205.2.2 != (0 : Int)) then some true else (bif (decide (y18.1 ≤ y179.1)) then some true else (pur (IntKind.i64.wrap y179.1) fun y225 => some (decide (y225 ≤ x149))))).bind fun o219 => (bif o219 then some (.inr (.inr (.inr (.inr (none, (6 : Int)))))) else some (.inl ()))).bind (Sum.elim (fun o215n => ((index_key y205.1).bind fun y241 => (bif (mget y241.2.1 x151.ids).isSome then some (.inr (.inr (.inr (none, (6 : Int))))) else (pur (IntKind.i64.wrap y179.1) fun y267 => ((index_Index_put x151 y267 y205.1 y241.2.1).bind fun y269 => (pur (IntKind.i64.wrap y179.1) fun y281 => some (.inl (y205.2.1, y281, y269)))))))) (fun q => some q))))))))).bind (Sum.elim (fun o159n => (pur (IntKind.u64.wrap (x150 + (1 : Int))) fun y293 => some (.inl (o159n.1, o159n.2.1, y293, o159n.2.2)))) (fun q => some q))) else some (.inr (.inl (x148, x151))))
noncomputable def index_Open (a0 : List Int) : Option ((Option index_Index) × Int) :=
  ((octs_New a0).bind fun y5 => ((octs_Taker_Num y5).bind fun y18 => ((octs_Taker_Num y18.2).bind fun y29 => (((bif (decide ((4096 : Int) < y18.1)) then some true else some (decide ((200 : Int) < y29.1))).bind fun o44 => (bif o44 then some (.inr (none, (6 : Int))) else some (.inl ()))).bind (Sum.elim (fun o40n => ((index_New).bind fun y60 => (pur (IntKind.i64.wrap y18.1) fun y74 => ((y60).bind fun y76 => (pur ({ y76 with given := y74 } : index_Index) fun y79 => ((octs_Taker_Left y29.2).bind fun y90 => (pur (IntKind.i64.wrap ((a0.length : Int) - y90)) fun y95 => ((from_ a0 y95).bind fun y97 => ((((octs_Taker_Left y29.2).bind fun y110 => (bif (y110 == (0 : Int)) then ((octs_Taker_End y29.2).bind fun y116 => some (y116 != (0 : Int))) else some false)).bind fun o106 => (bif o106 then some (.inr (none, (6 : Int))) else some (.inl ()))).bind (Sum.elim (fun o102n => ((iter (fun s : (List Int) × Int × Int × index_Index => index_Open.b6 y18 y29 s.1 s.2.1 s.2.2.1 s.2.2.2) (y97, (-1 : Int), (0 : Int), y79)).bind (Sum.elim (fun o132n => (bif (decide ((0 : Int) < (o132n.1.length : Int))) then some (none, (6 : Int)) else some (some o132n.2, (0 : Int)))) (fun q => some q)))) (fun q => some q))))))))))) (fun q => some q))))))
theorem index_Open_w {S : Nat → Prop} {w : World} {a0 : List Int} {v0 : Value} {r : (Option index_Index) × Int} (hS : Sb S w) (h0 : Sl (kSl (kI .u8)) S w v0 a0) (h : index_Open a0 = some r) :
    Calls Tryz.prog 12 (List.toArray [v0]) w fun e w1 => ∃ S1 u0 us0 up0, e = .returned (.tuple (List.toArray [u0, .int .i64 r.2])) ∧ Cx No S w S1 w1 ∧ Obo 61 index_Index.fs S1 w1 u0 r.1 us0 up0 ∧ (∀ b, b ∈ up0 → w.heap.size ≤ b) := by
  refine enter Tryz.func12 rfl (by kernel_rfl) rfl ?_
  have C := Cx.refl (F := No) hS
  unfold index_Open at h
  refine cw_seq fun K1 k2 => ?_
  refine cw_region (sv (asv (.pointer none) rfl) (sv (asv (.int .i64 0) rfl) (W.e (k2 _ _ ?_))))
  refine cw_seq fun K3 k4 => ?_
  refine cw_region (sv (mvv v0 rfl) ?_)
  obtain ⟨y5, h6, h⟩ := bnd_some h
  refine sc (dc_call (vs := [v0]) can38 rfl ?_)
  refine (octs_New_w C.sb h0 h6).mono ?_
  rintro _ w7 ⟨S8, v10, cs11, fp12, rfl, c9, h13, h14⟩
  refine ⟨_, rfl, ?_⟩
  have h15 : ∀ b, b ∈ fp12 → w.heap.size ≤ b := fun b hb => Nat.le_trans C.up.size (h14 b hb)
  replace h0 := h0.cx c9
  replace C := C.trans c9
  refine sv (asv v10 rfl) (W.e (k4 _ _ ?_))
  refine cw_seq fun K16 k17 => ?_
  refine cw_region (sv (mvv v10 rfl) ?_)
  obtain ⟨y18, h19, h⟩ := bnd_some h
  refine sc (dc_call (vs := [v10]) can39 rfl ?_)
  refine (octs_Taker_Num_w C.sb h13 h19).mono ?_
  rintro _ w20 ⟨S21, cs23, fp24, rfl, c22, h25, h26⟩
  refine ⟨_, rfl, ?_⟩
  have h27 : ∀ b, b ∈ fp12 → ¬ S8 b := fun b hb => (h13.lt b hb).2
  have h28 : ∀ b, b ∈ fp24 → w.heap.size ≤ b := fun b hb => (h26 b hb).elim (h15 b) (fun hl => Nat.le_trans C.up.size hl)
  replace h0 := h0.cf c22 h27
  replace C := C.ofc c22 (fun b hb => .inr (h15 b hb))
  refine sv (mvv v10 rfl) ?_
  obtain ⟨y29, h30, h⟩ := bnd_some h
  refine sc (dc_call (vs := [v10]) can39 rfl ?_)
  refine (octs_Taker_Num_w C.sb h25 h30).mono ?_
  rintro _ w31 ⟨S32, cs34, fp35, rfl, c33, h36, h37⟩
  refine ⟨_, rfl, ?_⟩
  have h38 : ∀ b, b ∈ fp24 → ¬ S21 b := fun b hb => (h25.lt b hb).2
  have h39 : ∀ b, b ∈ fp35 → w.heap.size ≤ b := fun b hb => (h37 b hb).elim (h28 b) (fun hl => Nat.le_trans C.up.size hl)
  replace h0 := h0.cf c33 h38
  replace C := C.ofc c33 (fun b hb => .inr (h28 b hb))
  refine sv (asv (.int .u64 y18.1) rfl) (sv (asv (.int .u64 y29.1) rfl) (W.e (k17 _ _ ?_)))
  obtain ⟨o40, h43, h⟩ := bnds_some h
  refine cw_seq' (fun ρ w1 => ∃ o40n, o40 = (.inl o40n) ∧ ∃ S1, Cx No S w S1 w1 ∧ Has ρ [(0, v0), (4, v10), (5, .int .u64 y18.1), (6, .int .u64 y29.1)] ∧ Sl (kSl (kI .u8)) S1 w1 v0 a0 ∧ Obo 112 octs_Taker.fs S1 w1 v10 y29.2 cs34 fp35) ?_ ?_
  · obtain ⟨o44, h47, h43⟩ := bnd_some h43
    refine cw_seq' (fun ρ w1 => ∃ S1, Cx No S w S1 w1 ∧ Has ρ [(0, v0), (4, v10), (5, .int .u64 y18.1), (6, .int .u64 y29.1), (31, .bool o44)] ∧ Sl (kSl (kI .u8)) S1 w1 v0 a0 ∧ Obo 112 octs_Taker.fs S1 w1 v10 y29.2 cs34 fp35) ?_ ?_
    · refine cw_region (sv (mvv (.int .u64 y18.1) rfl) (sv (rv_gtr rfl rfl) (sv (mvv (.bool (decide ((4096 : Int) < y18.1))) rfl) ?_)))
      rcases bif_some h47 with ⟨b48, h47⟩ | ⟨b48, h47⟩
      · refine W.n (gn rfl rfl rfl b48) (W.n (gn rfl rfl rfl b48) (sv (ptk (.bool true) rfl b48 rfl) (W.e ?_)))
        obtain rfl := osi h47
        exact ⟨_, C, ⟨rfl, rfl, rfl, rfl, rfl, trivial⟩, h0, h36⟩
      · refine W.v (gy rfl rfl rfl b48) (mvv (.int .u64 y29.1) rfl) (W.v (gy rfl rfl rfl b48) (rv_gtr rfl rfl) (sv (pfk (.bool (decide ((200 : Int) < y29.1))) rfl b48 rfl) (W.e ?_)))
        obtain rfl := osi h47
        exact ⟨_, C, ⟨rfl, rfl, rfl, rfl, rfl, trivial⟩, h0, h36⟩
    · rintro ρ w50 ⟨S49, C, h51, h0, h36⟩
      refine h51.cw fun ρ => ?_
      clear h51
      rcases bif_some h43 with ⟨b52, h43⟩ | ⟨b52, h43⟩
      · refine cw_t rfl b52 ?_
        refine cw_seq fun K53 k54 => ?_
        refine cw_region (sv (asv (.pointer none) rfl) (sv (asv (.int .i64 6) rfl) (W.e (k54 _ _ (cw_ret ?_)))))
        obtain rfl := osi h43
        replace h := h.2 _ rfl
        obtain rfl := osi h
        exact ⟨_, rfl, _, _, _, _, rfl, C, ⟨rfl, rfl, rfl⟩, (fun b hb => by cases hb)⟩
      · refine cw_f rfl b52 (cw_skip ?_)
        obtain rfl := osi h43
        exact ⟨_, rfl, ⟨_, C, ⟨rfl, rfl, rfl, rfl, trivial⟩, h0, h36⟩⟩
  · rintro ρ w56 ⟨o40n, rfl, ⟨S55, C, h57, h0, h36⟩⟩
    replace h := h.1 _ rfl
    refine h57.cw fun ρ => ?_
    clear h57
    refine cw_seq fun K58 k59 => ?_
    refine cw_region ?_
    obtain ⟨y60, h61, h⟩ := bnd_some h
    refine sc (dc_call (vs := []) can6 rfl ?_)
    refine (index_New_w C.sb  h61).mono ?_
    rintro _ w62 ⟨S63, v65, cs66, fp67, rfl, c64, h68, h69⟩
    refine ⟨_, rfl, ?_⟩
    have p70 := ap_fresh h69 (fun b hb => (h36.lt b hb).1)
    have h71 : ∀ b, b ∈ fp67 → w.heap.size ≤ b := fun b hb => Nat.le_trans C.up.size (h69 b hb)
    replace h0 := h0.cx c64
    replace h36 := h36.cx c64
    replace C := C.trans c64
    refine sv (asv v65 rfl) (W.e (k59 _ _ ?_))
    refine cw_seq fun K72 k73 => ?_
    refine cw_region (sv (mvv v65 rfl) (sv (mvv (.int .u64 y18.1) rfl) ?_))
    obtain ⟨y74, h75, h⟩ := pur_some h
    refine sv (rv_conv Tryz.underlying74 Tryz.underlying3 rfl h75) ?_
    obtain ⟨y76, h77, h⟩ := bnd_some h
    have h78 := h68
    rw [h77] at h78
    replace h78 : Ob 61 (index_Index.fs y76) _ _ _ _ _ := h78
    refine sv (rv_nilcheck rfl h78.ptr) (sv (rv_fieldAddr (b := pb v65) (o := 0) st61 rfl h78.ptr) ?_)
    obtain ⟨y79, h80, h⟩ := pur_some h
    have h85 : ∀ b, b ∈ fp67 → ¬ S63 b := fun b hb => (h78.lt b hb).2
    refine sc (dc_ofield (i := 4) (k := (kI .i64)) (h1 := rfl) (a' := y74) h78 rfl ag3 rfl rfl (rep_sc.2 rfl) fun w81 h82 u83 => ?_)
    replace h82 : Ob 61 (index_Index.fs ({ y76 with given := y74 } : index_Index)) S63 w81 v65 (cs66.set 4 (.int .i64 y74)) fp67 := h82
    rw [h80] at h82
    obtain ⟨cs86, h87⟩ : ∃ cs, cs = cs66.set 4 (.int .i64 y74) := ⟨_, rfl⟩
    rw [← h87] at h82
    have c84 := Cx.ofUp C.sb u83
    replace h0 := h0.cf c84 h85
    replace h36 := h36.cf c84 h85 (ap_symm p70)
    replace C := C.ofc c84 (fun b hb => .inr (h71 b hb))
    refine W.e (k73 _ _ ?_)
    refine cw_seq fun K88 k89 => ?_
    refine cw_region (sv (mvv v0 rfl) (sv (mvv v0 rfl) (sv (rv_lenS el36 h0 rfl) (sv (mvv v10 rfl) ?_))))
    obtain ⟨y90, h91, h⟩ := bnd_some h
    refine sc (dc_call (vs := [v10]) can40 rfl ?_)
    refine (octs_Taker_Left_w C.sb h36 h91).mono ?_
    rintro _ w92 ⟨S93, rfl, c94⟩
    refine ⟨_, rfl, ?_⟩
    replace h36 := h36.cx c94
    replace h82 := h82.cx c94
    replace h0 := h0.cx c94
    replace C := C.trans c94
    obtain ⟨y95, h96, h⟩ := pur_some h
    refine sv (rv_sub rfl rfl h96) ?_
    obtain ⟨y97, h98, h⟩ := bnd_some h
    obtain ⟨v99, h100, h101⟩ := rv_fromA (P := Tryz.prog) el36 h0 h98
    refine sv (h101 rfl rfl) (sv (asv v99 rfl) (W.e (k89 _ _ ?_)))
    obtain ⟨o102, h105, h⟩ := bnds_some h
    refine cw_seq' (fun ρ w1 => ∃ o102n, o102 = (.inl o102n) ∧ ∃ S1, Cx No S w S1 w1 ∧ Has ρ [(5, .int .u64 y18.1), (6, .int .u64 y29.1), (7, v65), (8, v99)] ∧ Sl (kSl (kI .u8)) S1 w1 v99 y97 ∧ Ob 61 (index_Index.fs y79) S1 w1 v65 cs86 fp67) ?_ ?_
    · obtain ⟨o106, h109, h105⟩ := bnd_some h105
      refine cw_seq' (fun ρ w1 => ∃ S1, Cx No S w S1 w1 ∧ Has ρ [(5, .int .u64 y18.1), (6, .int .u64 y29.1), (7, v65), (8, v99), (52, .bool o106)] ∧ Sl (kSl (kI .u8)) S1 w1 v99 y97 ∧ Ob 61 (index_Index.fs y79) S1 w1 v65 cs86 fp67) ?_ ?_
      · refine cw_region (sv (mvv v10 rfl) ?_)
        obtain ⟨y110, h111, h109⟩ := bnd_some h109
        refine sc (dc_call (vs := [v10]) can40 rfl ?_)
        refine (octs_Taker_Left_w C.sb h36 h111).mono ?_
        rintro _ w112 ⟨S113, rfl, c114⟩
        refine ⟨_, rfl, ?_⟩
        replace h36 := h36.cx c114
        replace h82 := h82.cx c114
        replace h100 := h100.cx c114
        replace C := C.trans c114
        refine sv (rv_eql rfl rfl) (sv (mvv (.bool (y110 == (0 : Int))) rfl) ?_)
        rcases bif_some h109 with ⟨b115, h109⟩ | ⟨b115, h109⟩
        · refine W.v (gy rfl rfl rfl b115) (mvv v10 rfl) ?_
          obtain ⟨y116, h117, h109⟩ := bnd_some h109
          refine W.c (gy rfl rfl rfl b115) (dc_call (vs := [v10]) can41 rfl ?_)
          refine (octs_Taker_End_w C.sb h36 h117).mono ?_
          rintro _ w118 ⟨S119, rfl, c120⟩
          refine ⟨_, rfl, ?_⟩
          replace h82 := h82.cx c120
          replace h100 := h100.cx c120
          replace C := C.trans c120
          refine W.v (gy rfl rfl rfl b115) (rv_neq rfl rfl) (sv (ptk (.bool (y116 != (0 : Int))) rfl b115 rfl) (W.e ?_))
          obtain rfl := osi h109
          exact ⟨_, C, ⟨rfl, rfl, rfl, rfl, rfl, trivial⟩, h100, h82⟩
        · refine W.n (gn rfl rfl rfl b115) (W.n (gn rfl rfl rfl b115) (W.n (gn rfl rfl rfl b115) (sv (pfk (.bool false) rfl b115 rfl) (W.e ?_))))
          obtain rfl := osi h109
          exact ⟨_, C, ⟨rfl, rfl, rfl, rfl, rfl, trivial⟩, h100, h82⟩
      · rintro ρ w122 ⟨S121, C, h123, h100, h82⟩
        refine h123.cw fun ρ => ?_
        clear h123
        rcases bif_some h105 with ⟨b124, h105⟩ | ⟨b124, h105⟩
        · refine cw_t rfl b124 ?_
          refine cw_seq fun K125 k126 => ?_
          refine cw_region (sv (asv (.pointer none) rfl) (sv (asv (.int .i64 6) rfl) (W.e (k126 _ _ (cw_ret ?_)))))
          obtain rfl := osi h105
          replace h := h.2 _ rfl
          obtain rfl := osi h
          exact ⟨_, rfl, _, _, _, _, rfl, C, ⟨rfl, rfl, rfl⟩, (fun b hb => by cases hb)⟩
        · refine cw_f rfl b124 (cw_skip ?_)
          obtain rfl := osi h105
          exact ⟨_, rfl, ⟨_, C, ⟨rfl, rfl, rfl, rfl, trivial⟩, h100, h82⟩⟩
    · rintro ρ w128 ⟨o102n, rfl, ⟨S127, C, h129, h100, h82⟩⟩
      replace h := h.1 _ rfl
      refine h129.cw fun ρ => ?_
      clear h129
      refine cw_seq fun K130 k131 => ?_
      refine cw_region (sv (asv (.int .i64 (-1)) rfl) (W.e (k131 _ _ ?_)))
      obtain ⟨o132, h135, h⟩ := bnds_some h
      refine cw_seq' (fun ρ w1 => ∃ o132n, o132 = (.inl o132n) ∧ ∃ S1 v298 fp301 cs303, Cx No S w S1 w1 ∧ Has ρ [(7, v65), (8, v298)] ∧ Sl (kSl (kI .u8)) S1 w1 v298 o132n.1 ∧ Ob 61 (index_Index.fs o132n.2) S1 w1 v65 cs303 fp301 ∧ (∀ b, b ∈ fp301 → w.heap.size ≤ b)) ?_ ?_
      · refine cw_seq fun K136 k137 => ?_
        refine cw_region (sv (mvv (.int .u64 y29.1) rfl) (sv (mvv (.int .u64 0) rfl) (W.e (k137 _ _ (cw_block ?_)))))
        refine cw_iter h135 (fun s ρ w1 => ∃ S1 v141 fp144 cs146, Cx No S w S1 w1 ∧ Has ρ [(5, .int .u64 y18.1), (7, v65), (8, v141), (9, .int .i64 s.2.1), (53, .int .u64 y29.1), (54, .int .u64 s.2.2.1)] ∧ Sl (kSl (kI .u8)) S1 w1 v141 s.1 ∧ Ob 61 (index_Index.fs s.2.2.2) S1 w1 v65 cs146 fp144 ∧ (∀ b, b ∈ fp144 → w.heap.size ≤ b)) ⟨_, _, _, _, C, ⟨rfl, rfl, rfl, rfl, rfl, rfl, trivial⟩, h100, h82, h71⟩ ?_
        rintro ⟨x148, x149, x150, x151⟩ q138 ρ w140 ⟨S139, v141, fp144, cs146, C, h147, h142, h143, h145⟩ h153 h152
        refine h147.cw fun ρ => ?_
        clear h147
        replace h153 : index_Open.b6 y18 y29 x148 x149 x150 x151 = some q138 := h153
        unfold index_Open.b6 at h153
        refine cw_seq fun K154 k155 => ?_
        refine cw_region (sv (rv_lss rfl rfl) (W.e (k155 _ _ ?_)))
        refine cw_seq fun K156 k157 => ?_
        rcases bif_some h153 with ⟨b158, h153⟩ | ⟨b158, h153⟩
        · refine cw_t rfl b158 (cw_skip (k157 _ _ ?_))
          obtain ⟨o159, h162, h153⟩ := bnds_some h153
          refine cw_seq' (fun ρ w1 => ∃ o159n, o159 = (.inl o159n) ∧ ∃ S1 v285 fp288 cs290, Cx No S w S1 w1 ∧ Has ρ [(5, .int .u64 y18.1), (7, v65), (8, v285), (9, .int .i64 o159n.2.1), (53, .int .u64 y29.1), (54, .int .u64 x150)] ∧ Ow (kI .u8) 5 S1 w.heap.size w1 v285 o159n.1 ∧ Ob 61 (index_Index.fs o159n.2.2) S1 w1 v65 cs290 fp288 ∧ (∀ b, b ∈ fp288 → w.heap.size ≤ b) ∧ (∀ b, Blk v285 b → ¬ b ∈ fp288)) ?_ ?_
          · refine cw_block ?_
            refine cw_seq fun K163 k164 => ?_
            refine cw_region (sv (mvv v141 rfl) ?_)
            obtain ⟨y165, h166, h162⟩ := bnd_some h162
            refine sc (dc_call (vs := [v141]) can38 rfl ?_)
            refine (octs_New_w C.sb h142 h166).mono ?_
            rintro _ w167 ⟨S168, v170, cs171, fp172, rfl, c169, h173, h174⟩
            refine ⟨_, rfl, ?_⟩
            have p175 := ap_fresh h174 (fun b hb => (h143.lt b hb).1)
            have h176 : ∀ b, b ∈ fp172 → w.heap.size ≤ b := fun b hb => Nat.le_trans C.up.size (h174 b hb)
            replace h143 := h143.cx c169
            replace h142 := h142.cx c169
            replace C := C.trans c169
            refine sv (asv v170 rfl) (W.e (k164 _ _ ?_))
            refine cw_seq fun K177 k178 => ?_
            refine cw_region (sv (mvv v170 rfl) ?_)
            obtain ⟨y179, h180, h162⟩ := bnd_some h162
            refine sc (dc_call (vs := [v170]) can39 rfl ?_)
            refine (octs_Taker_Num_w C.sb h173 h180).mono ?_
            rintro _ w181 ⟨S182, cs184, fp185, rfl, c183, h186, h187⟩
            refine ⟨_, rfl, ?_⟩
            have h188 : ∀ b, b ∈ fp172 → ¬ S168 b := fun b hb => (h173.lt b hb).2
            have p189 := ap_grow p175 h187 (fun b hb => (h143.lt b hb).1)
            have h190 : ∀ b, b ∈ fp185 → w.heap.size ≤ b := fun b hb => (h187 b hb).elim (h176 b) (fun hl => Nat.le_trans C.up.size hl)
            replace h143 := h143.cf c183 h188 (ap_symm p175)
            replace h142 := h142.cf c183 h188
            replace C := C.ofc c183 (fun b hb => .inr (h176 b hb))
            refine sv (asv (.int .u64 y179.1) rfl) (W.e (k178 _ _ ?_))
            refine cw_seq fun K191 k192 => ?_
            refine cw_region (sv (mvv v141 rfl) (sv (mvv v141 rfl) (sv (rv_lenS el36 h142 rfl) (sv (mvv v170 rfl) ?_))))
            obtain ⟨y193, h194, h162⟩ := bnd_some h162
            refine sc (dc_call (vs := [v170]) can40 rfl ?_)
            refine (octs_Taker_Left_w C.sb h186 h194).mono ?_
            rintro _ w195 ⟨S196, rfl, c197⟩
            refine ⟨_, rfl, ?_⟩
            replace h143 := h143.cx c197
            replace h142 := h142.cx c197
            replace C := C.trans c197
            obtain ⟨y198, h199, h162⟩ := pur_some h162
            refine sv (rv_sub rfl rfl h199) ?_
            obtain ⟨y200, h201, h162⟩ := bnd_some h162
            obtain ⟨v202, h203, h204⟩ := rv_fromA (P := Tryz.prog) el36 h142 h201
            refine sv (h204 rfl rfl) ?_
            obtain ⟨y205, h206, h162⟩ := bnd_some h162
            refine sc (dc_call (vs := [v202]) can42 rfl ?_)
            refine (label_Take_w C.sb h203 h206).mono ?_
            rintro _ w207 ⟨S208, v210, v212, rfl, c209, h211, h213⟩
            refine ⟨_, rfl, ?_⟩
            have p214 := ap_fresh (fun b hb => (h213.lt b hb).1) (fun b hb => (h143.lt b hb).1)
            replace h213 := h213.base C.up.size
            replace h143 := h143.cx c209
            replace C := C.trans c209
            refine sv (mvv (.tuple (List.toArray [v210, v212, .int .i64 y205.2.2])) rfl) (sv (rv_extract rfl rfl) (sv (rv_extract rfl rfl) (sv (rv_extract rfl rfl) (sv (asv v210 rfl) (sv (asv v212 rfl) (sv (asv (.int .i64 y205.2.2) rfl) (W.e (k192 _ _ ?_))))))))
            obtain ⟨o215, h218, h162⟩ := bnds_some h162
            refine cw_seq' (fun ρ w1 => ∃ o215n, o215 = (.inl o215n) ∧ ∃ S1, Cx No S w S1 w1 ∧ Has ρ [(5, .int .u64 y18.1), (7, v65), (11, .int .u64 y179.1), (12, v210), (13, v212), (53, .int .u64 y29.1), (54, .int .u64 x150)] ∧ Sl (kSl api_Label.k) S1 w1 v210 y205.1 ∧ Ow (kI .u8) 5 S1 w.heap.size w1 v212 y205.2.1 ∧ Ob 61 (index_Index.fs x151) S1 w1 v65 cs146 fp144 ∧ (∀ b, Blk v212 b → ¬ b ∈ fp144)) ?_ ?_
            · obtain ⟨o219, h222, h218⟩ := bnd_some h218
              refine cw_seq' (fun ρ w1 => ∃ S1, Cx No S w S1 w1 ∧ Has ρ [(5, .int .u64 y18.1), (7, v65), (11, .int .u64 y179.1), (12, v210), (13, v212), (53, .int .u64 y29.1), (54, .int .u64 x150), (84, .bool o219)] ∧ Sl (kSl api_Label.k) S1 w1 v210 y205.1 ∧ Ow (kI .u8) 5 S1 w.heap.size w1 v212 y205.2.1 ∧ Ob 61 (index_Index.fs x151) S1 w1 v65 cs146 fp144 ∧ (∀ b, Blk v212 b → ¬ b ∈ fp144)) ?_ ?_
              · refine cw_region (sv (mvv (.int .i64 y205.2.2) rfl) (sv (rv_neq rfl rfl) (sv (mvv (.bool (y205.2.2 != (0 : Int))) rfl) ?_)))
                rcases bif_some h222 with ⟨b223, h222⟩ | ⟨b223, h222⟩
                · refine W.n (gn rfl rfl rfl b223) (W.n (gn rfl rfl rfl b223) (W.n (gn rfl rfl rfl b223) (sv (ptk (.bool true) rfl b223 rfl) (sv (mvv (.bool true) rfl) (W.n (gn rfl rfl rfl rfl) (W.n (gn rfl rfl rfl rfl) (W.n (gn rfl rfl rfl rfl) (W.n (gn rfl rfl rfl rfl) (sv (ptk (.bool true) rfl rfl rfl) (W.e ?_))))))))))
                  obtain rfl := osi h222
                  exact ⟨_, C, ⟨rfl, rfl, rfl, rfl, rfl, rfl, rfl, rfl, trivial⟩, h211, h213, h143, p214⟩
                · refine W.v (gy rfl rfl rfl b223) (mvv (.int .u64 y179.1) rfl) (W.v (gy rfl rfl rfl b223) (mvv (.int .u64 y18.1) rfl) (W.v (gy rfl rfl rfl b223) (rv_geq rfl rfl) (sv (pfk (.bool (decide (y18.1 ≤ y179.1))) rfl b223 rfl) (sv (mvv (.bool (decide (y18.1 ≤ y179.1))) rfl) ?_))))
                  rcases bif_some h222 with ⟨b224, h222⟩ | ⟨b224, h222⟩
                  · refine W.n (gn rfl rfl rfl b224) (W.n (gn rfl rfl rfl b224) (W.n (gn rfl rfl rfl b224) (W.n (gn rfl rfl rfl b224) (sv (ptk (.bool true) rfl b224 rfl) (W.e ?_)))))
                    obtain rfl := osi h222
                    exact ⟨_, C, ⟨rfl, rfl, rfl, rfl, rfl, rfl, rfl, rfl, trivial⟩, h211, h213, h143, p214⟩
                  · refine W.v (gy rfl rfl rfl b224) (mvv (.int .u64 y179.1) rfl) ?_
                    obtain ⟨y225, h226, h222⟩ := pur_some h222
                    refine W.v (gy rfl rfl rfl b224) (rv_conv Tryz.underlying74 Tryz.underlying3 rfl h226) (W.v (gy rfl rfl rfl b224) (mvv (.int .i64 x149) rfl) (W.v (gy rfl rfl rfl b224) (rv_leq rfl rfl) (sv (pfk (.bool (decide (y225 ≤ x149))) rfl b224 rfl) (W.e ?_))))
                    obtain rfl := osi h222
                    exact ⟨_, C, ⟨rfl, rfl, rfl, rfl, rfl, rfl, rfl, rfl, trivial⟩, h211, h213, h143, p214⟩
              · rintro ρ w228 ⟨S227, C, h230, h211, h213, h143, p229⟩
                refine h230.cw fun ρ => ?_
                clear h230
                rcases bif_some h218 with ⟨b231, h218⟩ | ⟨b231, h218⟩
                · refine cw_t rfl b231 ?_
                  refine cw_seq fun K232 k233 => ?_
                  refine cw_region (sv (asv (.pointer none) rfl) (sv (asv (.int .i64 6) rfl) (W.e (k233 _ _ (cw_ret ?_)))))
                  obtain rfl := osi h218
                  replace h162 := h162.2 _ rfl
                  obtain rfl := osi h162
                  replace h153 := h153.2 _ rfl
                  obtain rfl := osi h153
                  have h234 := congrArg some h152
                  obtain rfl := osi h234
                  replace h := h.2 _ rfl
                  obtain rfl := osi h
                  exact ⟨_, rfl, _, _, _, _, rfl, C, ⟨rfl, rfl, rfl⟩, (fun b hb => by cases hb)⟩
                · refine cw_f rfl b231 (cw_skip ?_)
                  obtain rfl := osi h218
                  exact ⟨_, rfl, ⟨_, C, ⟨rfl, rfl, rfl, rfl, rfl, rfl, rfl, trivial⟩, h211, h213, h143, p229⟩⟩
            · rintro ρ w236 ⟨o215n, rfl, ⟨S235, C, h238, h211, h213, h143, p237⟩⟩
              replace h162 := h162.1 _ rfl
              refine h238.cw fun ρ => ?_
              clear h238
              refine cw_seq fun K239 k240 => ?_
              refine cw_region (sv (mvv v210 rfl) ?_)
              obtain ⟨y241, h242, h162⟩ := bnd_some h162
              refine sc (dc_call (vs := [v210]) can43 rfl ?_)
              refine (index_key_w C.sb h211 h242).mono ?_
              rintro _ w243 ⟨S244, v246, rfl, c245, h247⟩
              refine ⟨_, rfl, ?_⟩
              replace h143 := h143.cx c245
              replace h211 := h211.cx c245
              replace h213 := h213.cx c245
              replace C := C.trans c245
              refine sv (mvv (.tuple (List.toArray [v246, .string y241.2.1, .int .i64 y241.2.2])) rfl) (sv (rv_extract rfl rfl) (sv (rv_extract rfl rfl) (sv (rv_extract rfl rfl) (sv (asv v246 rfl) (sv (asv (.string y241.2.1) rfl) (sv (asv (.int .i64 y241.2.2) rfl) (W.e (k240 _ _ ?_))))))))
              refine cw_seq fun K248 k249 => ?_
              refine cw_seq fun K250 k251 => ?_
              refine cw_region (sv (mvv v65 rfl) (sv (rv_nilcheck rfl h143.ptr) (sv (rv_fieldAddr (b := pb v65) (o := 0) st61 rfl h143.ptr) ?_)))
              obtain ⟨c252, h253⟩ := h143.at (i := 1) rfl
              refine sr (rw_ofield (i := 1) (c := c252) h143 ag57 h253 rfl) (sv (mvv (.string y241.2.1) rfl) ?_)
              obtain ⟨_, h254, h255⟩ := Ob.rep h143 (i := 1) rfl h253
              obtain ⟨v256, h257, h258⟩ := rep_look (P := Tryz.prog) (tm := 57) (te := 3) (y0 := (0 : Int)) h254 Tryz.underlying57 zv3 (sl_sc.2 rfl) y241.2.1
              obtain rfl := sl_sc.1 h257
              refine sr ((h258 (Sm.refl _ _) rfl rfl).2) (sv (mvv (.tuple (List.toArray [.int .i64 ((mget y241.2.1 x151.ids).getD (0 : Int)), .bool (mget y241.2.1 x151.ids).isSome])) rfl) (sv (rv_extract rfl rfl) (sv (rv_extract rfl rfl) (sv (asv (.int .i64 ((mget y241.2.1 x151.ids).getD (0 : Int))) rfl) (sv (asv (.bool (mget y241.2.1 x151.ids).isSome) rfl) (W.e (k251 _ _ ?_)))))))
              refine cw_seq fun K259 k260 => ?_
              refine cw_region (sv (mvv (.bool (mget y241.2.1 x151.ids).isSome) rfl) (W.e (k260 _ _ ?_)))
              rcases bif_some h162 with ⟨b261, h162⟩ | ⟨b261, h162⟩
              · refine cw_t rfl b261 ?_
                refine cw_seq fun K262 k263 => ?_
                refine cw_region (sv (asv (.pointer none) rfl) (sv (asv (.int .i64 6) rfl) (W.e (k263 _ _ (cw_ret ?_)))))
                obtain rfl := osi h162
                replace h153 := h153.2 _ rfl
                obtain rfl := osi h153
                have h264 := congrArg some h152
                obtain rfl := osi h264
                replace h := h.2 _ rfl
                obtain rfl := osi h
                exact ⟨_, rfl, _, _, _, _, rfl, C, ⟨rfl, rfl, rfl⟩, (fun b hb => by cases hb)⟩
              · refine cw_f rfl b261 (cw_skip (k249 _ _ ?_))
                refine cw_seq fun K265 k266 => ?_
                refine cw_region (sv (mvv v65 rfl) (sv (mvv (.int .u64 y179.1) rfl) ?_))
                obtain ⟨y267, h268, h162⟩ := pur_some h162
                refine sv (rv_conv Tryz.underlying74 Tryz.underlying3 rfl h268) (sv (mvv v210 rfl) (sv (mvv (.string y241.2.1) rfl) ?_))
                obtain ⟨y269, h270, h162⟩ := bnd_some h162
                refine sc (dc_call (vs := [v65, .int .i64 y267, v210, .string y241.2.1]) can44 rfl ?_)
                refine (index_Index_put_w C.sb h143 h211 h270).mono ?_
                rintro _ w271 ⟨S272, cs274, fp275, rfl, c273, h276, h277⟩
                refine ⟨_, rfl, ?_⟩
                have h278 : ∀ b, b ∈ fp144 → ¬ S244 b := fun b hb => (h143.lt b hb).2
                have p279 := ap_grow (ap_symm p237) h277 (fun b hb => (h213.lt b hb).2)
                have h280 : ∀ b, b ∈ fp275 → w.heap.size ≤ b := fun b hb => (h277 b hb).elim (h145 b) (fun hl => Nat.le_trans C.up.size hl)
                replace h213 := h213.cf c273 h278 p237
                replace C := C.ofc c273 (fun b hb => .inr (h145 b hb))
                refine W.e (k266 _ _ (cw_region (sv (mvv (.int .u64 y179.1) rfl) ?_)))
                obtain ⟨y281, h282, h162⟩ := pur_some h162
                refine sv (rv_conv Tryz.underlying74 Tryz.underlying3 rfl h282) (sv (mvv v212 rfl) (sv (asv (.int .i64 y281) rfl) (sv (asv v212 rfl) (W.e ?_))))
                obtain rfl := osi h162
                exact ⟨_, rfl, ⟨_, _, _, _, C, ⟨rfl, rfl, rfl, rfl, rfl, rfl, trivial⟩, h213, h276, h280, (ap_symm p279)⟩⟩
          · rintro ρ w284 ⟨o159n, rfl, ⟨S283, v285, fp288, cs290, C, h292, h286, h287, h289, p291⟩⟩
            replace h153 := h153.1 _ rfl
            refine h292.cw fun ρ => ?_
            clear h292
            refine cw_region ?_
            obtain ⟨y293, h294, h153⟩ := pur_some h153
            refine sv (rv_add rfl rfl h294) (sv (mvv (.int .u64 y293) rfl) (W.e ?_))
            obtain rfl := osi h153
            replace h287 := h287.or (ap_symm p291)
            replace C := C.sealO h286
            replace h286 := h286.sealed
            exact ⟨_, rfl, ⟨_, _, _, _, C, ⟨rfl, rfl, rfl, rfl, rfl, rfl, trivial⟩, h286, h287, h289⟩⟩
        · refine cw_f rfl b158 (cw_exit ?_)
          obtain rfl := osi h153
          have h295 := congrArg some h152
          obtain rfl := osi h295
          exact ⟨_, rfl, ⟨_, _, _, _, C, ⟨rfl, rfl, trivial⟩, h142, h143, h145⟩⟩
      · rintro ρ w297 ⟨o132n, rfl, ⟨S296, v298, fp301, cs303, C, h304, h299, h300, h302⟩⟩
        replace h := h.1 _ rfl
        refine h304.cw fun ρ => ?_
        clear h304
        refine cw_seq fun K305 k306 => ?_
        refine cw_seq fun K307 k308 => ?_
        refine cw_region (sv (mvv v298 rfl) (sv (rv_lenS el36 h299 rfl) (sv (rv_gtr rfl rfl) (W.e (k308 _ _ ?_)))))
        rcases bif_some h with ⟨b309, h⟩ | ⟨b309, h⟩
        · refine cw_t rfl b309 ?_
          refine cw_seq fun K310 k311 => ?_
          refine cw_region (sv (asv (.pointer none) rfl) (sv (asv (.int .i64 6) rfl) (W.e (k311 _ _ (cw_ret ?_)))))
          obtain rfl := osi h
          exact ⟨_, rfl, _, _, _, _, rfl, C, ⟨rfl, rfl, rfl⟩, (fun b hb => by cases hb)⟩
        · refine cw_f rfl b309 (cw_skip (k306 _ _ ?_))
          refine cw_seq fun K312 k313 => ?_
          refine cw_region (sv (mvv v65 rfl) (sv (asv v65 rfl) (sv (asv (.int .i64 0) rfl) (W.e (k313 _ _ (cw_ret ?_))))))
          obtain rfl := osi h
          exact ⟨_, rfl, _, _, _, _, rfl, C, h300, h302⟩

noncomputable def marigraphref01_Put.b2 (x28 : Int) (x29 : List Int) : Option ((Int × (List Int)) ⊕ (Int × (List Int))) :=
  (bif (decide ((127 : Int) < x28)) then (pur (Int.tmod x28 (128 : Int)) fun y39 => (pur (IntKind.u64.wrap (y39 + (128 : Int))) fun y41 => (pur (IntKind.u8.wrap y41) fun y43 => ((app_ 1 x29 ([y43] : List Int)).bind fun y51 => (pur (IntKind.u64.wrap (Int.tdiv x28 (128 : Int))) fun y59 => some (.inl (y59, y51))))))) else some (.inr (x28, x29)))
noncomputable def marigraphref01_Put (a0 : List Int) (a1 : Int) : Option (List Int) :=
  ((app_ 1 ([] : List Int) a0).bind fun y10 => ((iter (fun s : Int × (List Int) => marigraphref01_Put.b2 s.1 s.2) (a1, y10)).bind fun o18 => (pur (IntKind.u8.wrap o18.1) fun y69 => ((app_ 1 o18.2 ([y69] : List Int)).bind fun y77 => some y77))))
theorem marigraphref01_Put_w {S : Nat → Prop} {w : World} {a0 : List Int} {a1 : Int} {v0 : Value} {r : (List Int)} (hS : Sb S w) (h0 : Sl (kSl (kI .u8)) S w v0 a0) (h : marigraphref01_Put a0 a1 = some r) :
    Calls Tryz.prog 36 (List.toArray [v0, .int .u64 a1]) w fun e w1 => ∃ S1 u0, e = .returned (u0) ∧ Cx No S w S1 w1 ∧ Ow (kI .u8) 5 S1 w.heap.size w1 u0 r := by
  refine enter Tryz.func36 rfl (by kernel_rfl) rfl ?_
  have C := Cx.refl (F := No) hS
  unfold marigraphref01_Put at h
  refine cw_seq fun K1 k2 => ?_
  refine cw_region (sv (asv (.slice none 0 0) rfl) (W.e (k2 _ _ ?_)))
  refine cw_seq fun K3 k4 => ?_
  refine cw_region ?_
  refine sc (dc_lit (vs := []) (xs := ([] : List Int)) (base := w.heap.size) el36 rfl rfl (.nil) (Nat.le_of_ble_eq_true rfl) C.up.size C.sb fun v5 w6 h7 h8 u9 => ?_)
  replace h0 := h0.nw u9
  replace C := C.new u9
  refine sv (mvv v0 rfl) ?_
  obtain ⟨y10, h11, h⟩ := bnd_some h
  have h17 := h7
  refine sc (dc_append el36 (by decide) h17 (h0.src fun _ h => h) rfl rfl h11 C.up.size C.sb fun v12 w13 h14 u15 h16 => ?_)
  replace C := C.ow h17 u15
  refine sv (asv v12 rfl) (W.e (k4 _ _ ?_))
  obtain ⟨o18, h21, h⟩ := bnd_some h
  refine cw_seq' (fun ρ w1 => ∃ S1 v64, Cx No S w S1 w1 ∧ Has ρ [(1, .int .u64 o18.1), (5, v64)] ∧ Ow (kI .u8) 5 S1 w.heap.size w1 v64 o18.2) ?_ ?_
  · refine cw_block ?_
    refine cw_iter h21 (fun s ρ w1 => ∃ S1 v25, Cx No S w S1 w1 ∧ Has ρ [(1, .int .u64 s.1), (5, v25)] ∧ Ow (kI .u8) 5 S1 w.heap.size w1 v25 s.2) ⟨_, _, C, ⟨rfl, rfl, trivial⟩, h14⟩ ?_
    rintro ⟨x28, x29⟩ q22 ρ w24 ⟨S23, v25, C, h27, h26⟩ h31 h30
    refine h27.cw fun ρ => ?_
    clear h27
    replace h31 : marigraphref01_Put.b2 x28 x29 = some q22 := h31
    unfold marigraphref01_Put.b2 at h31
    refine cw_seq fun K32 k33 => ?_
    refine cw_seq fun K34 k35 => ?_
    refine cw_region (sv (mvv (.int .u64 x28) rfl) (sv (rv_gtr rfl rfl) (W.e (k35 _ _ ?_))))
    rcases bif_some h31 with ⟨b36, h31⟩ | ⟨b36, h31⟩
    · refine cw_t rfl b36 (cw_skip (k33 _ _ (cw_block ?_)))
      refine cw_seq fun K37 k38 => ?_
      refine cw_region (sv (mvv v25 rfl) (sv (mvv (.int .u64 x28) rfl) ?_))
      obtain ⟨y39, h40, h31⟩ := pur_some h31
      refine sv (rv_rem rfl rfl (by decide) h40) ?_
      obtain ⟨y41, h42, h31⟩ := pur_some h31
      refine sv (rv_add rfl rfl h42) ?_
      obtain ⟨y43, h44, h31⟩ := pur_some h31
      refine sv (rv_conv Tryz.underlying74 Tryz.underlying5 rfl h44) ?_
      refine sc (dc_lit (vs := [.int .u8 y43]) (xs := ([y43] : List Int)) (base := w.heap.size) el36 rfl rfl (.cons (sl_sc.2 rfl) (.nil)) (Nat.le_of_ble_eq_true rfl) C.up.size C.sb fun v45 w46 h47 h48 u49 => ?_)
      have p50 := ap_fresh h48 (fun b hb => (h26.lt b hb).2)
      replace h26 := h26.nw u49
      replace C := C.new u49
      obtain ⟨y51, h52, h31⟩ := bnd_some h31
      have h58 := h26
      refine sc (dc_append el36 (by decide) h58 h47.src rfl rfl h52 C.up.size C.sb fun v53 w54 h55 u56 h57 => ?_)
      replace C := C.ow h58 u56
      refine sv (asv v53 rfl) (W.e (k38 _ _ (cw_region (sv (mvv (.int .u64 x28) rfl) ?_))))
      obtain ⟨y59, h60, h31⟩ := pur_some h31
      refine sv (rv_quo rfl rfl (by decide) h60) (sv (asv (.int .u64 y59) rfl) (W.e ?_))
      obtain rfl := osi h31
      exact ⟨_, rfl, ⟨_, _, C, ⟨rfl, rfl, trivial⟩, h55⟩⟩
    · refine cw_f rfl b36 (cw_exit ?_)
      obtain rfl := osi h31
      have h61 := congrArg some h30
      obtain rfl := osi h61
      exact ⟨_, _, C, ⟨rfl, rfl, trivial⟩, h26⟩
  · rintro ρ w63 ⟨S62, v64, C, h66, h65⟩
    refine h66.cw fun ρ => ?_
    clear h66
    refine cw_seq fun K67 k68 => ?_
    refine cw_region (sv (mvv v64 rfl) (sv (mvv (.int .u64 o18.1) rfl) ?_))
    obtain ⟨y69, h70, h⟩ := pur_some h
    refine sv (rv_conv Tryz.underlying74 Tryz.underlying5 rfl h70) ?_
    refine sc (dc_lit (vs := [.int .u8 y69]) (xs := ([y69] : List Int)) (base := w.heap.size) el36 rfl rfl (.cons (sl_sc.2 rfl) (.nil)) (Nat.le_of_ble_eq_true rfl) C.up.size C.sb fun v71 w72 h73 h74 u75 => ?_)
    have p76 := ap_fresh h74 (fun b hb => (h65.lt b hb).2)
    replace h65 := h65.nw u75
    replace C := C.new u75
    obtain ⟨y77, h78, h⟩ := bnd_some h
    have h84 := h65
    refine sc (dc_append el36 (by decide) h84 h73.src rfl rfl h78 C.up.size C.sb fun v79 w80 h81 u82 h83 => ?_)
    replace C := C.ow h84 u82
    refine sv (asv v79 rfl) (W.e (k68 _ _ (cw_ret ?_)))
    obtain rfl := osi h
    exact ⟨_, rfl, _, _, rfl, C, h81⟩

noncomputable def marigraphref01_Taker_fail (a0 : marigraphref01_Taker) : Option marigraphref01_Taker :=
  (pur ({ a0 with Bad := true } : marigraphref01_Taker) fun y3 => (pur ({ y3 with B := ([] : List Int) } : marigraphref01_Taker) fun y12 => some y12))
theorem marigraphref01_Taker_fail_w {S : Nat → Prop} {w : World} {a0 : marigraphref01_Taker} {v0 : Value} {cs0 : List Value} {fp0 : List Nat} {r : marigraphref01_Taker} (hS : Sb S w) (h0 : Ob 92 (marigraphref01_Taker.fs a0) S w v0 cs0 fp0) (h : marigraphref01_Taker_fail a0 = some r) :
    Calls Tryz.prog 72 (List.toArray [v0]) w fun e w1 => ∃ S1 us_0 up_0, e = .returned (.tuple (List.toArray [])) ∧ Cx (fun b => b ∈ fp0) S w S1 w1 ∧ Ob 92 (marigraphref01_Taker.fs r) S1 w1 v0 us_0 up_0 ∧ (∀ b, b ∈ up_0 → b ∈ fp0 ∨ w.heap.size ≤ b) := by
  refine enter Tryz.func72 rfl (by kernel_rfl) rfl ?_
  have C := Cx.refl (F := (fun b => b ∈ fp0)) hS
  unfold marigraphref01_Taker_fail at h
  have hs0 : ∀ b, b ∈ fp0 → b ∈ fp0 ∨ w.heap.size ≤ b := fun b hb => .inl hb
  have hl0 : ∀ b ∈ fp0, b < w.heap.size := fun b hb => (h0.lt b hb).1
  refine cw_seq fun K1 k2 => ?_
  refine cw_region (sv (mvv v0 rfl) (sv (rv_nilcheck rfl h0.ptr) (sv (rv_fieldAddr (b := pb v0) (o := 0) st92 rfl h0.ptr) ?_)))
  obtain ⟨y3, h4, h⟩ := pur_some h
  have h9 : ∀ b, b ∈ fp0 → ¬ S b := fun b hb => (h0.lt b hb).2
  refine sc (dc_ofield (i := 1) (k := kB) (h1 := rfl) (a' := true) h0 rfl ag4 rfl rfl (rep_sc.2 rfl) fun w5 h6 u7 => ?_)
  replace h6 : Ob 92 (marigraphref01_Taker.fs ({ a0 with Bad := true } : marigraphref01_Taker)) S w5 v0 (cs0.set 1 (.bool true)) fp0 := h6
  rw [h4] at h6
  obtain ⟨cs10, h11⟩ : ∃ cs, cs = cs0.set 1 (.bool true) := ⟨_, rfl⟩
  rw [← h11] at h6
  have c8 := Cx.ofUp C.sb u7
  replace C := C.ofc c8 hs0
  refine W.e (k2 _ _ (cw_region (sv (mvv v0 rfl) (sv (rv_nilcheck rfl h6.ptr) (sv (rv_fieldAddr (b := pb v0) (o := 0) st92 rfl h6.ptr) ?_)))))
  obtain ⟨y12, h13, h⟩ := pur_some h
  have h18 : ∀ b, b ∈ fp0 → ¬ S b := fun b hb => (h6.lt b hb).2
  refine sc (dc_ofield (i := 0) (k := (kSl (kI .u8))) (h1 := rfl) (a' := ([] : List Int)) h6 rfl ag36 rfl rfl (rep_sl.2 ⟨_, rfl, (sl_nil _ _ _)⟩) fun w14 h15 u16 => ?_)
  replace h15 : Ob 92 (marigraphref01_Taker.fs ({ y3 with B := ([] : List Int) } : marigraphref01_Taker)) S w14 v0 (cs10.set 0 (.slice none 0 0)) fp0 := h15
  rw [h13] at h15
  obtain ⟨cs19, h20⟩ : ∃ cs, cs = cs10.set 0 (.slice none 0 0) := ⟨_, rfl⟩
  rw [← h20] at h15
  have c17 := Cx.ofUp C.sb u16
  replace C := C.ofc c17 hs0
  refine W.e ?_
  obtain rfl := osi h
  exact ⟨_, rfl, _, _, _, rfl, C, h15, hs0⟩

noncomputable def marigraphref01_Taker_Num.b2 (a0 : marigraphref01_Taker) (x17 : Int) (x18 : Int) (x19 : Int) : Option ((Int × Int × Int) ⊕ ((Unit) ⊕ (Int × marigraphref01_Taker))) :=
  (((bif (decide (x19 < (a0.B.length : Int))) then some (decide (x19 < (10 : Int))) else some false).bind fun o26 => (bif o26 then some (.inl ()) else some (.inr (.inr (.inl ()))))).bind (Sum.elim (fun o22n => ((at_ a0.B x19).bind fun y49 => (pur (Int.tmod y49 (128 : Int)) fun y51 => (pur (IntKind.u64.wrap y51) fun y53 => (pur (IntKind.u64.wrap (y53 * x18)) fun y55 => (pur (IntKind.u64.wrap (x17 + y55)) fun y57 => (pur (IntKind.u64.wrap (x18 * (128 : Int))) fun y61 => ((at_ a0.B x19).bind fun y68 => (bif (decide (y68 < (128 : Int))) then (((pur (IntKind.i64.wrap (x19 + (1 : Int))) fun y9_8_1 => ((upto_ a0.B y9_8_1).bind fun y9_9_1 => ((marigraphref01_Put ([] : List Int) y57).bind fun y9_1_1 => some (!strEq (strOf y9_1_1) (strOf y9_9_1))))).bind fun o75 => (bif o75 then some (.inr (.inr (.inl ()))) else some (.inl ()))).bind (Sum.elim (fun o71n => (pur (IntKind.i64.wrap (x19 + (1 : Int))) fun y121 => ((from_ a0.B y121).bind fun y123 => (pur ({ a0 with B := y123 } : marigraphref01_Taker) fun y128 => some (.inr (.inr (y57, y128))))))) (fun q => some q))) else (pur (IntKind.i64.wrap (x19 + (1 : Int))) fun y140 => some (.inl (y57, y61, y140)))))))))))) (fun q => some q)))
noncomputable def marigraphref01_Taker_Num (a0 : marigraphref01_Taker) : Option (Int × marigraphref01_Taker) :=
  ((iter (fun s : Int × Int × Int => marigraphref01_Taker_Num.b2 a0 s.1 s.2.1 s.2.2) ((0 : Int), (1 : Int), (0 : Int))).bind (Sum.elim (fun o7n => ((marigraphref01_Taker_fail a0).bind fun y147 => some ((0 : Int), y147))) (fun q => some q)))
theorem marigraphref01_Taker_Num_w {S : Nat → Prop} {w : World} {a0 : marigraphref01_Taker} {v0 : Value} {cs0 : List Value} {fp0 : List Nat} {r : Int × marigraphref01_Taker} (hS : Sb S w) (h0 : Ob 92 (marigraphref01_Taker.fs a0) S w v0 cs0 fp0) (h : marigraphref01_Taker_Num a0 = some r) :
    Calls Tryz.prog 45 (List.toArray [v0]) w fun e w1 => ∃ S1 us_0 up_0, e = .returned (.int .u64 r.1) ∧ Cx (fun b => b ∈ fp0) S w S1 w1 ∧ Ob 92 (marigraphref01_Taker.fs r.2) S1 w1 v0 us_0 up_0 ∧ (∀ b, b ∈ up_0 → b ∈ fp0 ∨ w.heap.size ≤ b) := by
  refine enter Tryz.func45 rfl (by kernel_rfl) rfl ?_
  have C := Cx.refl (F := (fun b => b ∈ fp0)) hS
  unfold marigraphref01_Taker_Num at h
  have hs0 : ∀ b, b ∈ fp0 → b ∈ fp0 ∨ w.heap.size ≤ b := fun b hb => .inl hb
  have hl0 : ∀ b ∈ fp0, b < w.heap.size := fun b hb => (h0.lt b hb).1
  refine cw_seq fun K1 k2 => ?_
  refine cw_region (sv (asv (.int .u64 0) rfl) (W.e (k2 _ _ ?_)))
  refine cw_seq fun K3 k4 => ?_
  refine cw_region (sv (asv (.int .u64 0) rfl) (W.e (k4 _ _ ?_)))
  refine cw_seq fun K5 k6 => ?_
  refine cw_region (sv (asv (.int .u64 1) rfl) (W.e (k6 _ _ ?_)))
  obtain ⟨o7, h10, h⟩ := bnds_some h
  refine cw_seq' (fun ρ w1 => ∃ o7n, o7 = (.inl o7n) ∧ ∃ S1, Cx (fun b => b ∈ fp0) S w S1 w1 ∧ Has ρ [(0, v0)] ∧ Ob 92 (marigraphref01_Taker.fs a0) S1 w1 v0 cs0 fp0) ?_ ?_
  · refine cw_seq fun K11 k12 => ?_
    refine cw_region (sv (asv (.int .i64 0) rfl) (W.e (k12 _ _ (cw_block ?_))))
    refine cw_iter h10 (fun s ρ w1 => ∃ S1, Cx (fun b => b ∈ fp0) S w S1 w1 ∧ Has ρ [(0, v0), (3, .int .u64 s.1), (4, .int .u64 s.2.1), (5, .int .i64 s.2.2)] ∧ Ob 92 (marigraphref01_Taker.fs a0) S1 w1 v0 cs0 fp0) ⟨_, C, ⟨rfl, rfl, rfl, rfl, trivial⟩, h0⟩ ?_
    rintro ⟨x17, x18, x19⟩ q13 ρ w15 ⟨S14, C, h16, h0⟩ h21 h20
    refine h16.cw fun ρ => ?_
    clear h16
    replace h21 : marigraphref01_Taker_Num.b2 a0 x17 x18 x19 = some q13 := h21
    unfold marigraphref01_Taker_Num.b2 at h21
    obtain ⟨o22, h25, h21⟩ := bnds_some h21
    refine cw_seq' (fun ρ w1 => ∃ o22n, o22 = (.inl o22n) ∧ ∃ S1, Cx (fun b => b ∈ fp0) S w S1 w1 ∧ Has ρ [(0, v0), (3, .int .u64 x17), (4, .int .u64 x18), (5, .int .i64 x19)] ∧ Ob 92 (marigraphref01_Taker.fs a0) S1 w1 v0 cs0 fp0) ?_ ?_
    · obtain ⟨o26, h29, h25⟩ := bnd_some h25
      refine cw_seq' (fun ρ w1 => ∃ S1, Cx (fun b => b ∈ fp0) S w S1 w1 ∧ Has ρ [(0, v0), (3, .int .u64 x17), (4, .int .u64 x18), (5, .int .i64 x19), (16, .bool o26)] ∧ Ob 92 (marigraphref01_Taker.fs a0) S1 w1 v0 cs0 fp0) ?_ ?_
      · refine cw_region (sv (mvv (.int .i64 x19) rfl) (sv (mvv v0 rfl) (sv (rv_nilcheck rfl h0.ptr) (sv (rv_fieldAddr (b := pb v0) (o := 0) st92 rfl h0.ptr) ?_))))
        obtain ⟨c30, h31, h32⟩ := h0.sl (i := 0) rfl
        refine sr (rw_ofield (i := 0) (c := c30) h0 ag36 h31 rfl) (sv (rv_lenS el36 h32 rfl) (sv (rv_lss rfl rfl) (sv (mvv (.bool (decide (x19 < (a0.B.length : Int)))) rfl) ?_)))
        rcases bif_some h29 with ⟨b33, h29⟩ | ⟨b33, h29⟩
        · refine W.v (gy rfl rfl rfl b33) (mvv (.int .i64 x19) rfl) (W.v (gy rfl rfl rfl b33) (rv_lss rfl rfl) (sv (ptk (.bool (decide (x19 < (10 : Int)))) rfl b33 rfl) (W.e ?_)))
          obtain rfl := osi h29
          exact ⟨_, C, ⟨rfl, rfl, rfl, rfl, rfl, trivial⟩, h0⟩
        · refine W.n (gn rfl rfl rfl b33) (W.n (gn rfl rfl rfl b33) (sv (pfk (.bool false) rfl b33 rfl) (W.e ?_)))
          obtain rfl := osi h29
          exact ⟨_, C, ⟨rfl, rfl, rfl, rfl, rfl, trivial⟩, h0⟩
      · rintro ρ w35 ⟨S34, C, h36, h0⟩
        refine h36.cw fun ρ => ?_
        clear h36
        rcases bif_some h25 with ⟨b37, h25⟩ | ⟨b37, h25⟩
        · refine cw_t rfl b37 (cw_skip ?_)
          obtain rfl := osi h25
          exact ⟨_, rfl, ⟨_, C, ⟨rfl, rfl, rfl, rfl, trivial⟩, h0⟩⟩
        · refine cw_f rfl b37 (cw_exit ?_)
          obtain rfl := osi h25
          replace h21 := h21.2 _ rfl
          obtain rfl := osi h21
          have h38 := congrArg some h20
          obtain rfl := osi h38
          exact ⟨_, rfl, ⟨_, C, ⟨rfl, trivial⟩, h0⟩⟩
    · rintro ρ w40 ⟨o22n, rfl, ⟨S39, C, h41, h0⟩⟩
      replace h21 := h21.1 _ rfl
      refine h41.cw fun ρ => ?_
      clear h41
      refine cw_seq fun K42 k43 => ?_
      refine cw_block ?_
      refine cw_seq fun K44 k45 => ?_
      refine cw_region (sv (mvv (.int .u64 x17) rfl) (sv (mvv v0 rfl) (sv (rv_nilcheck rfl h0.ptr) (sv (rv_fieldAddr (b := pb v0) (o := 0) st92 rfl h0.ptr) ?_))))
      obtain ⟨c46, h47, h48⟩ := h0.sl (i := 0) rfl
      refine sr (rw_ofield (i := 0) (c := c46) h0 ag36 h47 rfl) (sv (mvv (.int .i64 x19) rfl) ?_)
      obtain ⟨y49, h50, h21⟩ := bnd_some h21
      refine sv (rv_index el36 h48 rfl rfl h50) (sr (rw_loadC el36 h48 h50 rfl _ (Sm.refl _ _)) ?_)
      obtain ⟨y51, h52, h21⟩ := pur_some h21
      refine sv (rv_rem rfl rfl (by decide) h52) ?_
      obtain ⟨y53, h54, h21⟩ := pur_some h21
      refine sv (rv_conv Tryz.underlying5 Tryz.underlying74 rfl h54) (sv (mvv (.int .u64 x18) rfl) ?_)
      obtain ⟨y55, h56, h21⟩ := pur_some h21
      refine sv (rv_mul rfl rfl h56) ?_
      obtain ⟨y57, h58, h21⟩ := pur_some h21
      refine sv (rv_add rfl rfl h58) (sv (asv (.int .u64 y57) rfl) (W.e (k45 _ _ ?_)))
      refine cw_seq fun K59 k60 => ?_
      refine cw_region (sv (mvv (.int .u64 x18) rfl) ?_)
      obtain ⟨y61, h62, h21⟩ := pur_some h21
      refine sv (rv_mul rfl rfl h62) (sv (asv (.int .u64 y61) rfl) (W.e (k60 _ _ ?_)))
      refine cw_seq fun K63 k64 => ?_
      refine cw_region (sv (mvv v0 rfl) (sv (rv_nilcheck rfl h0.ptr) (sv (rv_fieldAddr (b := pb v0) (o := 0) st92 rfl h0.ptr) ?_)))
      obtain ⟨c65, h66, h67⟩ := h0.sl (i := 0) rfl
      refine sr (rw_ofield (i := 0) (c := c65) h0 ag36 h66 rfl) (sv (mvv (.int .i64 x19) rfl) ?_)
      obtain ⟨y68, h69, h21⟩ := bnd_some h21
      refine sv (rv_index el36 h67 rfl rfl h69) (sr (rw_loadC el36 h67 h69 rfl _ (Sm.refl _ _)) (sv (rv_lss rfl rfl) (W.e (k64 _ _ ?_))))
      rcases bif_some h21 with ⟨b70, h21⟩ | ⟨b70, h21⟩
      · refine cw_t rfl b70 ?_
        obtain ⟨o71, h74, h21⟩ := bnds_some h21
        refine cw_seq' (fun ρ w1 => ∃ o71n, o71 = (.inl o71n) ∧ ∃ S1, Cx (fun b => b ∈ fp0) S w S1 w1 ∧ Has ρ [(0, v0), (3, .int .u64 y57), (5, .int .i64 x19)] ∧ Ob 92 (marigraphref01_Taker.fs a0) S1 w1 v0 cs0 fp0) ?_ ?_
        · obtain ⟨o75, h78, h74⟩ := bnd_some h74
          refine cw_seq' (fun ρ w1 => ∃ S1, Cx (fun b => b ∈ fp0) S w S1 w1 ∧ Has ρ [(0, v0), (3, .int .u64 y57), (5, .int .i64 x19), (53, .bool o75)] ∧ Ob 92 (marigraphref01_Taker.fs a0) S1 w1 v0 cs0 fp0) ?_ ?_
          · refine cw_drawU (.one 0 true (.one 3 true (.one 4 true (.one 5 true (.one 6 true (.one 7 true (.one 8 true (.one 9 true (.two 1 10 (.two 2 10 (.one 10 false (.one 11 true .done)) (.one 2 false (.one 11 true .done))) (.one 1 false (.one 2 false (.one 11 true .done)))))))))))) [(6, [10])] [(1, [10]), (2, [10]), (10, [10])] (fun c => bif Nat.beq c 10 then (One (pb v0)) else No) fol (by kernel_rfl) fun w79 u80 => ?_
            replace h0 := h0.nw u80
            replace C := C.new u80
            have h0d := h0
            have m81 := Sm.refl (One (pb v0)) w79
            refine mtv rfl rfl (mvv (.int .u64 y57) rfl) (mtv rfl rfl (mvv v0 rfl) (mtv rfl rfl (rv_nilcheck rfl h0.ptr) (mtv rfl rfl (rv_fieldAddr (b := pb v0) (o := 0) st92 rfl h0.ptr) ?_)))
            obtain ⟨c82, h83, h84⟩ := h0.sl (i := 0) rfl
            refine mtr rfl rfl ⟨m81, trivial⟩ (fun w' hq => rw_ofieldU (i := 0) (c := c82) h0 hq.1 ag36 h83 rfl) (mtv rfl rfl (mvv (.int .i64 x19) rfl) ?_)
            obtain ⟨y9_8_1, h85, h78⟩ := pur_some h78
            refine mtv rfl rfl (rv_add rfl rfl h85) ?_
            obtain ⟨y9_9_1, h86, h78⟩ := bnd_some h78
            obtain ⟨v87, h88, h89⟩ := rv_uptoA (P := Tryz.prog) el36 h84 h86
            refine mtv rfl rfl (h89 rfl rfl) ?_
            refine MT.two ?_ ?_
            · obtain ⟨y9_1_1, h90, h78⟩ := bnd_some h78
              refine mtc rfl rfl (dc_call (vs := [.slice none 0 0, .int .u64 y57]) can36 rfl ?_)
              refine (marigraphref01_Put_w C.sb (sl_nil _ _ _) h90).mono ?_
              rintro _ w91 ⟨S92, v94, rfl, c93, h95⟩
              refine ⟨_, rfl, ?_⟩
              have p96 := ap_fresh (fun b hb => (h95.lt b hb).1) (fun b hb => (h0.lt b hb).1)
              replace h95 := h95.base C.up.size
              replace h0 := h0.cx c93
              replace h88 := h88.cx c93
              replace C := C.trans c93
              have z97 := (c93.up).size
              have m98 := m81.nx c93.up (by omega)
              refine ⟨⟨m98, trivial⟩, ?_⟩
              refine MT.two ?_ ?_
              · refine mtc rfl rfl (Rw.does (rw_str h95.sealed (Sm.refl _ _) Tryz.underlying36 Tryz.underlying5 Tryz.underlying9 rfl) ⟨⟨m98, trivial⟩, mtc rfl rfl (Rw.does (rw_str h88 (Sm.refl _ _) Tryz.underlying36 Tryz.underlying5 Tryz.underlying9 rfl) ⟨⟨m98, trivial⟩, mtv rfl rfl (rv_sneq rfl rfl) (MT.e ?_)⟩)⟩)
                obtain rfl := osi h78
                exact ⟨_, C, ⟨rfl, rfl, rfl, rfl, trivial⟩, h0⟩
              · refine mtc rfl rfl (Rw.does (rw_str h88 (Sm.refl _ _) Tryz.underlying36 Tryz.underlying5 Tryz.underlying9 rfl) ⟨⟨m98, trivial⟩, mtc rfl rfl (Rw.does (rw_str h95.sealed (Sm.refl _ _) Tryz.underlying36 Tryz.underlying5 Tryz.underlying9 rfl) ⟨⟨m98, trivial⟩, mtv rfl rfl (rv_sneq rfl rfl) (MT.e ?_)⟩)⟩)
                obtain rfl := osi h78
                exact ⟨_, C, ⟨rfl, rfl, rfl, rfl, trivial⟩, h0⟩
            · refine mtc rfl rfl (Rw.does (rw_str h88 (Sm.refl _ _) Tryz.underlying36 Tryz.underlying5 Tryz.underlying9 rfl) ⟨⟨m81, trivial⟩, ?_⟩)
              obtain ⟨y9_1_1, h99, h78⟩ := bnd_some h78
              refine mtc rfl rfl (dc_call (vs := [.slice none 0 0, .int .u64 y57]) can36 rfl ?_)
              refine (marigraphref01_Put_w C.sb (sl_nil _ _ _) h99).mono ?_
              rintro _ w100 ⟨S101, v103, rfl, c102, h104⟩
              refine ⟨_, rfl, ?_⟩
              have p105 := ap_fresh (fun b hb => (h104.lt b hb).1) (fun b hb => (h0.lt b hb).1)
              replace h104 := h104.base C.up.size
              replace h0 := h0.cx c102
              replace C := C.trans c102
              have z106 := (c102.up).size
              have m107 := m81.nx c102.up (by omega)
              refine ⟨⟨m107, trivial⟩, ?_⟩
              refine mtc rfl rfl (Rw.does (rw_str h104.sealed (Sm.refl _ _) Tryz.underlying36 Tryz.underlying5 Tryz.underlying9 rfl) ⟨⟨m107, trivial⟩, mtv rfl rfl (rv_sneq rfl rfl) (MT.e ?_)⟩)
              obtain rfl := osi h78
              exact ⟨_, C, ⟨rfl, rfl, rfl, rfl, trivial⟩, h0⟩
          · rintro ρ w109 ⟨S108, C, h110, h0⟩
            refine h110.cw fun ρ => ?_
            clear h110
            rcases bif_some h74 with ⟨b111, h74⟩ | ⟨b111, h74⟩
            · refine cw_t rfl b111 (cw_exit ?_)
              obtain rfl := osi h74
              replace h21 := h21.2 _ rfl
              obtain rfl := osi h21
              have h112 := congrArg some h20
              obtain rfl := osi h112
              exact ⟨_, rfl, ⟨_, C, ⟨rfl, trivial⟩, h0⟩⟩
            · refine cw_f rfl b111 (cw_skip ?_)
              obtain rfl := osi h74
              exact ⟨_, rfl, ⟨_, C, ⟨rfl, rfl, rfl, trivial⟩, h0⟩⟩
        · rintro ρ w114 ⟨o71n, rfl, ⟨S113, C, h115, h0⟩⟩
          replace h21 := h21.1 _ rfl
          refine h115.cw fun ρ => ?_
          clear h115
          refine cw_seq fun K116 k117 => ?_
          refine cw_region (sv (mvv v0 rfl) (sv (mvv v0 rfl) (sv (rv_nilcheck rfl h0.ptr) (sv (rv_fieldAddr (b := pb v0) (o := 0) st92 rfl h0.ptr) ?_))))
          obtain ⟨c118, h119, h120⟩ := h0.sl (i := 0) rfl
          refine sr (rw_ofield (i := 0) (c := c118) h0 ag36 h119 rfl) (sv (mvv (.int .i64 x19) rfl) ?_)
          obtain ⟨y121, h122, h21⟩ := pur_some h21
          refine sv (rv_add rfl rfl h122) ?_
          obtain ⟨y123, h124, h21⟩ := bnd_some h21
          obtain ⟨v125, h126, h127⟩ := rv_fromA (P := Tryz.prog) el36 h120 h124
          refine sv (h127 rfl rfl) (sv (rv_nilcheck rfl h0.ptr) (sv (rv_fieldAddr (b := pb v0) (o := 0) st92 rfl h0.ptr) ?_))
          obtain ⟨y128, h129, h21⟩ := pur_some h21
          have h134 : ∀ b, b ∈ fp0 → ¬ S113 b := fun b hb => (h0.lt b hb).2
          refine sc (dc_ofield (i := 0) (k := (kSl (kI .u8))) (h1 := rfl) (a' := y123) h0 rfl ag36 rfl rfl (rep_sl.2 ⟨_, rfl, h126⟩) fun w130 h131 u132 => ?_)
          replace h131 : Ob 92 (marigraphref01_Taker.fs ({ a0 with B := y123 } : marigraphref01_Taker)) S113 w130 v0 (cs0.set 0 v125) fp0 := h131
          rw [h129] at h131
          obtain ⟨cs135, h136⟩ : ∃ cs, cs = cs0.set 0 v125 := ⟨_, rfl⟩
          rw [← h136] at h131
          have c133 := Cx.ofUp C.sb u132
          replace C := C.ofc c133 hs0
          refine W.e (k117 _ _ ?_)
          refine cw_seq fun K137 k138 => ?_
          refine cw_region (sv (mvv (.int .u64 y57) rfl) (sv (asv (.int .u64 y57) rfl) (W.e (k138 _ _ (cw_ret ?_)))))
          obtain rfl := osi h21
          have h139 := congrArg some h20
          obtain rfl := osi h139
          replace h := h.2 _ rfl
          obtain rfl := osi h
          exact ⟨_, rfl, _, _, _, rfl, C, h131, hs0⟩
      · refine cw_f rfl b70 (cw_skip (k43 _ _ (cw_region (sv (mvv (.int .i64 x19) rfl) ?_))))
        obtain ⟨y140, h141, h21⟩ := pur_some h21
        refine sv (rv_add rfl rfl h141) (sv (asv (.int .i64 y140) rfl) (W.e ?_))
        obtain rfl := osi h21
        exact ⟨_, rfl, ⟨_, C, ⟨rfl, rfl, rfl, rfl, trivial⟩, h0⟩⟩
  · rintro ρ w143 ⟨o7n, rfl, ⟨S142, C, h144, h0⟩⟩
    replace h := h.1 _ rfl
    refine h144.cw fun ρ => ?_
    clear h144
    refine cw_seq fun K145 k146 => ?_
    refine cw_region (sv (mvv v0 rfl) ?_)
    obtain ⟨y147, h148, h⟩ := bnd_some h
    refine sc (dc_call (vs := [v0]) can72 rfl ?_)
    refine (marigraphref01_Taker_fail_w C.sb h0 h148).mono ?_
    rintro _ w149 ⟨S150, cs152, fp153, rfl, c151, h154, h155⟩
    refine ⟨_, rfl, ?_⟩
    have h156 : ∀ b, b ∈ fp0 → ¬ S142 b := fun b hb => (h0.lt b hb).2
    have h157 : ∀ b, b ∈ fp153 → b ∈ fp0 ∨ w.heap.size ≤ b := fun b hb => (h155 b hb).elim (hs0 b) (fun hl => .inr (Nat.le_trans C.up.size hl))
    replace C := C.ofc c151 hs0
    refine W.e (k146 _ _ ?_)
    refine cw_seq fun K158 k159 => ?_
    refine cw_region (sv (asv (.int .u64 0) rfl) (W.e (k159 _ _ (cw_ret ?_))))
    obtain rfl := osi h
    exact ⟨_, rfl, _, _, _, rfl, C, h154, h157⟩

noncomputable def marigraphref01_Taker_Text (a0 : marigraphref01_Taker) : Option (ByteArray × marigraphref01_Taker) :=
  ((marigraphref01_Taker_Num a0).bind fun y5 => (pur (IntKind.u64.wrap (y5.2.B.length : Int)) fun y23 => (bif (decide (y23 < y5.1)) then ((marigraphref01_Taker_fail y5.2).bind fun y28 => some (ByteArray.empty, y28)) else ((upto_ y5.2.B y5.1).bind fun y46 => ((from_ y5.2.B y5.1).bind fun y56 => (pur ({ y5.2 with B := y56 } : marigraphref01_Taker) fun y61 => some ((strOf y46), y61)))))))
theorem marigraphref01_Taker_Text_w {S : Nat → Prop} {w : World} {a0 : marigraphref01_Taker} {v0 : Value} {cs0 : List Value} {fp0 : List Nat} {r : ByteArray × marigraphref01_Taker} (hS : Sb S w) (h0 : Ob 92 (marigraphref01_Taker.fs a0) S w v0 cs0 fp0) (h : marigraphref01_Taker_Text a0 = some r) :
    Calls Tryz.prog 73 (List.toArray [v0]) w fun e w1 => ∃ S1 us_0 up_0, e = .returned (.string r.1) ∧ Cx (fun b => b ∈ fp0) S w S1 w1 ∧ Ob 92 (marigraphref01_Taker.fs r.2) S1 w1 v0 us_0 up_0 ∧ (∀ b, b ∈ up_0 → b ∈ fp0 ∨ w.heap.size ≤ b) := by
  refine enter Tryz.func73 rfl (by kernel_rfl) rfl ?_
  have C := Cx.refl (F := (fun b => b ∈ fp0)) hS
  unfold marigraphref01_Taker_Text at h
  have hs0 : ∀ b, b ∈ fp0 → b ∈ fp0 ∨ w.heap.size ≤ b := fun b hb => .inl hb
  have hl0 : ∀ b ∈ fp0, b < w.heap.size := fun b hb => (h0.lt b hb).1
  refine cw_seq fun K1 k2 => ?_
  refine cw_region (sv (asv (.string ByteArray.empty) rfl) (W.e (k2 _ _ ?_)))
  refine cw_seq fun K3 k4 => ?_
  refine cw_region (sv (mvv v0 rfl) ?_)
  obtain ⟨y5, h6, h⟩ := bnd_some h
  refine sc (dc_call (vs := [v0]) can45 rfl ?_)
  refine (marigraphref01_Taker_Num_w C.sb h0 h6).mono ?_
  rintro _ w7 ⟨S8, cs10, fp11, rfl, c9, h12, h13⟩
  refine ⟨_, rfl, ?_⟩
  have h14 : ∀ b, b ∈ fp0 → ¬ S b := fun b hb => (h0.lt b hb).2
  have h15 : ∀ b, b ∈ fp11 → b ∈ fp0 ∨ w.heap.size ≤ b := fun b hb => (h13 b hb).elim (hs0 b) (fun hl => .inr (Nat.le_trans C.up.size hl))
  replace C := C.ofc c9 hs0
  refine sv (asv (.int .u64 y5.1) rfl) (W.e (k4 _ _ ?_))
  refine cw_seq fun K16 k17 => ?_
  refine cw_seq fun K18 k19 => ?_
  refine cw_region (sv (mvv (.int .u64 y5.1) rfl) (sv (mvv v0 rfl) (sv (rv_nilcheck rfl h12.ptr) (sv (rv_fieldAddr (b := pb v0) (o := 0) st92 rfl h12.ptr) ?_))))
  obtain ⟨c20, h21, h22⟩ := h12.sl (i := 0) rfl
  refine sr (rw_ofield (i := 0) (c := c20) h12 ag36 h21 rfl) (sv (rv_lenS el36 h22 rfl) ?_)
  obtain ⟨y23, h24, h⟩ := pur_some h
  refine sv (rv_conv Tryz.underlying3 Tryz.underlying74 rfl h24) (sv (rv_gtr rfl rfl) (W.e (k19 _ _ ?_)))
  rcases bif_some h with ⟨b25, h⟩ | ⟨b25, h⟩
  · refine cw_t rfl b25 ?_
    refine cw_seq fun K26 k27 => ?_
    refine cw_region (sv (mvv v0 rfl) ?_)
    obtain ⟨y28, h29, h⟩ := bnd_some h
    refine sc (dc_call (vs := [v0]) can72 rfl ?_)
    refine (marigraphref01_Taker_fail_w C.sb h12 h29).mono ?_
    rintro _ w30 ⟨S31, cs33, fp34, rfl, c32, h35, h36⟩
    refine ⟨_, rfl, ?_⟩
    have h37 : ∀ b, b ∈ fp11 → ¬ S8 b := fun b hb => (h12.lt b hb).2
    have h38 : ∀ b, b ∈ fp34 → b ∈ fp0 ∨ w.heap.size ≤ b := fun b hb => (h36 b hb).elim (h15 b) (fun hl => .inr (Nat.le_trans C.up.size hl))
    replace C := C.ofc c32 h15
    refine W.e (k27 _ _ ?_)
    refine cw_seq fun K39 k40 => ?_
    refine cw_region (sv (asv (.string ByteArray.empty) rfl) (W.e (k40 _ _ (cw_ret ?_))))
    obtain rfl := osi h
    exact ⟨_, rfl, _, _, _, rfl, C, h35, h38⟩
  · refine cw_f rfl b25 (cw_skip (k17 _ _ ?_))
    refine cw_seq fun K41 k42 => ?_
    refine cw_region (sv (mvv v0 rfl) (sv (rv_nilcheck rfl h12.ptr) (sv (rv_fieldAddr (b := pb v0) (o := 0) st92 rfl h12.ptr) ?_)))
    obtain ⟨c43, h44, h45⟩ := h12.sl (i := 0) rfl
    refine sr (rw_ofield (i := 0) (c := c43) h12 ag36 h44 rfl) (sv (mvv (.int .u64 y5.1) rfl) ?_)
    obtain ⟨y46, h47, h⟩ := bnd_some h
    obtain ⟨v48, h49, h50⟩ := rv_uptoA (P := Tryz.prog) el36 h45 h47
    refine sv (h50 rfl rfl) (sr (rw_str h49 (Sm.refl _ _) Tryz.underlying36 Tryz.underlying5 Tryz.underlying9 rfl) (sv (asv (.string (strOf y46)) rfl) (W.e (k42 _ _ ?_))))
    refine cw_seq fun K51 k52 => ?_
    refine cw_region (sv (mvv v0 rfl) (sv (mvv v0 rfl) (sv (rv_nilcheck rfl h12.ptr) (sv (rv_fieldAddr (b := pb v0) (o := 0) st92 rfl h12.ptr) ?_))))
    obtain ⟨c53, h54, h55⟩ := h12.sl (i := 0) rfl
    refine sr (rw_ofield (i := 0) (c := c53) h12 ag36 h54 rfl) (sv (mvv (.int .u64 y5.1) rfl) ?_)
    obtain ⟨y56, h57, h⟩ := bnd_some h
    obtain ⟨v58, h59, h60⟩ := rv_fromA (P := Tryz.prog) el36 h55 h57
    refine sv (h60 rfl rfl) (sv (rv_nilcheck rfl h12.ptr) (sv (rv_fieldAddr (b := pb v0) (o := 0) st92 rfl h12.ptr) ?_))
    obtain ⟨y61, h62, h⟩ := pur_some h
    have h67 : ∀ b, b ∈ fp11 → ¬ S8 b := fun b hb => (h12.lt b hb).2
    refine sc (dc_ofield (i := 0) (k := (kSl (kI .u8))) (h1 := rfl) (a' := y56) h12 rfl ag36 rfl rfl (rep_sl.2 ⟨_, rfl, h59⟩) fun w63 h64 u65 => ?_)
    replace h64 : Ob 92 (marigraphref01_Taker.fs ({ y5.2 with B := y56 } : marigraphref01_Taker)) S8 w63 v0 (cs10.set 0 v58) fp11 := h64
    rw [h62] at h64
    obtain ⟨cs68, h69⟩ : ∃ cs, cs = cs10.set 0 v58 := ⟨_, rfl⟩
    rw [← h69] at h64
    have c66 := Cx.ofUp C.sb u65
    replace C := C.ofc c66 h15
    refine W.e (k52 _ _ ?_)
    refine cw_seq fun K70 k71 => ?_
    refine cw_region (sv (mvv (.string (strOf y46)) rfl) (sv (asv (.string (strOf y46)) rfl) (W.e (k71 _ _ (cw_ret ?_)))))
    obtain rfl := osi h
    exact ⟨_, rfl, _, _, _, rfl, C, h64, h15⟩

noncomputable def marigraphref05_Name.b2 (a0 : ByteArray) (x13 : Int) : Option ((Int) ⊕ ((Unit) ⊕ (Bool))) :=
  (bif (decide (x13 < (a0.size : Int))) then ((((sat_ a0 x13).bind fun y29 => (bif (decide ((97 : Int) ≤ y29)) then ((sat_ a0 x13).bind fun y32 => some (decide (y32 ≤ (122 : Int)))) else some false)).bind fun o25 => (((sat_ a0 x13).bind fun y41 => (bif (decide ((48 : Int) ≤ y41)) then ((sat_ a0 x13).bind fun y44 => some (decide (y44 ≤ (57 : Int)))) else some false)).bind fun o37 => ((bif (!o25) then (bif (x13 == (0 : Int)) then some true else (bif (!o37) then ((sat_ a0 x13).bind fun y56 => some (y56 != (95 : Int))) else some false)) else some false).bind fun o49 => (bif o49 then some (.inr (.inr (.inr false))) else some (.inl ()))))).bind (Sum.elim (fun o21n => (pur (IntKind.i64.wrap (x13 + (1 : Int))) fun y68 => some (.inl y68))) (fun q => some q))) else some (.inr (.inl ())))
noncomputable def marigraphref05_Name (a0 : ByteArray) : Option Bool :=
  ((iter (fun s : Int => marigraphref05_Name.b2 a0 s) (0 : Int)).bind (Sum.elim (fun o3n => ((bif (decide ((1 : Int) ≤ (a0.size : Int))) then some (decide ((a0.size : Int) ≤ (16 : Int))) else some false).bind fun o74 => some o74)) (fun q => some q)))
theorem marigraphref05_Name_w {S : Nat → Prop} {w : World} {a0 : ByteArray} {r : Bool} (hS : Sb S w)  (h : marigraphref05_Name a0 = some r) :
    Calls Tryz.prog 82 (List.toArray [.string a0]) w fun e w1 => ∃ S1, e = .returned (.bool r) ∧ Cx No S w S1 w1 := by
  refine enter Tryz.func82 rfl (by kernel_rfl) rfl ?_
  have C := Cx.refl (F := No) hS
  unfold marigraphref05_Name at h
  refine cw_seq fun K1 k2 => ?_
  refine cw_region (sv (asv (.bool false) rfl) (W.e (k2 _ _ ?_)))
  obtain ⟨o3, h6, h⟩ := bnds_some h
  refine cw_seq' (fun ρ w1 => ∃ o3n, o3 = (.inl o3n) ∧ ∃ S1, Cx No S w S1 w1 ∧ Has ρ [(0, .string a0)]) ?_ ?_
  · refine cw_seq fun K7 k8 => ?_
    refine cw_region (sv (asv (.int .i64 0) rfl) (W.e (k8 _ _ (cw_block ?_))))
    refine cw_iter h6 (fun s ρ w1 => ∃ S1, Cx No S w S1 w1 ∧ Has ρ [(0, .string a0), (3, .int .i64 s)]) ⟨_, C, ⟨rfl, rfl, trivial⟩⟩ ?_
    rintro x13 q9 ρ w11 ⟨S10, C, h12⟩ h15 h14
    refine h12.cw fun ρ => ?_
    clear h12
    replace h15 : marigraphref05_Name.b2 a0 x13 = some q9 := h15
    unfold marigraphref05_Name.b2 at h15
    refine cw_seq fun K16 k17 => ?_
    refine cw_seq fun K18 k19 => ?_
    refine cw_region (sv (mvv (.int .i64 x13) rfl) (sv (mvv (.string a0) rfl) (sv (rv_slen Tryz.underlying9 rfl) (sv (rv_lss rfl rfl) (W.e (k19 _ _ ?_))))))
    rcases bif_some h15 with ⟨b20, h15⟩ | ⟨b20, h15⟩
    · refine cw_t rfl b20 (cw_skip (k17 _ _ ?_))
      obtain ⟨o21, h24, h15⟩ := bnds_some h15
      refine cw_seq' (fun ρ w1 => ∃ o21n, o21 = (.inl o21n) ∧ ∃ S1, Cx No S w S1 w1 ∧ Has ρ [(0, .string a0), (3, .int .i64 x13)]) ?_ ?_
      · refine cw_block ?_
        obtain ⟨o25, h28, h24⟩ := bnd_some h24
        refine cw_seq' (fun ρ w1 => ∃ S1, Cx No S w S1 w1 ∧ Has ρ [(0, .string a0), (3, .int .i64 x13), (4, .bool o25)]) ?_ ?_
        · refine cw_region (sv (mvv (.string a0) rfl) (sv (mvv (.int .i64 x13) rfl) ?_))
          obtain ⟨y29, h30, h28⟩ := bnd_some h28
          refine sv (rv_sindex Tryz.underlying9 rfl rfl h30) (sv (rv_geq rfl rfl) (sv (mvv (.bool (decide ((97 : Int) ≤ y29))) rfl) ?_))
          rcases bif_some h28 with ⟨b31, h28⟩ | ⟨b31, h28⟩
          · refine W.v (gy rfl rfl rfl b31) (mvv (.string a0) rfl) (W.v (gy rfl rfl rfl b31) (mvv (.int .i64 x13) rfl) ?_)
            obtain ⟨y32, h33, h28⟩ := bnd_some h28
            refine W.v (gy rfl rfl rfl b31) (rv_sindex Tryz.underlying9 rfl rfl h33) (W.v (gy rfl rfl rfl b31) (rv_leq rfl rfl) (sv (ptk (.bool (decide (y32 ≤ (122 : Int)))) rfl b31 rfl) (sv (asv (.bool (decide (y32 ≤ (122 : Int)))) rfl) (W.e ?_))))
            obtain rfl := osi h28
            exact ⟨_, C, ⟨rfl, rfl, rfl, trivial⟩⟩
          · refine W.n (gn rfl rfl rfl b31) (W.n (gn rfl rfl rfl b31) (W.n (gn rfl rfl rfl b31) (W.n (gn rfl rfl rfl b31) (sv (pfk (.bool false) rfl b31 rfl) (sv (asv (.bool false) rfl) (W.e ?_))))))
            obtain rfl := osi h28
            exact ⟨_, C, ⟨rfl, rfl, rfl, trivial⟩⟩
        · rintro ρ w35 ⟨S34, C, h36⟩
          refine h36.cw fun ρ => ?_
          clear h36
          obtain ⟨o37, h40, h24⟩ := bnd_some h24
          refine cw_seq' (fun ρ w1 => ∃ S1, Cx No S w S1 w1 ∧ Has ρ [(0, .string a0), (3, .int .i64 x13), (4, .bool o25), (5, .bool o37)]) ?_ ?_
          · refine cw_region (sv (mvv (.string a0) rfl) (sv (mvv (.int .i64 x13) rfl) ?_))
            obtain ⟨y41, h42, h40⟩ := bnd_some h40
            refine sv (rv_sindex Tryz.underlying9 rfl rfl h42) (sv (rv_geq rfl rfl) (sv (mvv (.bool (decide ((48 : Int) ≤ y41))) rfl) ?_))
            rcases bif_some h40 with ⟨b43, h40⟩ | ⟨b43, h40⟩
            · refine W.v (gy rfl rfl rfl b43) (mvv (.string a0) rfl) (W.v (gy rfl rfl rfl b43) (mvv (.int .i64 x13) rfl) ?_)
              obtain ⟨y44, h45, h40⟩ := bnd_some h40
              refine W.v (gy rfl rfl rfl b43) (rv_sindex Tryz.underlying9 rfl rfl h45) (W.v (gy rfl rfl rfl b43) (rv_leq rfl rfl) (sv (ptk (.bool (decide (y44 ≤ (57 : Int)))) rfl b43 rfl) (sv (asv (.bool (decide (y44 ≤ (57 : Int)))) rfl) (W.e ?_))))
              obtain rfl := osi h40
              exact ⟨_, C, ⟨rfl, rfl, rfl, rfl, trivial⟩⟩
            · refine W.n (gn rfl rfl rfl b43) (W.n (gn rfl rfl rfl b43) (W.n (gn rfl rfl rfl b43) (W.n (gn rfl rfl rfl b43) (sv (pfk (.bool false) rfl b43 rfl) (sv (asv (.bool false) rfl) (W.e ?_))))))
              obtain rfl := osi h40
              exact ⟨_, C, ⟨rfl, rfl, rfl, rfl, trivial⟩⟩
          · rintro ρ w47 ⟨S46, C, h48⟩
            refine h48.cw fun ρ => ?_
            clear h48
            obtain ⟨o49, h52, h24⟩ := bnd_some h24
            refine cw_seq' (fun ρ w1 => ∃ S1, Cx No S w S1 w1 ∧ Has ρ [(0, .string a0), (3, .int .i64 x13), (47, .bool o49)]) ?_ ?_
            · refine cw_region (sv (mvv (.bool o25) rfl) (sv (rv_not rfl) (sv (mvv (.bool (!o25)) rfl) ?_)))
              rcases bif_some h52 with ⟨b53, h52⟩ | ⟨b53, h52⟩
              · refine W.v (gy rfl rfl rfl b53) (mvv (.int .i64 x13) rfl) (W.v (gy rfl rfl rfl b53) (rv_eql rfl rfl) (W.v (gy rfl rfl rfl b53) (mvv (.bool (x13 == (0 : Int))) rfl) ?_))
                rcases bif_some h52 with ⟨b54, h52⟩ | ⟨b54, h52⟩
                · refine W.n (gn rfl rfl rfl b54) (W.n (gn rfl rfl rfl b54) (W.n (gn rfl rfl rfl b54) (W.n (gu rfl rfl rfl) (W.n (gu rfl rfl rfl) (W.n (gu rfl rfl rfl) (W.n (gu rfl rfl rfl) (W.n (gn rfl rfl rfl b54) (W.v (gy rfl rfl rfl b53) (ptk (.bool true) rfl b54 rfl) (sv (ptk (.bool true) rfl b53 rfl) (W.e ?_))))))))))
                  obtain rfl := osi h52
                  exact ⟨_, C, ⟨rfl, rfl, rfl, trivial⟩⟩
                · refine W.v (gy rfl rfl rfl b54) (mvv (.bool o37) rfl) (W.v (gy rfl rfl rfl b54) (rv_not rfl) (W.v (gy rfl rfl rfl b54) (mvv (.bool (!o37)) rfl) ?_))
                  rcases bif_some h52 with ⟨b55, h52⟩ | ⟨b55, h52⟩
                  · refine W.v (gy rfl rfl rfl b55) (mvv (.string a0) rfl) (W.v (gy rfl rfl rfl b55) (mvv (.int .i64 x13) rfl) ?_)
                    obtain ⟨y56, h57, h52⟩ := bnd_some h52
                    refine W.v (gy rfl rfl rfl b55) (rv_sindex Tryz.underlying9 rfl rfl h57) (W.v (gy rfl rfl rfl b55) (rv_neq rfl rfl) (W.v (gy rfl rfl rfl b54) (ptk (.bool (y56 != (95 : Int))) rfl b55 rfl) (W.v (gy rfl rfl rfl b53) (pfk (.bool (y56 != (95 : Int))) rfl b54 rfl) (sv (ptk (.bool (y56 != (95 : Int))) rfl b53 rfl) (W.e ?_)))))
                    obtain rfl := osi h52
                    exact ⟨_, C, ⟨rfl, rfl, rfl, trivial⟩⟩
                  · refine W.n (gn rfl rfl rfl b55) (W.n (gn rfl rfl rfl b55) (W.n (gn rfl rfl rfl b55) (W.n (gn rfl rfl rfl b55) (W.v (gy rfl rfl rfl b54) (pfk (.bool false) rfl b55 rfl) (W.v (gy rfl rfl rfl b53) (pfk (.bool false) rfl b54 rfl) (sv (ptk (.bool false) rfl b53 rfl) (W.e ?_)))))))
                    obtain rfl := osi h52
                    exact ⟨_, C, ⟨rfl, rfl, rfl, trivial⟩⟩
              · refine W.n (gn rfl rfl rfl b53) (W.n (gn rfl rfl rfl b53) (W.n (gn rfl rfl rfl b53) (W.n (gu rfl rfl rfl) (W.n (gu rfl rfl rfl) (W.n (gu rfl rfl rfl) (W.n (gu rfl rfl rfl) (W.n (gu rfl rfl rfl) (W.n (gu rfl rfl rfl) (W.n (gu rfl rfl rfl) (W.n (gu rfl rfl rfl) (W.n (gn rfl rfl rfl b53) ?_)))))))))))
                refine sv (pfk (.bool false) rfl b53 rfl) (W.e ?_)
                obtain rfl := osi h52
                exact ⟨_, C, ⟨rfl, rfl, rfl, trivial⟩⟩
            · rintro ρ w59 ⟨S58, C, h60⟩
              refine h60.cw fun ρ => ?_
              clear h60
              rcases bif_some h24 with ⟨b61, h24⟩ | ⟨b61, h24⟩
              · refine cw_t rfl b61 ?_
                refine cw_seq fun K62 k63 => ?_
                refine cw_region (sv (asv (.bool false) rfl) (W.e (k63 _ _ (cw_ret ?_))))
                obtain rfl := osi h24
                replace h15 := h15.2 _ rfl
                obtain rfl := osi h15
                have h64 := congrArg some h14
                obtain rfl := osi h64
                replace h := h.2 _ rfl
                obtain rfl := osi h
                exact ⟨_, rfl, _, rfl, C⟩
              · refine cw_f rfl b61 (cw_skip ?_)
                obtain rfl := osi h24
                exact ⟨_, rfl, ⟨_, C, ⟨rfl, rfl, trivial⟩⟩⟩
      · rintro ρ w66 ⟨o21n, rfl, ⟨S65, C, h67⟩⟩
        replace h15 := h15.1 _ rfl
        refine h67.cw fun ρ => ?_
        clear h67
        refine cw_region (sv (mvv (.int .i64 x13) rfl) ?_)
        obtain ⟨y68, h69, h15⟩ := pur_some h15
        refine sv (rv_add rfl rfl h69) (sv (asv (.int .i64 y68) rfl) (W.e ?_))
        obtain rfl := osi h15
        exact ⟨_, rfl, ⟨_, C, ⟨rfl, rfl, trivial⟩⟩⟩
    · refine cw_f rfl b20 (cw_exit ?_)
      obtain rfl := osi h15
      have h70 := congrArg some h14
      obtain rfl := osi h70
      exact ⟨_, rfl, ⟨_, C, ⟨rfl, trivial⟩⟩⟩
  · rintro ρ w72 ⟨o3n, rfl, ⟨S71, C, h73⟩⟩
    replace h := h.1 _ rfl
    refine h73.cw fun ρ => ?_
    clear h73
    obtain ⟨o74, h77, h⟩ := bnd_some h
    refine cw_seq' (fun ρ w1 => ∃ S1, Cx No S w S1 w1 ∧ Has ρ [(2, .bool o74)]) ?_ ?_
    · refine cw_region (sv (mvv (.string a0) rfl) (sv (rv_slen Tryz.underlying9 rfl) (sv (rv_geq rfl rfl) (sv (mvv (.bool (decide ((1 : Int) ≤ (a0.size : Int)))) rfl) ?_))))
      rcases bif_some h77 with ⟨b78, h77⟩ | ⟨b78, h77⟩
      · refine W.v (gy rfl rfl rfl b78) (mvv (.string a0) rfl) (W.v (gy rfl rfl rfl b78) (rv_slen Tryz.underlying9 rfl) (W.v (gy rfl rfl rfl b78) (rv_leq rfl rfl) (sv (ptk (.bool (decide ((a0.size : Int) ≤ (16 : Int)))) rfl b78 rfl) (sv (asv (.bool (decide ((a0.size : Int) ≤ (16 : Int)))) rfl) (W.e ?_)))))
        obtain rfl := osi h77
        exact ⟨_, C, ⟨rfl, trivial⟩⟩
      · refine W.n (gn rfl rfl rfl b78) (W.n (gn rfl rfl rfl b78) (W.n (gn rfl rfl rfl b78) (sv (pfk (.bool false) rfl b78 rfl) (sv (asv (.bool false) rfl) (W.e ?_)))))
        obtain rfl := osi h77
        exact ⟨_, C, ⟨rfl, trivial⟩⟩
    · rintro ρ w80 ⟨S79, C, h81⟩
      refine h81.cw fun ρ => ?_
      clear h81
      refine cw_ret ?_
      obtain rfl := osi h
      exact ⟨_, rfl, _, rfl, C⟩

end Go.Proofs.YtikdgllagijidaaGreat
