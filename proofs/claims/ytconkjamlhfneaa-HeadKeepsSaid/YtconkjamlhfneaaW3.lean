/- What each function computes, and that the program computes it (part 3). Printed by gen.py, a program of this session. -/
import Derived.Test.YtconkjamlhfneaaW2
set_option linter.unusedVariables false
namespace Go.Proofs.Ytconkjamlhfneaa
open Go Go.Mg
noncomputable def marigraphref04_Ints.b2 (a0 : List Int) (a1 : List Int) (x20 : Int) : Option ((Int) ⊕ ((Unit) ⊕ (Bool))) :=
  (bif (decide (x20 < (a0.length : Int))) then ((at_ a0 x20).bind fun y35 => ((at_ a1 x20).bind fun y37 => (bif (y35 != y37) then some (.inr (.inr false)) else (pur (IntKind.i64.wrap (x20 + (1 : Int))) fun y43 => some (.inl y43))))) else some (.inr (.inl ())))
noncomputable def marigraphref04_Ints (a0 : List Int) (a1 : List Int) : Option Bool :=
  (bif ((a0.length : Int) != (a1.length : Int)) then some false else ((iter (fun s : Int => marigraphref04_Ints.b2 a0 a1 s) (0 : Int)).bind (Sum.elim (fun o10n => some true) (fun q => some q))))
set_option maxRecDepth 100000 in
set_option maxHeartbeats 4000000 in
theorem marigraphref04_Ints_w {S : Nat → Prop} {w : World} {a0 : List Int} {a1 : List Int} {v0 v1 : Value} {r : Bool} (hS : Sb S w) (h0 : Sl (kSl (kI .i64)) S w v0 a0) (h1 : Sl (kSl (kI .i64)) S w v1 a1) (h : marigraphref04_Ints a0 a1 = some r) :
    Calls Try.prog 27 (List.toArray [v0, v1]) w fun e w1 => ∃ S1, e = .returned (.bool r) ∧ Cx No S w S1 w1 := by
  refine enter Try.func27 rfl (by kernel_rfl) rfl ?_
  have C := Cx.refl (F := No) hS
  unfold marigraphref04_Ints at h
  refine cw_seq fun K1 k2 => ?_
  refine cw_region (sv (asv (.bool false) rfl) (W.e (k2 _ _ ?_)))
  refine cw_seq fun K3 k4 => ?_
  refine cw_seq fun K5 k6 => ?_
  refine cw_region (sv (mvv v0 rfl) (sv (rv_lenS el51 h0 rfl) (sv (mvv v1 rfl) (sv (rv_lenS el51 h1 rfl) (sv (rv_neq rfl rfl) (W.e (k6 _ _ ?_)))))))
  rcases bif_some h with ⟨b7, h⟩ | ⟨b7, h⟩
  · refine cw_t rfl b7 ?_
    refine cw_seq fun K8 k9 => ?_
    refine cw_region (sv (asv (.bool false) rfl) (W.e (k9 _ _ (cw_ret ?_))))
    obtain rfl := Option.some.inj h
    exact ⟨_, rfl, _, rfl, C⟩
  · refine cw_f rfl b7 (cw_skip (k4 _ _ ?_))
    obtain ⟨o10, h13, h⟩ := bnds_some h
    refine cw_seq' (fun ρ w1 => ∃ o10n, o10 = (.inl o10n) ∧ ∃ S1, Cx No S w S1 w1 ∧ Has ρ []) ?_ ?_
    · refine cw_seq fun K14 k15 => ?_
      refine cw_region (sv (asv (.int .i64 0) rfl) (W.e (k15 _ _ (cw_block ?_))))
      refine cw_iter h13 (fun s ρ w1 => ∃ S1, Cx No S w S1 w1 ∧ Has ρ [(0, v0), (1, v1), (5, .int .i64 s)] ∧ Sl (kSl (kI .i64)) S1 w1 v0 a0 ∧ Sl (kSl (kI .i64)) S1 w1 v1 a1) ⟨_, C, ⟨rfl, rfl, rfl, trivial⟩, h0, h1⟩ ?_
      rintro x20 q16 ρ w18 ⟨S17, C, h19, h0, h1⟩ h22 h21
      refine h19.cw fun ρ => ?_
      clear h19
      replace h22 : marigraphref04_Ints.b2 a0 a1 x20 = some q16 := h22
      unfold marigraphref04_Ints.b2 at h22
      refine cw_seq fun K23 k24 => ?_
      refine cw_seq fun K25 k26 => ?_
      refine cw_region (sv (mvv (.int .i64 x20) rfl) (sv (mvv v0 rfl) (sv (rv_lenS el51 h0 rfl) (sv (rv_lss rfl rfl) (W.e (k26 _ _ ?_))))))
      rcases bif_some h22 with ⟨b27, h22⟩ | ⟨b27, h22⟩
      · refine cw_t rfl b27 (cw_skip (k24 _ _ ?_))
        refine cw_seq fun K28 k29 => ?_
        refine cw_block ?_
        refine cw_seq fun K30 k31 => ?_
        refine cw_drawU (.one 0 true (.one 1 true (.one 2 true (.one 3 true (.one 4 true (.one 5 true (.one 6 true (.one 7 true (.one 8 true .done))))))))) [(3, [9]), (7, [9])] [] (fun c => bif Nat.beq c 9 then (fun _ => True) else No) fol (by kernel_rfl) fun w32 u33 => ?_
        replace h0 := h0.nw u33
        replace h1 := h1.nw u33
        replace C := C.new u33
        have m34 := Sm.refl (fun _ => True) w32
        refine mtv rfl rfl (mvv v0 rfl) (mtv rfl rfl (mvv (.int .i64 x20) rfl) ?_)
        obtain ⟨y35, h36, h22⟩ := bnd_some h22
        refine mtv rfl rfl (rv_index el51 h0 rfl rfl h36) (mtr rfl rfl ⟨m34, trivial⟩ (fun w' hq => rw_loadC el51 h0 h36 rfl w' (hq.1.mono fun _ _ => trivial)) (mtv rfl rfl (mvv v1 rfl) (mtv rfl rfl (mvv (.int .i64 x20) rfl) ?_)))
        obtain ⟨y37, h38, h22⟩ := bnd_some h22
        refine mtv rfl rfl (rv_index el51 h1 rfl rfl h38) (mtr rfl rfl ⟨m34, trivial⟩ (fun w' hq => rw_loadC el51 h1 h38 rfl w' (hq.1.mono fun _ _ => trivial)) (mtv rfl rfl (rv_neq rfl rfl) (MT.e (k31 _ _ ?_))))
        rcases bif_some h22 with ⟨b39, h22⟩ | ⟨b39, h22⟩
        · refine cw_t rfl b39 ?_
          refine cw_seq fun K40 k41 => ?_
          refine cw_region (sv (asv (.bool false) rfl) (W.e (k41 _ _ (cw_ret ?_))))
          obtain rfl := Option.some.inj h22
          have h42 := congrArg some h21
          obtain rfl := Option.some.inj h42
          replace h := h.2 _ rfl
          obtain rfl := Option.some.inj h
          exact ⟨_, rfl, _, rfl, C⟩
        · refine cw_f rfl b39 (cw_skip (k29 _ _ (cw_region (sv (mvv (.int .i64 x20) rfl) ?_))))
          obtain ⟨y43, h44, h22⟩ := pur_some h22
          refine sv (rv_add rfl rfl h44) (sv (asv (.int .i64 y43) rfl) (W.e ?_))
          obtain rfl := Option.some.inj h22
          exact ⟨_, rfl, ⟨_, C, ⟨rfl, rfl, rfl, trivial⟩, h0, h1⟩⟩
      · refine cw_f rfl b27 (cw_exit ?_)
        obtain rfl := Option.some.inj h22
        have h45 := congrArg some h21
        obtain rfl := Option.some.inj h45
        exact ⟨_, rfl, ⟨_, C, trivial⟩⟩
    · rintro ρ w47 ⟨o10n, rfl, ⟨S46, C, h48⟩⟩
      replace h := h.1 _ rfl
      refine h48.cw fun ρ => ?_
      clear h48
      refine cw_seq fun K49 k50 => ?_
      refine cw_region (sv (asv (.bool true) rfl) (W.e (k50 _ _ (cw_ret ?_))))
      obtain rfl := Option.some.inj h
      exact ⟨_, rfl, _, rfl, C⟩

noncomputable def marigraphlaw11_HeadPlays.b4 (y70 : (List marigraphlaw11_Act)) (x90 : Int) (x91 : Option head_Head) (x92 : Option marigraphref11_Head) : Option ((Int × (Option head_Head) × (Option marigraphref11_Head)) ⊕ (((Option head_Head) × (Option marigraphref11_Head)) ⊕ (Bool))) :=
  (bif (decide (x90 < (y70.length : Int))) then (((at_ y70 x90).bind fun y106 => (pur y106 fun y118 => ((pur (Int.tmod y118.Kind (7 : Int)) fun y135 => (bif (y135 == (5 : Int)) then ((head_Head_Seal x91).bind fun y140 => ((x92).bind fun y155 => ((marigraphref11_Head_Seal y155).bind fun y158 => ((marigraphref09_Same y140.1 y158.1).bind fun y173 => some (y173, y140.2, (some y158.2)))))) else (bif (y135 == (6 : Int)) then ((head_Head_Drop x91 y118.Id).bind fun y190 => ((x92).bind fun y205 => ((marigraphref11_Head_Drop y205 y118.Id).bind fun y208 => some ((y190.1 == y208.1), y190.2, (some y208.2))))) else ((head_Head_Add x91 y118.Id y118.P).bind fun y238 => ((x92).bind fun y253 => ((marigraphref11_Head_Add y253 y118.Id y118.P).bind fun y256 => some ((y238.1 == y256.1), y238.2, (some y256.2)))))))).bind fun o126 => ((head_Head_Last o126.2.1).bind fun y287 => ((bif (!o126.1) then some true else ((o126.2.2).bind fun y300 => (bif (y287.1 != y300.Last) then some true else (bif (!(y287.2 == y300.Any)) then some true else ((head_Head_Len o126.2.1).bind fun y308 => (bif (y308 != (y300.L.length : Int)) then some true else ((head_Head_Ids o126.2.1).bind fun y316 => ((marigraphref11_Head_Ids y300).bind fun y328 => ((marigraphref04_Ints y316 y328).bind fun y341 => (bif (!y341) then some true else ((head_Head_Points o126.2.1 y118.Id).bind fun y355 => ((marigraphref11_Head_Points y300 y118.Id).bind fun y366 => ((marigraphref04_Same y355 y366).bind fun y378 => some (!y378)))))))))))))).bind fun o292 => (bif o292 then some (.inr (.inr (.inr false))) else some (.inl (o126.2.1, o126.2.2)))))))).bind (Sum.elim (fun o100n => (pur (IntKind.i64.wrap (x90 + (1 : Int))) fun y405 => some (.inl (y405, o100n.1, o100n.2)))) (fun q => some q))) else some (.inr (.inl (x91, x92))))
noncomputable def marigraphlaw11_HeadPlays (a0 : Int) (a1 : List marigraphlaw11_Act) : Option Bool :=
  ((marigraphlaw11_shown).bind fun y5 => ((head_New a0).bind fun y12 => ((marigraphref11_New a0).bind fun y25 => (((bif (y12.2 != y25.2) then some true else some (!(y12.1.isNone == y25.1.isNone))).bind fun o41 => (bif o41 then some (.inr false) else some (.inl ()))).bind (Sum.elim (fun o37n => (bif y25.1.isNone then some y5 else (((marigraphlaw11_few a1).bind fun y70 => (iter (fun s : Int × (Option head_Head) × (Option marigraphref11_Head) => marigraphlaw11_HeadPlays.b4 y70 s.1 s.2.1 s.2.2) ((0 : Int), y12.1, y25.1))).bind (Sum.elim (fun o64n => some y5) (fun q => some q))))) (fun q => some q))))))
set_option maxRecDepth 100000 in
set_option maxHeartbeats 4000000 in
theorem marigraphlaw11_HeadPlays_w {S : Nat → Prop} {w : World} {a0 : Int} {a1 : List marigraphlaw11_Act} {v1 : Value} {r : Bool} (hS : Sb S w) (h1 : Sl (kSl marigraphlaw11_Act.k) S w v1 a1) (h : marigraphlaw11_HeadPlays a0 a1 = some r) :
    Calls Try.prog 8 (List.toArray [.int .i64 a0, v1]) w fun e w1 => ∃ S1, e = .returned (.bool r) ∧ Cx No S w S1 w1 := by
  refine enter Try.func8 rfl (by kernel_rfl) rfl ?_
  have C := Cx.refl (F := No) hS
  unfold marigraphlaw11_HeadPlays at h
  refine cw_seq fun K1 k2 => ?_
  refine cw_region (sv (asv (.bool false) rfl) (W.e (k2 _ _ ?_)))
  refine cw_seq fun K3 k4 => ?_
  refine cw_region ?_
  obtain ⟨y5, h6, h⟩ := bnd_some h
  refine sc (dc_call (vs := []) can10 rfl ?_)
  refine (marigraphlaw11_shown_w C.sb  h6).mono ?_
  rintro _ w7 ⟨S8, rfl, c9⟩
  refine ⟨_, rfl, ?_⟩
  replace h1 := h1.cx c9
  replace C := C.trans c9
  refine sv (asv (.bool y5) rfl) (W.e (k4 _ _ ?_))
  refine cw_seq fun K10 k11 => ?_
  refine cw_region (sv (mvv (.int .i64 a0) rfl) ?_)
  obtain ⟨y12, h13, h⟩ := bnd_some h
  refine sc (dc_call (vs := [.int .i64 a0]) can11 rfl ?_)
  refine (head_New_w C.sb  h13).mono ?_
  rintro _ w14 ⟨S15, v17, cs18, fp19, rfl, c16, h20, h21⟩
  refine ⟨_, rfl, ?_⟩
  have h22 : ∀ b, b ∈ fp19 → w.heap.size ≤ b := fun b hb => Nat.le_trans C.up.size (h21 b hb)
  replace h1 := h1.cx c16
  replace C := C.trans c16
  refine sv (mvv (.tuple (List.toArray [v17, .int .i64 y12.2])) rfl) (sv (rv_extract rfl rfl) (sv (rv_extract rfl rfl) (sv (asv v17 rfl) (sv (asv (.int .i64 y12.2) rfl) (W.e (k11 _ _ ?_))))))
  refine cw_seq fun K23 k24 => ?_
  refine cw_region (sv (mvv (.int .i64 a0) rfl) ?_)
  obtain ⟨y25, h26, h⟩ := bnd_some h
  refine sc (dc_call (vs := [.int .i64 a0]) can22 rfl ?_)
  refine (marigraphref11_New_w C.sb  h26).mono ?_
  rintro _ w27 ⟨S28, v30, cs31, fp32, rfl, c29, h33, h34⟩
  refine ⟨_, rfl, ?_⟩
  have p35 := ap_fresh h34 (fun b hb => (h20.lt b hb).1)
  have h36 : ∀ b, b ∈ fp32 → w.heap.size ≤ b := fun b hb => Nat.le_trans C.up.size (h34 b hb)
  replace h1 := h1.cx c29
  replace h20 := h20.cx c29
  replace C := C.trans c29
  refine sv (mvv (.tuple (List.toArray [v30, .int .i64 y25.2])) rfl) (sv (rv_extract rfl rfl) (sv (rv_extract rfl rfl) (sv (asv v30 rfl) (sv (asv (.int .i64 y25.2) rfl) (W.e (k24 _ _ ?_))))))
  obtain ⟨o37, h40, h⟩ := bnds_some h
  refine cw_seq' (fun ρ w1 => ∃ o37n, o37 = (.inl o37n) ∧ ∃ S1, Cx No S w S1 w1 ∧ Has ρ [(1, v1), (5, .bool y5), (6, v17), (8, v30)] ∧ Sl (kSl marigraphlaw11_Act.k) S1 w1 v1 a1 ∧ Obo 67 head_Head.fs S1 w1 v17 y12.1 cs18 fp19 ∧ Obo 62 marigraphref11_Head.fs S1 w1 v30 y25.1 cs31 fp32 ∧ (∀ b, b ∈ fp19 → ¬ b ∈ fp32)) ?_ ?_
  · obtain ⟨o41, h44, h40⟩ := bnd_some h40
    refine cw_seq' (fun ρ w1 => ∃ S1, Cx No S w S1 w1 ∧ Has ρ [(1, v1), (5, .bool y5), (6, v17), (8, v30), (35, .bool o41)] ∧ Sl (kSl marigraphlaw11_Act.k) S1 w1 v1 a1 ∧ Obo 67 head_Head.fs S1 w1 v17 y12.1 cs18 fp19 ∧ Obo 62 marigraphref11_Head.fs S1 w1 v30 y25.1 cs31 fp32 ∧ (∀ b, b ∈ fp19 → ¬ b ∈ fp32)) ?_ ?_
    · refine cw_region (sv (mvv (.int .i64 y12.2) rfl) (sv (mvv (.int .i64 y25.2) rfl) (sv (rv_neq rfl rfl) (sv (mvv (.bool (y12.2 != y25.2)) rfl) ?_))))
      rcases bif_some h44 with ⟨b45, h44⟩ | ⟨b45, h44⟩
      · refine W.n (gn rfl rfl rfl b45) (W.n (gn rfl rfl rfl b45) (W.n (gn rfl rfl rfl b45) (W.n (gn rfl rfl rfl b45) (W.n (gn rfl rfl rfl b45) (sv (ptk (.bool true) rfl b45 rfl) (W.e ?_))))))
        obtain rfl := Option.some.inj h44
        exact ⟨_, C, ⟨rfl, rfl, rfl, rfl, rfl, trivial⟩, h1, h20, h33, (ap_symm p35)⟩
      · refine W.v (gy rfl rfl rfl b45) (mvv v17 rfl) (W.v (gy rfl rfl rfl b45) (rv_nileq Try.underlying23 rfl rfl h20.ne) (W.v (gy rfl rfl rfl b45) (mvv v30 rfl) (W.v (gy rfl rfl rfl b45) (rv_nileq Try.underlying57 rfl rfl h33.ne) (W.v (gy rfl rfl rfl b45) (rv_bneq Try.underlying4 rfl rfl) (sv (pfk (.bool (!(y12.1.isNone == y25.1.isNone))) rfl b45 rfl) (W.e ?_))))))
        obtain rfl := Option.some.inj h44
        exact ⟨_, C, ⟨rfl, rfl, rfl, rfl, rfl, trivial⟩, h1, h20, h33, (ap_symm p35)⟩
    · rintro ρ w47 ⟨S46, C, h49, h1, h20, h33, p48⟩
      refine h49.cw fun ρ => ?_
      clear h49
      rcases bif_some h40 with ⟨b50, h40⟩ | ⟨b50, h40⟩
      · refine cw_t rfl b50 ?_
        refine cw_seq fun K51 k52 => ?_
        refine cw_region (sv (asv (.bool false) rfl) (W.e (k52 _ _ (cw_ret ?_))))
        obtain rfl := Option.some.inj h40
        replace h := h.2 _ rfl
        obtain rfl := Option.some.inj h
        exact ⟨_, rfl, _, rfl, C⟩
      · refine cw_f rfl b50 (cw_skip ?_)
        obtain rfl := Option.some.inj h40
        exact ⟨_, rfl, ⟨_, C, ⟨rfl, rfl, rfl, rfl, trivial⟩, h1, h20, h33, p48⟩⟩
  · rintro ρ w54 ⟨o37n, rfl, ⟨S53, C, h56, h1, h20, h33, p55⟩⟩
    replace h := h.1 _ rfl
    refine h56.cw fun ρ => ?_
    clear h56
    refine cw_seq fun K57 k58 => ?_
    refine cw_seq fun K59 k60 => ?_
    refine cw_region (sv (mvv v30 rfl) (sv (rv_nileq Try.underlying57 rfl rfl h33.ne) (W.e (k60 _ _ ?_))))
    rcases bif_some h with ⟨b61, h⟩ | ⟨b61, h⟩
    · refine cw_t rfl b61 ?_
      refine cw_seq fun K62 k63 => ?_
      refine cw_region (sv (mvv (.bool y5) rfl) (sv (asv (.bool y5) rfl) (W.e (k63 _ _ (cw_ret ?_)))))
      obtain rfl := Option.some.inj h
      exact ⟨_, rfl, _, rfl, C⟩
    · refine cw_f rfl b61 (cw_skip (k58 _ _ ?_))
      obtain ⟨o64, h67, h⟩ := bnds_some h
      refine cw_seq' (fun ρ w1 => ∃ o64n, o64 = (.inl o64n) ∧ ∃ S1, Cx No S w S1 w1 ∧ Has ρ [(5, .bool y5)]) ?_ ?_
      · refine cw_seq fun K68 k69 => ?_
        refine cw_region (sv (mvv v1 rfl) ?_)
        obtain ⟨y70, h71, h67⟩ := bnd_some h67
        refine sc (dc_call (vs := [v1]) can18 rfl ?_)
        refine (marigraphlaw11_few_w C.sb h1 h71).mono ?_
        rintro _ w72 ⟨S73, v75, rfl, c74, h76⟩
        refine ⟨_, rfl, ?_⟩
        replace h20 := h20.cx c74
        replace h33 := h33.cx c74
        replace C := C.trans c74
        refine sv (rv_lenS el37 h76 rfl) (sv (mvv (.int .i64 0) rfl) (W.e (k69 _ _ (cw_block ?_))))
        refine cw_iter h67 (fun s ρ w1 => ∃ S1 fp81 cs83 fp85 cs87, Cx No S w S1 w1 ∧ Has ρ [(5, .bool y5), (6, v17), (8, v30), (40, v75), (41, .int .i64 (y70.length : Int)), (42, .int .i64 s.1)] ∧ Sl (kSl marigraphlaw11_Act.k) S1 w1 v75 y70 ∧ Obo 67 head_Head.fs S1 w1 v17 s.2.1 cs83 fp81 ∧ (∀ b, b ∈ fp81 → w.heap.size ≤ b) ∧ Obo 62 marigraphref11_Head.fs S1 w1 v30 s.2.2 cs87 fp85 ∧ (∀ b, b ∈ fp85 → w.heap.size ≤ b) ∧ (∀ b, b ∈ fp81 → ¬ b ∈ fp85)) ⟨_, _, _, _, _, C, ⟨rfl, rfl, rfl, rfl, rfl, rfl, trivial⟩, h76, h20, h22, h33, h36, p55⟩ ?_
        rintro ⟨x90, x91, x92⟩ q77 ρ w79 ⟨S78, fp81, cs83, fp85, cs87, C, h89, h76, h80, h82, h84, h86, p88⟩ h94 h93
        refine h89.cw fun ρ => ?_
        clear h89
        replace h94 : marigraphlaw11_HeadPlays.b4 y70 x90 x91 x92 = some q77 := h94
        unfold marigraphlaw11_HeadPlays.b4 at h94
        refine cw_seq fun K95 k96 => ?_
        refine cw_region (sv (rv_lss rfl rfl) (W.e (k96 _ _ ?_)))
        refine cw_seq fun K97 k98 => ?_
        rcases bif_some h94 with ⟨b99, h94⟩ | ⟨b99, h94⟩
        · refine cw_t rfl b99 (cw_skip (k98 _ _ ?_))
          obtain ⟨o100, h103, h94⟩ := bnds_some h94
          refine cw_seq' (fun ρ w1 => ∃ o100n, o100 = (.inl o100n) ∧ ∃ S1 fp396 cs398 fp400 cs402, Cx No S w S1 w1 ∧ Has ρ [(5, .bool y5), (6, v17), (8, v30), (40, v75), (41, .int .i64 (y70.length : Int)), (42, .int .i64 x90)] ∧ Sl (kSl marigraphlaw11_Act.k) S1 w1 v75 y70 ∧ Obo 67 head_Head.fs S1 w1 v17 o100n.1 cs398 fp396 ∧ (∀ b, b ∈ fp396 → w.heap.size ≤ b) ∧ Obo 62 marigraphref11_Head.fs S1 w1 v30 o100n.2 cs402 fp400 ∧ (∀ b, b ∈ fp400 → w.heap.size ≤ b) ∧ (∀ b, b ∈ fp396 → ¬ b ∈ fp400)) ?_ ?_
          · refine cw_block ?_
            refine cw_seq fun K104 k105 => ?_
            refine cw_region ?_
            obtain ⟨y106, h107, h103⟩ := bnd_some h103
            refine sv (rv_index el37 h76 rfl rfl h107) ?_
            obtain ⟨v108, h109, h110⟩ := rw_loadA (P := Try.prog) el37 h76 h107
            obtain rfl := marigraphlaw11_Act.o.1 h109
            refine sr (h110 _ (Sm.refl _ _) rfl) ?_
            refine sc (dc_allocO (x0 := (marigraphlaw11_Act.mk (0 : Int) (0 : Int) (api_Point.mk (0 : Int) (0 : Int)))) (base := w.heap.size) el37 zr41 (fun _ => marigraphlaw11_Act.r.2 rfl) C.up.size C.sb fun b111 w112 h113 h114 u115 => ?_)
            have p116 := ap_fresh h114 (fun b hb => (h80.lt b hb).1)
            have p117 := ap_fresh h114 (fun b hb => (h84.lt b hb).1)
            replace h80 := h80.nw u115
            replace h76 := h76.nw u115
            replace h84 := h84.nw u115
            replace C := C.new u115
            obtain ⟨y118, h119, h103⟩ := pur_some h103
            have h123 := h113
            refine sc (dc_storeO el37 h123 (show at_ [(marigraphlaw11_Act.mk (0 : Int) (0 : Int) (api_Point.mk (0 : Int) (0 : Int)))] (0 : Int) = some (marigraphlaw11_Act.mk (0 : Int) (0 : Int) (api_Point.mk (0 : Int) (0 : Int))) from rfl) rfl rfl (((marigraphlaw11_Act.o (x := y106)).2 rfl)) fun w120 h121 u122 => ?_)
            replace h121 : Ow marigraphlaw11_Act.k 41 S78 w.heap.size w120 (.slice (some ⟨b111, 0, none⟩) 1 1) [y106] := h121
            rw [h119] at h121
            replace h80 := h80.wr u122 h123.not (ap_symm p116)
            replace h76 := h76.wr u122 h123.not
            replace h84 := h84.wr u122 h123.not (ap_symm p117)
            replace C := C.ow h123 u122
            refine W.e (k105 _ _ ?_)
            refine cw_seq fun K124 k125 => ?_
            refine cw_region (sv (asv (.bool true) rfl) (W.e (k125 _ _ ?_)))
            obtain ⟨o126, h129, h103⟩ := bnd_some h103
            refine cw_seq' (fun ρ w1 => ∃ S1 fp274 cs276 fp278 cs280, Cx No S w S1 w1 ∧ Has ρ [(5, .bool y5), (6, v17), (8, v30), (11, .pointer (some ⟨b111, 0, none⟩)), (12, .bool o126.1), (40, v75), (41, .int .i64 (y70.length : Int)), (42, .int .i64 x90)] ∧ Ow marigraphlaw11_Act.k 41 S1 w.heap.size w1 (.slice (some ⟨b111, 0, none⟩) 1 1) ([y118]) ∧ Sl (kSl marigraphlaw11_Act.k) S1 w1 v75 y70 ∧ Obo 67 head_Head.fs S1 w1 v17 o126.2.1 cs276 fp274 ∧ (∀ b, b ∈ fp274 → w.heap.size ≤ b) ∧ Obo 62 marigraphref11_Head.fs S1 w1 v30 o126.2.2 cs280 fp278 ∧ (∀ b, b ∈ fp278 → w.heap.size ≤ b) ∧ (∀ b, Blk (.slice (some ⟨b111, 0, none⟩) 1 1) b → ¬ b ∈ fp274) ∧ (∀ b, Blk (.slice (some ⟨b111, 0, none⟩) 1 1) b → ¬ b ∈ fp278) ∧ (∀ b, b ∈ fp274 → ¬ b ∈ fp278)) ?_ ?_
            · refine cw_seq fun K130 k131 => ?_
              refine cw_region (sv (rv_fieldAddr st41 rfl rfl) ?_)
              obtain ⟨cs132, h133, h134⟩ := Ow.cellsO h121 (show at_ [y118] (0 : Int) = some y118 from rfl)
              obtain rfl := marigraphlaw11_Act.r.1 h133
              refine sr (rw_el1 (off := 0) ag5 (h134 _ (Sm.refl _ _)) rfl rfl) ?_
              obtain ⟨y135, h136, h129⟩ := pur_some h129
              refine sv (rv_rem rfl rfl (by decide) h136) (W.e (k131 _ _ (cw_block ?_)))
              refine cw_seq fun K137 k138 => ?_
              refine cw_region (sv (rv_eql rfl rfl) (sv (asv (.bool (y135 == (5 : Int))) rfl) (W.e (k138 _ _ ?_))))
              rcases bif_some h129 with ⟨b139, h129⟩ | ⟨b139, h129⟩
              · refine cw_t rfl b139 (cw_region (sv (mvv v17 rfl) ?_))
                obtain ⟨y140, h141, h129⟩ := bnd_some h129
                refine sc (dc_call (vs := [v17]) can14 rfl ?_)
                refine (head_Head_Seal_w C.sb h80 h141).mono ?_
                rintro _ w142 ⟨S143, v145, cs147, fp148, rfl, c144, h146, h149, h150⟩
                refine ⟨_, rfl, ?_⟩
                have h151 : ∀ b, b ∈ fp81 → ¬ S78 b := fun b hb => (h80.lt b hb).2
                have p152 := ap_grow p88 h150 (fun b hb => (h84.lt b hb).1)
                have p153 := ap_grow (ap_symm p116) h150 (fun b hb => (h121.lt b hb).2)
                have h154 : ∀ b, b ∈ fp148 → w.heap.size ≤ b := fun b hb => (h150 b hb).elim (h82 b) (fun hl => Nat.le_trans C.up.size hl)
                replace h76 := h76.cf c144 h151
                replace h84 := h84.cf c144 h151 (ap_symm p88)
                replace h121 := h121.cf c144 h151 p116
                replace C := C.ofc c144 (fun b hb => .inr (h82 b hb))
                refine sv (mvv v30 rfl) ?_
                obtain ⟨y155, h156, h129⟩ := bnd_some h129
                have h157 := h84
                rw [h156] at h157
                replace h157 : Ob 62 (marigraphref11_Head.fs y155) _ _ _ _ _ := h157
                obtain ⟨y158, h159, h129⟩ := bnd_some h129
                refine sc (dc_call (vs := [v30]) can24 rfl ?_)
                refine (marigraphref11_Head_Seal_w C.sb h157 h159).mono ?_
                rintro _ w160 ⟨S161, v163, cs165, fp166, rfl, c162, h164, h167, h168⟩
                refine ⟨_, rfl, ?_⟩
                have h169 : ∀ b, b ∈ fp85 → ¬ S143 b := fun b hb => (h157.lt b hb).2
                have p170 := ap_grow (ap_symm p152) h168 (fun b hb => (h149.lt b hb).1)
                have p171 := ap_grow (ap_symm p117) h168 (fun b hb => (h121.lt b hb).2)
                have h172 : ∀ b, b ∈ fp166 → w.heap.size ≤ b := fun b hb => (h168 b hb).elim (h86 b) (fun hl => Nat.le_trans C.up.size hl)
                replace h146 := h146.cf c162 h169
                replace h149 := h149.cf c162 h169 p152
                replace h76 := h76.cf c162 h169
                replace h121 := h121.cf c162 h169 p117
                replace C := C.ofc c162 (fun b hb => .inr (h86 b hb))
                obtain ⟨y173, h174, h129⟩ := bnd_some h129
                refine sc (dc_call (vs := [v145, v163]) can23 rfl ?_)
                refine (marigraphref09_Same_w C.sb h146 h164 h174).mono ?_
                rintro _ w175 ⟨S176, rfl, c177⟩
                refine ⟨_, rfl, ?_⟩
                replace h149 := h149.cx c177
                replace h76 := h76.cx c177
                replace h167 := h167.cx c177
                replace h121 := h121.cx c177
                replace C := C.trans c177
                refine sv (asv (.bool y173) rfl) (W.e ?_)
                obtain rfl := Option.some.inj h129
                exact ⟨_, _, _, _, _, C, ⟨rfl, rfl, rfl, rfl, rfl, rfl, rfl, rfl, trivial⟩, h121, h76, h149, h154, h167, h172, (ap_symm p153), (ap_symm p171), (ap_symm p170)⟩
              · refine cw_f rfl b139 ?_
                refine cw_seq fun K178 k179 => ?_
                refine cw_region (sv (rv_eql rfl rfl) (sv (asv (.bool (y135 == (6 : Int))) rfl) (W.e (k179 _ _ ?_))))
                rcases bif_some h129 with ⟨b180, h129⟩ | ⟨b180, h129⟩
                · refine cw_t rfl b180 ?_
                  refine cw_drawU (.one 0 true (.one 1 true (.one 2 true (.one 4 true (.one 5 true (.one 6 true (.one 3 false (.one 7 false (.one 8 true (.one 9 true .done)))))))))) [(2, [1000]), (6, [1000])] [(3, [1000]), (7, [1000])] (fun c => bif Nat.beq c 1000 then (Or S78 (Blk (.slice (some ⟨b111, 0, none⟩) 1 1))) else No) fol (by kernel_rfl) fun w181 u182 => ?_
                  replace h80 := h80.nw u182
                  replace h76 := h76.nw u182
                  replace h84 := h84.nw u182
                  replace h121 := h121.nw u182
                  replace C := C.new u182
                  have h80d := h80
                  have h76d := h76
                  have h84d := h84
                  have h121d := h121
                  have m183 := Sm.refl (Or S78 (Blk (.slice (some ⟨b111, 0, none⟩) 1 1))) w181
                  refine mtv rfl rfl (mvv v17 rfl) (mtv rfl rfl (rv_fieldAddr st41 rfl rfl) ?_)
                  obtain ⟨cs184, h185, h186⟩ := Ow.cellsO h121 (show at_ [y118] (0 : Int) = some y118 from rfl)
                  obtain rfl := marigraphlaw11_Act.r.1 h185
                  refine mtr rfl rfl ⟨m183, trivial⟩ (fun w' hq => rw_el1 (off := 1) ag3 (h186 w' hq.1) rfl rfl) (mtv rfl rfl (mvv v30 rfl) (mtv rfl rfl (rv_fieldAddr st41 rfl rfl) ?_))
                  obtain ⟨cs187, h188, h189⟩ := Ow.cellsO h121 (show at_ [y118] (0 : Int) = some y118 from rfl)
                  obtain rfl := marigraphlaw11_Act.r.1 h188
                  refine mtr rfl rfl ⟨m183, trivial⟩ (fun w' hq => rw_el1 (off := 1) ag3 (h189 w' hq.1) rfl rfl) ?_
                  obtain ⟨y190, h191, h129⟩ := bnd_some h129
                  refine mtc rfl rfl (dc_call (vs := [v17, .int .i64 y118.Id]) can19 rfl ?_)
                  refine (head_Head_Drop_w C.sb h80 h191).mono ?_
                  rintro _ w192 ⟨S193, cs195, fp196, rfl, c194, h197, h198⟩
                  refine ⟨_, rfl, ?_⟩
                  have h199 : ∀ b, b ∈ fp81 → ¬ S78 b := fun b hb => (h80.lt b hb).2
                  have p200 := ap_grow p88 h198 (fun b hb => (h84.lt b hb).1)
                  have p201 := ap_grow (ap_symm p116) h198 (fun b hb => (h121.lt b hb).2)
                  have h202 : ∀ b, b ∈ fp196 → w.heap.size ≤ b := fun b hb => (h198 b hb).elim (h82 b) (fun hl => Nat.le_trans C.up.size hl)
                  replace h76 := h76.cf c194 h199
                  replace h84 := h84.cf c194 h199 (ap_symm p88)
                  replace h121 := h121.cf c194 h199 p116
                  replace C := C.ofc c194 (fun b hb => .inr (h82 b hb))
                  have z203 := (c194.up).size
                  have m204 := m183.wrC c194.up (by omega) (fun b hb hs => hs.elim (h199 b hb) ((ap_symm p116) b hb))
                  refine ⟨⟨m204, trivial⟩, ?_⟩
                  obtain ⟨y205, h206, h129⟩ := bnd_some h129
                  have h207 := h84
                  rw [h206] at h207
                  replace h207 : Ob 62 (marigraphref11_Head.fs y205) _ _ _ _ _ := h207
                  have h207d := h84d
                  rw [h206] at h207d
                  replace h207d : Ob 62 (marigraphref11_Head.fs y205) _ _ _ _ _ := h207d
                  obtain ⟨y208, h209, h129⟩ := bnd_some h129
                  refine mtc rfl rfl (dc_call (vs := [v30, .int .i64 y118.Id]) can25 rfl ?_)
                  refine (marigraphref11_Head_Drop_w C.sb h207 h209).mono ?_
                  rintro _ w210 ⟨S211, cs213, fp214, rfl, c212, h215, h216⟩
                  refine ⟨_, rfl, ?_⟩
                  have h217 : ∀ b, b ∈ fp85 → ¬ S193 b := fun b hb => (h207.lt b hb).2
                  have p218 := ap_grow (ap_symm p200) h216 (fun b hb => (h197.lt b hb).1)
                  have p219 := ap_grow (ap_symm p117) h216 (fun b hb => (h121.lt b hb).2)
                  have h220 : ∀ b, b ∈ fp214 → w.heap.size ≤ b := fun b hb => (h216 b hb).elim (h86 b) (fun hl => Nat.le_trans C.up.size hl)
                  replace h197 := h197.cf c212 h217 p200
                  replace h76 := h76.cf c212 h217
                  replace h121 := h121.cf c212 h217 p117
                  replace C := C.ofc c212 (fun b hb => .inr (h86 b hb))
                  have z221 := (c212.up).size
                  have m222 := m204.wrC c212.up (by omega) (fun b hb hs => hs.elim ((fun b hb hs => h217 b hb ((fun b h => c194.ge.le b h) b hs)) b hb) ((ap_symm p117) b hb))
                  refine ⟨⟨m222, trivial⟩, ?_⟩
                  refine mtv rfl rfl (rv_eql rfl rfl) (mtv rfl rfl (asv (.bool (y190.1 == y208.1)) rfl) (MT.e ?_))
                  obtain rfl := Option.some.inj h129
                  exact ⟨_, _, _, _, _, C, ⟨rfl, rfl, rfl, rfl, rfl, rfl, rfl, rfl, trivial⟩, h121, h76, h197, h202, h215, h220, (ap_symm p201), (ap_symm p219), (ap_symm p218)⟩
                · refine cw_f rfl b180 ?_
                  refine cw_drawU (.one 0 true (.one 1 true (.one 2 true (.one 3 true (.one 4 true (.one 6 true (.one 7 true (.one 8 true (.one 9 true (.one 10 true (.one 5 false (.one 11 false (.one 12 true (.one 13 true .done)))))))))))))) [(2, [1000]), (4, [1000]), (8, [1000]), (10, [1000])] [(5, [1000]), (11, [1000])] (fun c => bif Nat.beq c 1000 then (Or S78 (Blk (.slice (some ⟨b111, 0, none⟩) 1 1))) else No) fol (by kernel_rfl) fun w223 u224 => ?_
                  replace h80 := h80.nw u224
                  replace h84 := h84.nw u224
                  replace h121 := h121.nw u224
                  replace h76 := h76.nw u224
                  replace C := C.new u224
                  have h80d := h80
                  have h84d := h84
                  have h121d := h121
                  have h76d := h76
                  have m225 := Sm.refl (Or S78 (Blk (.slice (some ⟨b111, 0, none⟩) 1 1))) w223
                  refine mtv rfl rfl (mvv v17 rfl) (mtv rfl rfl (rv_fieldAddr st41 rfl rfl) ?_)
                  obtain ⟨cs226, h227, h228⟩ := Ow.cellsO h121 (show at_ [y118] (0 : Int) = some y118 from rfl)
                  obtain rfl := marigraphlaw11_Act.r.1 h227
                  refine mtr rfl rfl ⟨m225, trivial⟩ (fun w' hq => rw_el1 (off := 1) ag3 (h228 w' hq.1) rfl rfl) (mtv rfl rfl (rv_fieldAddr st41 rfl rfl) ?_)
                  obtain ⟨cs229, h230, h231⟩ := Ow.cellsO h121 (show at_ [y118] (0 : Int) = some y118 from rfl)
                  obtain rfl := marigraphlaw11_Act.r.1 h230
                  refine mtr rfl rfl ⟨m225, trivial⟩ (fun w' hq => rw_elA (off := 2) ag29 (h231 w' hq.1) rfl rfl rfl) (mtv rfl rfl (mvv v30 rfl) (mtv rfl rfl (rv_fieldAddr st41 rfl rfl) ?_))
                  obtain ⟨cs232, h233, h234⟩ := Ow.cellsO h121 (show at_ [y118] (0 : Int) = some y118 from rfl)
                  obtain rfl := marigraphlaw11_Act.r.1 h233
                  refine mtr rfl rfl ⟨m225, trivial⟩ (fun w' hq => rw_el1 (off := 1) ag3 (h234 w' hq.1) rfl rfl) (mtv rfl rfl (rv_fieldAddr st41 rfl rfl) ?_)
                  obtain ⟨cs235, h236, h237⟩ := Ow.cellsO h121 (show at_ [y118] (0 : Int) = some y118 from rfl)
                  obtain rfl := marigraphlaw11_Act.r.1 h236
                  refine mtr rfl rfl ⟨m225, trivial⟩ (fun w' hq => rw_elA (off := 2) ag29 (h237 w' hq.1) rfl rfl rfl) ?_
                  obtain ⟨y238, h239, h129⟩ := bnd_some h129
                  refine mtc rfl rfl (dc_call (vs := [v17, .int .i64 y118.Id, .agg (List.toArray [.int .i64 y118.P.T, .int .i64 y118.P.V])]) can12 rfl ?_)
                  refine (head_Head_Add_w C.sb h80 ((api_Point.o (x := y118.P)).2 rfl) h239).mono ?_
                  rintro _ w240 ⟨S241, cs243, fp244, rfl, c242, h245, h246⟩
                  refine ⟨_, rfl, ?_⟩
                  have h247 : ∀ b, b ∈ fp81 → ¬ S78 b := fun b hb => (h80.lt b hb).2
                  have p248 := ap_grow p88 h246 (fun b hb => (h84.lt b hb).1)
                  have p249 := ap_grow (ap_symm p116) h246 (fun b hb => (h121.lt b hb).2)
                  have h250 : ∀ b, b ∈ fp244 → w.heap.size ≤ b := fun b hb => (h246 b hb).elim (h82 b) (fun hl => Nat.le_trans C.up.size hl)
                  replace h76 := h76.cf c242 h247
                  replace h84 := h84.cf c242 h247 (ap_symm p88)
                  replace h121 := h121.cf c242 h247 p116
                  replace C := C.ofc c242 (fun b hb => .inr (h82 b hb))
                  have z251 := (c242.up).size
                  have m252 := m225.wrC c242.up (by omega) (fun b hb hs => hs.elim (h247 b hb) ((ap_symm p116) b hb))
                  refine ⟨⟨m252, trivial⟩, ?_⟩
                  obtain ⟨y253, h254, h129⟩ := bnd_some h129
                  have h255 := h84
                  rw [h254] at h255
                  replace h255 : Ob 62 (marigraphref11_Head.fs y253) _ _ _ _ _ := h255
                  have h255d := h84d
                  rw [h254] at h255d
                  replace h255d : Ob 62 (marigraphref11_Head.fs y253) _ _ _ _ _ := h255d
                  obtain ⟨y256, h257, h129⟩ := bnd_some h129
                  refine mtc rfl rfl (dc_call (vs := [v30, .int .i64 y118.Id, .agg (List.toArray [.int .i64 y118.P.T, .int .i64 y118.P.V])]) can26 rfl ?_)
                  refine (marigraphref11_Head_Add_w C.sb h255 ((api_Point.o (x := y118.P)).2 rfl) h257).mono ?_
                  rintro _ w258 ⟨S259, cs261, fp262, rfl, c260, h263, h264⟩
                  refine ⟨_, rfl, ?_⟩
                  have h265 : ∀ b, b ∈ fp85 → ¬ S241 b := fun b hb => (h255.lt b hb).2
                  have p266 := ap_grow (ap_symm p248) h264 (fun b hb => (h245.lt b hb).1)
                  have p267 := ap_grow (ap_symm p117) h264 (fun b hb => (h121.lt b hb).2)
                  have h268 : ∀ b, b ∈ fp262 → w.heap.size ≤ b := fun b hb => (h264 b hb).elim (h86 b) (fun hl => Nat.le_trans C.up.size hl)
                  replace h245 := h245.cf c260 h265 p248
                  replace h76 := h76.cf c260 h265
                  replace h121 := h121.cf c260 h265 p117
                  replace C := C.ofc c260 (fun b hb => .inr (h86 b hb))
                  have z269 := (c260.up).size
                  have m270 := m252.wrC c260.up (by omega) (fun b hb hs => hs.elim ((fun b hb hs => h265 b hb ((fun b h => c242.ge.le b h) b hs)) b hb) ((ap_symm p117) b hb))
                  refine ⟨⟨m270, trivial⟩, ?_⟩
                  refine mtv rfl rfl (rv_eql rfl rfl) (mtv rfl rfl (asv (.bool (y238.1 == y256.1)) rfl) (MT.e ?_))
                  obtain rfl := Option.some.inj h129
                  exact ⟨_, _, _, _, _, C, ⟨rfl, rfl, rfl, rfl, rfl, rfl, rfl, rfl, trivial⟩, h121, h76, h245, h250, h263, h268, (ap_symm p249), (ap_symm p267), (ap_symm p266)⟩
            · rintro ρ w272 ⟨S271, fp274, cs276, fp278, cs280, C, h284, h121, h76, h273, h275, h277, h279, p281, p282, p283⟩
              refine h284.cw fun ρ => ?_
              clear h284
              refine cw_seq fun K285 k286 => ?_
              refine cw_region (sv (mvv v17 rfl) ?_)
              obtain ⟨y287, h288, h103⟩ := bnd_some h103
              refine sc (dc_call (vs := [v17]) can21 rfl ?_)
              refine (head_Head_Last_w C.sb h273 h288).mono ?_
              rintro _ w289 ⟨S290, rfl, c291⟩
              refine ⟨_, rfl, ?_⟩
              replace h273 := h273.cx c291
              replace h76 := h76.cx c291
              replace h277 := h277.cx c291
              replace h121 := h121.cx c291
              replace C := C.trans c291
              refine sv (mvv (.tuple (List.toArray [.int .i64 y287.1, .bool y287.2])) rfl) (sv (rv_extract rfl rfl) (sv (rv_extract rfl rfl) (sv (asv (.int .i64 y287.1) rfl) (sv (asv (.bool y287.2) rfl) (W.e (k286 _ _ ?_))))))
              obtain ⟨o292, h295, h103⟩ := bnd_some h103
              refine cw_seq' (fun ρ w1 => ∃ S1, Cx No S w S1 w1 ∧ Has ρ [(5, .bool y5), (6, v17), (8, v30), (40, v75), (41, .int .i64 (y70.length : Int)), (42, .int .i64 x90), (132, .bool o292)] ∧ Sl (kSl marigraphlaw11_Act.k) S1 w1 v75 y70 ∧ Obo 67 head_Head.fs S1 w1 v17 o126.2.1 cs276 fp274 ∧ Obo 62 marigraphref11_Head.fs S1 w1 v30 o126.2.2 cs280 fp278 ∧ (∀ b, b ∈ fp274 → ¬ b ∈ fp278)) ?_ ?_
              · refine cw_drawU (.one 0 true (.one 1 true (.one 2 true (.one 3 true (.one 4 true (.one 5 true (.one 6 true (.one 7 true (.one 8 true (.one 9 true (.one 10 true (.one 11 true (.one 12 true (.one 13 true (.one 14 true (.one 15 true (.one 16 true (.one 17 true (.one 18 true (.one 19 true (.one 21 true (.one 22 true (.one 23 true (.one 24 true (.one 25 true (.one 20 false (.one 26 true (.one 27 true (.one 28 true (.one 29 true (.one 31 true (.one 30 false (.one 32 false (.one 33 false (.one 34 true (.one 35 true (.one 36 true (.one 37 true (.one 38 true (.one 39 true (.one 41 true (.one 42 true (.one 43 true (.one 40 false (.one 44 false (.one 45 false (.one 46 true (.one 47 true .done)))))))))))))))))))))))))))))))))))))))))))))))) [(7, [9]), (15, [9]), (24, [9]), (39, [9]), (43, [9])] [(20, [9]), (30, [9]), (32, [9]), (33, [9]), (40, [9]), (44, [9]), (45, [9])] (fun c => bif Nat.beq c 9 then (fun _ => True) else No) fol (by kernel_rfl) fun w296 u297 => ?_
                replace h273 := h273.nw u297
                replace h277 := h277.nw u297
                replace h121 := h121.nw u297
                replace h76 := h76.nw u297
                replace C := C.new u297
                have h273d := h273
                have h277d := h277
                have h121d := h121
                have h76d := h76
                have m298 := Sm.refl (fun _ => True) w296
                refine mtv rfl rfl (mvv (.bool o126.1) rfl) (mtv rfl rfl (rv_not rfl) (mtv rfl rfl (mvv (.bool (!o126.1)) rfl) ?_))
                rcases bif_some h295 with ⟨b299, h295⟩ | ⟨b299, h295⟩
                · refine MT.n rfl rfl (gn rfl rfl rfl b299) trivial (MT.n rfl rfl (gn rfl rfl rfl b299) trivial (MT.n rfl rfl (gn rfl rfl rfl b299) trivial (MT.n rfl rfl (gn rfl rfl rfl b299) trivial (MT.n rfl rfl (gn rfl rfl rfl b299) ⟨m298, trivial⟩ (MT.n rfl rfl (gn rfl rfl rfl b299) trivial (mtv rfl rfl (ptk (.bool true) rfl b299 rfl) (mtv rfl rfl (mvv (.bool true) rfl) (MT.n rfl rfl (gn rfl rfl rfl rfl) trivial (MT.n rfl rfl (gn rfl rfl rfl rfl) trivial (MT.n rfl rfl (gn rfl rfl rfl rfl) trivial (MT.n rfl rfl (gn rfl rfl rfl rfl) trivial ?_)))))))))))
                  refine MT.n rfl rfl (gn rfl rfl rfl rfl) ⟨m298, trivial⟩ (MT.n rfl rfl (gn rfl rfl rfl rfl) trivial (mtv rfl rfl (ptk (.bool true) rfl rfl rfl) (mtv rfl rfl (mvv (.bool true) rfl) (MT.n rfl rfl (gn rfl rfl rfl rfl) trivial (MT.n rfl rfl (gn rfl rfl rfl rfl) trivial (MT.n rfl rfl (gn rfl rfl rfl rfl) trivial (MT.n rfl rfl (gn rfl rfl rfl rfl) trivial (MT.n rfl rfl (gn rfl rfl rfl rfl) ⟨m298, trivial⟩ (MT.n rfl rfl (gn rfl rfl rfl rfl) trivial (MT.m rfl rfl (gn rfl rfl rfl rfl) ⟨m298, trivial⟩ (MT.n rfl rfl (gn rfl rfl rfl rfl) trivial ?_)))))))))))
                  refine mtv rfl rfl (ptk (.bool true) rfl rfl rfl) (mtv rfl rfl (mvv (.bool true) rfl) (MT.n rfl rfl (gn rfl rfl rfl rfl) trivial (MT.n rfl rfl (gn rfl rfl rfl rfl) trivial (MT.m rfl rfl (gn rfl rfl rfl rfl) ⟨m298, trivial⟩ (MT.m rfl rfl (gn rfl rfl rfl rfl) ⟨m298, trivial⟩ (MT.m rfl rfl (gn rfl rfl rfl rfl) ⟨m298, trivial⟩ (MT.n rfl rfl (gn rfl rfl rfl rfl) trivial (mtv rfl rfl (ptk (.bool true) rfl rfl rfl) (mtv rfl rfl (mvv (.bool true) rfl) (MT.n rfl rfl (gn rfl rfl rfl rfl) trivial (MT.n rfl rfl (gn rfl rfl rfl rfl) trivial ?_)))))))))))
                  refine MT.n rfl rfl (gn rfl rfl rfl rfl) ⟨m298, trivial⟩ (MT.n rfl rfl (gn rfl rfl rfl rfl) trivial (MT.n rfl rfl (gn rfl rfl rfl rfl) trivial (MT.n rfl rfl (gn rfl rfl rfl rfl) ⟨m298, trivial⟩ (MT.m rfl rfl (gn rfl rfl rfl rfl) ⟨m298, trivial⟩ (MT.m rfl rfl (gn rfl rfl rfl rfl) ⟨m298, trivial⟩ (MT.m rfl rfl (gn rfl rfl rfl rfl) ⟨m298, trivial⟩ (MT.n rfl rfl (gn rfl rfl rfl rfl) trivial (mtv rfl rfl (ptk (.bool true) rfl rfl rfl) (MT.e ?_)))))))))
                  obtain rfl := Option.some.inj h295
                  exact ⟨_, C, ⟨rfl, rfl, rfl, rfl, rfl, rfl, rfl, trivial⟩, h76, h273, h277, p283⟩
                · refine MT.vv rfl rfl (gy rfl rfl rfl b299) (mvv (.int .i64 y287.1) rfl) (MT.vv rfl rfl (gy rfl rfl rfl b299) (mvv v30 rfl) ?_)
                  obtain ⟨y300, h301, h295⟩ := bnd_some h295
                  have h302 := h277
                  rw [h301] at h302
                  replace h302 : Ob 62 (marigraphref11_Head.fs y300) _ _ _ _ _ := h302
                  have h302d := h302
                  refine MT.vv rfl rfl (gy rfl rfl rfl b299) (rv_nilcheck rfl h302.ptr) (MT.vv rfl rfl (gy rfl rfl rfl b299) (rv_fieldAddr (b := pb v30) (o := 0) st62 rfl h302.ptr) (MT.r rfl rfl (gy rfl rfl rfl b299) ⟨m298, trivial⟩ (fun w' hq => rw_ofieldU (i := 2) (c := .int .i64 y300.Last) h302 (hq.1.mono fun _ _ => trivial) ag3 (h302.sc (i := 2) rfl) rfl) (MT.vv rfl rfl (gy rfl rfl rfl b299) (rv_neq rfl rfl) (mtv rfl rfl (pfk (.bool (y287.1 != y300.Last)) rfl b299 rfl) (mtv rfl rfl (mvv (.bool (y287.1 != y300.Last)) rfl) ?_)))))
                  rcases bif_some h295 with ⟨b303, h295⟩ | ⟨b303, h295⟩
                  · refine MT.n rfl rfl (gn rfl rfl rfl b303) trivial (MT.n rfl rfl (gn rfl rfl rfl b303) trivial (MT.n rfl rfl (gn rfl rfl rfl b303) trivial (MT.n rfl rfl (gn rfl rfl rfl b303) trivial (MT.n rfl rfl (gn rfl rfl rfl b303) ⟨m298, trivial⟩ (MT.n rfl rfl (gn rfl rfl rfl b303) trivial (mtv rfl rfl (ptk (.bool true) rfl b303 rfl) (mtv rfl rfl (mvv (.bool true) rfl) (MT.n rfl rfl (gn rfl rfl rfl rfl) trivial (MT.n rfl rfl (gn rfl rfl rfl rfl) trivial (MT.n rfl rfl (gn rfl rfl rfl rfl) trivial (MT.n rfl rfl (gn rfl rfl rfl rfl) trivial ?_)))))))))))
                    refine MT.n rfl rfl (gn rfl rfl rfl rfl) ⟨m298, trivial⟩ (MT.n rfl rfl (gn rfl rfl rfl rfl) trivial (MT.m rfl rfl (gn rfl rfl rfl rfl) ⟨m298, trivial⟩ (MT.n rfl rfl (gn rfl rfl rfl rfl) trivial (mtv rfl rfl (ptk (.bool true) rfl rfl rfl) (mtv rfl rfl (mvv (.bool true) rfl) (MT.n rfl rfl (gn rfl rfl rfl rfl) trivial (MT.n rfl rfl (gn rfl rfl rfl rfl) trivial (MT.m rfl rfl (gn rfl rfl rfl rfl) ⟨m298, trivial⟩ (MT.m rfl rfl (gn rfl rfl rfl rfl) ⟨m298, trivial⟩ (MT.m rfl rfl (gn rfl rfl rfl rfl) ⟨m298, trivial⟩ (MT.n rfl rfl (gn rfl rfl rfl rfl) trivial ?_)))))))))))
                    refine mtv rfl rfl (ptk (.bool true) rfl rfl rfl) (mtv rfl rfl (mvv (.bool true) rfl) (MT.n rfl rfl (gn rfl rfl rfl rfl) trivial (MT.n rfl rfl (gn rfl rfl rfl rfl) trivial (MT.n rfl rfl (gn rfl rfl rfl rfl) ⟨m298, trivial⟩ (MT.n rfl rfl (gn rfl rfl rfl rfl) trivial (MT.n rfl rfl (gn rfl rfl rfl rfl) trivial (MT.n rfl rfl (gn rfl rfl rfl rfl) ⟨m298, trivial⟩ (MT.m rfl rfl (gn rfl rfl rfl rfl) ⟨m298, trivial⟩ (MT.m rfl rfl (gn rfl rfl rfl rfl) ⟨m298, trivial⟩ (MT.m rfl rfl (gn rfl rfl rfl rfl) ⟨m298, trivial⟩ (MT.n rfl rfl (gn rfl rfl rfl rfl) trivial ?_)))))))))))
                    refine mtv rfl rfl (ptk (.bool true) rfl rfl rfl) (MT.e ?_)
                    obtain rfl := Option.some.inj h295
                    exact ⟨_, C, ⟨rfl, rfl, rfl, rfl, rfl, rfl, rfl, trivial⟩, h76, h273, h277, p283⟩
                  · refine MT.vv rfl rfl (gy rfl rfl rfl b303) (mvv (.bool y287.2) rfl) (MT.vv rfl rfl (gy rfl rfl rfl b303) (mvv v30 rfl) (MT.vv rfl rfl (gy rfl rfl rfl b303) (rv_nilcheck rfl h302.ptr) (MT.vv rfl rfl (gy rfl rfl rfl b303) (rv_fieldAddr (b := pb v30) (o := 0) st62 rfl h302.ptr) (MT.r rfl rfl (gy rfl rfl rfl b303) ⟨m298, trivial⟩ (fun w' hq => rw_ofieldU (i := 3) (c := .bool y300.Any) h302 (hq.1.mono fun _ _ => trivial) ag4 (h302.sc (i := 3) rfl) rfl) (MT.vv rfl rfl (gy rfl rfl rfl b303) (rv_bneq Try.underlying4 rfl rfl) (mtv rfl rfl (pfk (.bool (!(y287.2 == y300.Any))) rfl b303 rfl) (mtv rfl rfl (mvv (.bool (!(y287.2 == y300.Any))) rfl) ?_)))))))
                    rcases bif_some h295 with ⟨b304, h295⟩ | ⟨b304, h295⟩
                    · refine MT.n rfl rfl (gn rfl rfl rfl b304) trivial (MT.n rfl rfl (gn rfl rfl rfl b304) trivial (MT.n rfl rfl (gn rfl rfl rfl b304) trivial (MT.n rfl rfl (gn rfl rfl rfl b304) trivial (MT.n rfl rfl (gn rfl rfl rfl b304) ⟨m298, trivial⟩ (MT.n rfl rfl (gn rfl rfl rfl b304) trivial (MT.m rfl rfl (gn rfl rfl rfl b304) ⟨m298, trivial⟩ (MT.n rfl rfl (gn rfl rfl rfl b304) trivial (mtv rfl rfl (ptk (.bool true) rfl b304 rfl) (mtv rfl rfl (mvv (.bool true) rfl) (MT.n rfl rfl (gn rfl rfl rfl rfl) trivial (MT.n rfl rfl (gn rfl rfl rfl rfl) trivial ?_)))))))))))
                      refine MT.m rfl rfl (gn rfl rfl rfl rfl) ⟨m298, trivial⟩ (MT.m rfl rfl (gn rfl rfl rfl rfl) ⟨m298, trivial⟩ (MT.m rfl rfl (gn rfl rfl rfl rfl) ⟨m298, trivial⟩ (MT.n rfl rfl (gn rfl rfl rfl rfl) trivial (mtv rfl rfl (ptk (.bool true) rfl rfl rfl) (mtv rfl rfl (mvv (.bool true) rfl) (MT.n rfl rfl (gn rfl rfl rfl rfl) trivial (MT.n rfl rfl (gn rfl rfl rfl rfl) trivial (MT.n rfl rfl (gn rfl rfl rfl rfl) ⟨m298, trivial⟩ (MT.n rfl rfl (gn rfl rfl rfl rfl) trivial (MT.n rfl rfl (gn rfl rfl rfl rfl) trivial (MT.n rfl rfl (gn rfl rfl rfl rfl) ⟨m298, trivial⟩ ?_)))))))))))
                      refine MT.m rfl rfl (gn rfl rfl rfl rfl) ⟨m298, trivial⟩ (MT.m rfl rfl (gn rfl rfl rfl rfl) ⟨m298, trivial⟩ (MT.m rfl rfl (gn rfl rfl rfl rfl) ⟨m298, trivial⟩ (MT.n rfl rfl (gn rfl rfl rfl rfl) trivial (mtv rfl rfl (ptk (.bool true) rfl rfl rfl) (MT.e ?_)))))
                      obtain rfl := Option.some.inj h295
                      exact ⟨_, C, ⟨rfl, rfl, rfl, rfl, rfl, rfl, rfl, trivial⟩, h76, h273, h277, p283⟩
                    · refine MT.vv rfl rfl (gy rfl rfl rfl b304) (mvv v17 rfl) (MT.vv rfl rfl (gy rfl rfl rfl b304) (mvv v30 rfl) (MT.vv rfl rfl (gy rfl rfl rfl b304) (rv_nilcheck rfl h302.ptr) (MT.vv rfl rfl (gy rfl rfl rfl b304) (rv_fieldAddr (b := pb v30) (o := 0) st62 rfl h302.ptr) ?_)))
                      obtain ⟨c305, h306, h307⟩ := h302.sl (i := 1) rfl
                      refine MT.r rfl rfl (gy rfl rfl rfl b304) ⟨m298, trivial⟩ (fun w' hq => rw_ofieldU (i := 1) (c := c305) h302 (hq.1.mono fun _ _ => trivial) ag38 h306 rfl) (MT.vv rfl rfl (gy rfl rfl rfl b304) (rv_lenS el38 h307 rfl) ?_)
                      obtain ⟨y308, h309, h295⟩ := bnd_some h295
                      refine MT.c rfl rfl (gy rfl rfl rfl b304) (dc_call (vs := [v17]) can13 rfl ?_)
                      refine (head_Head_Len_w C.sb h273 h309).mono ?_
                      rintro _ w310 ⟨S311, rfl, c312⟩
                      refine ⟨_, rfl, ?_⟩
                      replace h273 := h273.cx c312
                      replace h302 := h302.cx c312
                      replace h277 := h277.cx c312
                      replace h121 := h121.cx c312
                      replace h76 := h76.cx c312
                      replace C := C.trans c312
                      have z313 := (c312.up).size
                      have m314 := m298.nx c312.up (by omega)
                      refine ⟨⟨m314, trivial⟩, ?_⟩
                      refine MT.vv rfl rfl (gy rfl rfl rfl b304) (rv_neq rfl rfl) (mtv rfl rfl (pfk (.bool (y308 != (y300.L.length : Int))) rfl b304 rfl) (mtv rfl rfl (mvv (.bool (y308 != (y300.L.length : Int))) rfl) ?_))
                      rcases bif_some h295 with ⟨b315, h295⟩ | ⟨b315, h295⟩
                      · refine MT.n rfl rfl (gn rfl rfl rfl b315) trivial (MT.n rfl rfl (gn rfl rfl rfl b315) trivial (MT.m rfl rfl (gn rfl rfl rfl b315) ⟨m314, trivial⟩ (MT.m rfl rfl (gn rfl rfl rfl b315) ⟨m314, trivial⟩ (MT.m rfl rfl (gn rfl rfl rfl b315) ⟨m314, trivial⟩ (MT.n rfl rfl (gn rfl rfl rfl b315) trivial (mtv rfl rfl (ptk (.bool true) rfl b315 rfl) (mtv rfl rfl (mvv (.bool true) rfl) (MT.n rfl rfl (gn rfl rfl rfl rfl) trivial (MT.n rfl rfl (gn rfl rfl rfl rfl) trivial (MT.n rfl rfl (gn rfl rfl rfl rfl) ⟨m314, trivial⟩ (MT.n rfl rfl (gn rfl rfl rfl rfl) trivial ?_)))))))))))
                        refine MT.n rfl rfl (gn rfl rfl rfl rfl) trivial (MT.n rfl rfl (gn rfl rfl rfl rfl) ⟨m314, trivial⟩ (MT.m rfl rfl (gn rfl rfl rfl rfl) ⟨m314, trivial⟩ (MT.m rfl rfl (gn rfl rfl rfl rfl) ⟨m314, trivial⟩ (MT.m rfl rfl (gn rfl rfl rfl rfl) ⟨m314, trivial⟩ (MT.n rfl rfl (gn rfl rfl rfl rfl) trivial (mtv rfl rfl (ptk (.bool true) rfl rfl rfl) (MT.e ?_)))))))
                        obtain rfl := Option.some.inj h295
                        exact ⟨_, C, ⟨rfl, rfl, rfl, rfl, rfl, rfl, rfl, trivial⟩, h76, h273, h277, p283⟩
                      · refine MT.vv rfl rfl (gy rfl rfl rfl b315) (mvv v17 rfl) (MT.vv rfl rfl (gy rfl rfl rfl b315) (mvv v30 rfl) ?_)
                        obtain ⟨y316, h317, h295⟩ := bnd_some h295
                        refine MT.c rfl rfl (gy rfl rfl rfl b315) (dc_call (vs := [v17]) can20 rfl ?_)
                        refine (head_Head_Ids_w C.sb h273 h317).mono ?_
                        rintro _ w318 ⟨S319, v321, rfl, c320, h322⟩
                        refine ⟨_, rfl, ?_⟩
                        have p323 := ap_fresh (fun b hb => (h322.lt b hb).1) (fun b hb => (h273.lt b hb).1)
                        have p324 := ap_fresh (fun b hb => (h322.lt b hb).1) (fun b hb => (h302.lt b hb).1)
                        have p325 := ap_fresh (fun b hb => (h322.lt b hb).1) (fun b hb => (h121.lt b hb).2)
                        replace h322 := h322.base C.up.size
                        replace h273 := h273.cx c320
                        replace h302 := h302.cx c320
                        replace h277 := h277.cx c320
                        replace h121 := h121.cx c320
                        replace h76 := h76.cx c320
                        replace C := C.trans c320
                        have z326 := (c320.up).size
                        have m327 := m314.nx c320.up (by omega)
                        refine ⟨⟨m327, trivial⟩, ?_⟩
                        obtain ⟨y328, h329, h295⟩ := bnd_some h295
                        refine MT.c rfl rfl (gy rfl rfl rfl b315) (dc_call (vs := [v30]) can28 rfl ?_)
                        refine (marigraphref11_Head_Ids_w C.sb h302 h329).mono ?_
                        rintro _ w330 ⟨S331, v333, rfl, c332, h334⟩
                        refine ⟨_, rfl, ?_⟩
                        have p335 := ap_fresh (fun b hb => (h334.lt b hb).1) (fun b hb => (h273.lt b hb).1)
                        have p336 := ap_fresh (fun b hb => (h334.lt b hb).1) (fun b hb => (h302.lt b hb).1)
                        have p337 := ap_fresh (fun b hb => (h334.lt b hb).1) (fun b hb => (h121.lt b hb).2)
                        have p338 := ap_fresh (fun b hb => (h334.lt b hb).1) (fun b hb => (h322.lt b hb).2)
                        replace h334 := h334.base C.up.size
                        replace h273 := h273.cx c332
                        replace h302 := h302.cx c332
                        replace h277 := h277.cx c332
                        replace h121 := h121.cx c332
                        replace h76 := h76.cx c332
                        replace h322 := h322.cx c332
                        replace C := C.trans c332
                        have z339 := (c332.up).size
                        have m340 := m327.nx c332.up (by omega)
                        refine ⟨⟨m340, trivial⟩, ?_⟩
                        replace h273 := h273.or (ap_symm p323)
                        replace h302 := h302.or (ap_symm p324)
                        replace h277 := h277.or (ap_symm p324)
                        replace h121 := h121.or (ap_symm p325)
                        replace h76 := h76.or (T := Blk v321)
                        replace h334 := h334.or p338
                        replace C := C.sealO h322
                        replace h322 := h322.sealed
                        replace h273 := h273.or (ap_symm p335)
                        replace h302 := h302.or (ap_symm p336)
                        replace h277 := h277.or (ap_symm p336)
                        replace h121 := h121.or (ap_symm p337)
                        replace h76 := h76.or (T := Blk v333)
                        replace h322 := h322.or (T := Blk v333)
                        replace C := C.sealO h334
                        replace h334 := h334.sealed
                        obtain ⟨y341, h342, h295⟩ := bnd_some h295
                        refine MT.c rfl rfl (gy rfl rfl rfl b315) (dc_call (vs := [v321, v333]) can27 rfl ?_)
                        refine (marigraphref04_Ints_w C.sb h322 h334 h342).mono ?_
                        rintro _ w343 ⟨S344, rfl, c345⟩
                        refine ⟨_, rfl, ?_⟩
                        replace h273 := h273.cx c345
                        replace h302 := h302.cx c345
                        replace h277 := h277.cx c345
                        replace h121 := h121.cx c345
                        replace h76 := h76.cx c345
                        replace C := C.trans c345
                        have z346 := (c345.up).size
                        have m347 := m340.nx c345.up (by omega)
                        refine ⟨⟨m347, trivial⟩, ?_⟩
                        refine MT.vv rfl rfl (gy rfl rfl rfl b315) (rv_not rfl) (mtv rfl rfl (pfk (.bool (!y341)) rfl b315 rfl) (mtv rfl rfl (mvv (.bool (!y341)) rfl) ?_))
                        rcases bif_some h295 with ⟨b348, h295⟩ | ⟨b348, h295⟩
                        · refine MT.n rfl rfl (gn rfl rfl rfl b348) trivial (MT.n rfl rfl (gn rfl rfl rfl b348) trivial (MT.n rfl rfl (gn rfl rfl rfl b348) ⟨m347, trivial⟩ (MT.n rfl rfl (gn rfl rfl rfl b348) trivial (MT.n rfl rfl (gn rfl rfl rfl b348) trivial (MT.n rfl rfl (gn rfl rfl rfl b348) ⟨m347, trivial⟩ (MT.m rfl rfl (gn rfl rfl rfl b348) ⟨m347, trivial⟩ (MT.m rfl rfl (gn rfl rfl rfl b348) ⟨m347, trivial⟩ (MT.m rfl rfl (gn rfl rfl rfl b348) ⟨m347, trivial⟩ (MT.n rfl rfl (gn rfl rfl rfl b348) trivial (mtv rfl rfl (ptk (.bool true) rfl b348 rfl) (MT.e ?_)))))))))))
                          obtain rfl := Option.some.inj h295
                          exact ⟨_, C, ⟨rfl, rfl, rfl, rfl, rfl, rfl, rfl, trivial⟩, h76, h273, h277, p283⟩
                        · refine MT.vv rfl rfl (gy rfl rfl rfl b348) (mvv v17 rfl) (MT.vv rfl rfl (gy rfl rfl rfl b348) (rv_fieldAddr st41 rfl rfl) ?_)
                          obtain ⟨cs349, h350, h351⟩ := Ow.cellsO h121d (show at_ [y118] (0 : Int) = some y118 from rfl)
                          obtain rfl := marigraphlaw11_Act.r.1 h350
                          refine MT.r rfl rfl (gy rfl rfl rfl b348) ⟨m347, trivial⟩ (fun w' hq => rw_el1 (off := 1) ag3 (h351 w' (hq.1.mono fun _ _ => trivial)) rfl rfl) (MT.vv rfl rfl (gy rfl rfl rfl b348) (mvv v30 rfl) (MT.vv rfl rfl (gy rfl rfl rfl b348) (rv_fieldAddr st41 rfl rfl) ?_))
                          obtain ⟨cs352, h353, h354⟩ := Ow.cellsO h121d (show at_ [y118] (0 : Int) = some y118 from rfl)
                          obtain rfl := marigraphlaw11_Act.r.1 h353
                          refine MT.r rfl rfl (gy rfl rfl rfl b348) ⟨m347, trivial⟩ (fun w' hq => rw_el1 (off := 1) ag3 (h354 w' (hq.1.mono fun _ _ => trivial)) rfl rfl) ?_
                          obtain ⟨y355, h356, h295⟩ := bnd_some h295
                          refine MT.c rfl rfl (gy rfl rfl rfl b348) (dc_call (vs := [v17, .int .i64 y118.Id]) can16 rfl ?_)
                          refine (head_Head_Points_w C.sb h273 h356).mono ?_
                          rintro _ w357 ⟨S358, v360, rfl, c359, h361⟩
                          refine ⟨_, rfl, ?_⟩
                          have p362 := ap_fresh (fun b hb => (h361.lt b hb).1) (fun b hb => (h273.lt b hb).1)
                          have p363 := ap_fresh (fun b hb => (h361.lt b hb).1) (fun b hb => (h302.lt b hb).1)
                          replace h361 := h361.base C.up.size
                          replace h273 := h273.cx c359
                          replace h76 := h76.cx c359
                          replace h302 := h302.cx c359
                          replace h277 := h277.cx c359
                          replace C := C.trans c359
                          have z364 := (c359.up).size
                          have m365 := m347.nx c359.up (by omega)
                          refine ⟨⟨m365, trivial⟩, ?_⟩
                          obtain ⟨y366, h367, h295⟩ := bnd_some h295
                          refine MT.c rfl rfl (gy rfl rfl rfl b348) (dc_call (vs := [v30, .int .i64 y118.Id]) can29 rfl ?_)
                          refine (marigraphref11_Head_Points_w C.sb h302 h367).mono ?_
                          rintro _ w368 ⟨S369, v371, rfl, c370, h372⟩
                          refine ⟨_, rfl, ?_⟩
                          have p373 := ap_fresh (fun b hb => (h372.lt b hb).1) (fun b hb => (h273.lt b hb).1)
                          have p374 := ap_fresh (fun b hb => (h372.lt b hb).1) (fun b hb => (h302.lt b hb).1)
                          have p375 := ap_fresh (fun b hb => (h372.lt b hb).1) (fun b hb => (h361.lt b hb).2)
                          replace h372 := h372.base C.up.size
                          replace h273 := h273.cx c370
                          replace h76 := h76.cx c370
                          replace h302 := h302.cx c370
                          replace h277 := h277.cx c370
                          replace h361 := h361.cx c370
                          replace C := C.trans c370
                          have z376 := (c370.up).size
                          have m377 := m365.nx c370.up (by omega)
                          refine ⟨⟨m377, trivial⟩, ?_⟩
                          replace h372 := h372.or p375
                          replace h273 := h273.or (ap_symm p362)
                          replace h76 := h76.or (T := Blk v360)
                          replace h302 := h302.or (ap_symm p363)
                          replace h277 := h277.or (ap_symm p363)
                          replace C := C.sealO h361
                          replace h361 := h361.sealed
                          replace h273 := h273.or (ap_symm p373)
                          replace h76 := h76.or (T := Blk v371)
                          replace h302 := h302.or (ap_symm p374)
                          replace h277 := h277.or (ap_symm p374)
                          replace h361 := h361.or (T := Blk v371)
                          replace C := C.sealO h372
                          replace h372 := h372.sealed
                          obtain ⟨y378, h379, h295⟩ := bnd_some h295
                          refine MT.c rfl rfl (gy rfl rfl rfl b348) (dc_call (vs := [v360, v371]) can15 rfl ?_)
                          refine (marigraphref04_Same_w C.sb h361 h372 h379).mono ?_
                          rintro _ w380 ⟨S381, rfl, c382⟩
                          refine ⟨_, rfl, ?_⟩
                          replace h273 := h273.cx c382
                          replace h76 := h76.cx c382
                          replace h302 := h302.cx c382
                          replace h277 := h277.cx c382
                          replace C := C.trans c382
                          have z383 := (c382.up).size
                          have m384 := m377.nx c382.up (by omega)
                          refine ⟨⟨m384, trivial⟩, ?_⟩
                          refine MT.vv rfl rfl (gy rfl rfl rfl b348) (rv_not rfl) (mtv rfl rfl (pfk (.bool (!y378)) rfl b348 rfl) (MT.e ?_))
                          obtain rfl := Option.some.inj h295
                          exact ⟨_, C, ⟨rfl, rfl, rfl, rfl, rfl, rfl, rfl, trivial⟩, h76, h273, h277, p283⟩
              · rintro ρ w386 ⟨S385, C, h388, h76, h273, h277, p387⟩
                refine h388.cw fun ρ => ?_
                clear h388
                rcases bif_some h103 with ⟨b389, h103⟩ | ⟨b389, h103⟩
                · refine cw_t rfl b389 ?_
                  refine cw_seq fun K390 k391 => ?_
                  refine cw_region (sv (asv (.bool false) rfl) (W.e (k391 _ _ (cw_ret ?_))))
                  obtain rfl := Option.some.inj h103
                  replace h94 := h94.2 _ rfl
                  obtain rfl := Option.some.inj h94
                  have h392 := congrArg some h93
                  obtain rfl := Option.some.inj h392
                  replace h := h.2 _ rfl
                  obtain rfl := Option.some.inj h
                  exact ⟨_, rfl, _, rfl, C⟩
                · refine cw_f rfl b389 (cw_skip ?_)
                  obtain rfl := Option.some.inj h103
                  exact ⟨_, rfl, ⟨_, _, _, _, _, C, ⟨rfl, rfl, rfl, rfl, rfl, rfl, trivial⟩, h76, h273, h275, h277, h279, p387⟩⟩
          · rintro ρ w394 ⟨o100n, rfl, ⟨S393, fp396, cs398, fp400, cs402, C, h404, h76, h395, h397, h399, h401, p403⟩⟩
            replace h94 := h94.1 _ rfl
            refine h404.cw fun ρ => ?_
            clear h404
            refine cw_region ?_
            obtain ⟨y405, h406, h94⟩ := pur_some h94
            refine sv (rv_add rfl rfl h406) (sv (mvv (.int .i64 y405) rfl) (W.e ?_))
            obtain rfl := Option.some.inj h94
            exact ⟨_, rfl, ⟨_, _, _, _, _, C, ⟨rfl, rfl, rfl, rfl, rfl, rfl, trivial⟩, h76, h395, h397, h399, h401, p403⟩⟩
        · refine cw_f rfl b99 (cw_exit ?_)
          obtain rfl := Option.some.inj h94
          have h407 := congrArg some h93
          obtain rfl := Option.some.inj h407
          exact ⟨_, rfl, ⟨_, C, ⟨rfl, trivial⟩⟩⟩
      · rintro ρ w409 ⟨o64n, rfl, ⟨S408, C, h410⟩⟩
        replace h := h.1 _ rfl
        refine h410.cw fun ρ => ?_
        clear h410
        refine cw_seq fun K411 k412 => ?_
        refine cw_region (sv (mvv (.bool y5) rfl) (sv (asv (.bool y5) rfl) (W.e (k412 _ _ (cw_ret ?_)))))
        obtain rfl := Option.some.inj h
        exact ⟨_, rfl, _, rfl, C⟩

noncomputable def marigraphlaw11_HeadNil (a0 : marigraphlaw11_Act) : Option Bool :=
  ((marigraphlaw11_shown).bind fun y11 => ((head_Head_Last none).bind fun y20 => ((bif y11 then ((head_Head_Add none a0.Id a0.P).bind fun y30 => (bif (y30.1 == (2 : Int)) then ((head_Head_Points none a0.Id).bind fun y38 => (bif ((y38.length : Int) == (0 : Int)) then (bif (y20.1 == (0 : Int)) then (bif (!y20.2) then ((head_Head_Len none).bind fun y48 => (bif (y48 == (0 : Int)) then ((head_Head_Ids none).bind fun y54 => (bif ((y54.length : Int) == (0 : Int)) then ((head_Head_Seal none).bind fun y62 => (bif ((y62.1.length : Int) == (0 : Int)) then ((head_Head_Drop none a0.Id).bind fun y72 => some (y72.1 == (0 : Int))) else some false)) else some false)) else some false)) else some false) else some false) else some false)) else some false)) else some false).bind fun o25 => some o25)))
set_option maxRecDepth 100000 in
set_option maxHeartbeats 4000000 in
theorem marigraphlaw11_HeadNil_w {S : Nat → Prop} {w : World} {a0 : marigraphlaw11_Act} {v0 : Value} {r : Bool} (hS : Sb S w) (h0 : Sl marigraphlaw11_Act.k S w v0 a0) (h : marigraphlaw11_HeadNil a0 = some r) :
    Calls Try.prog 9 (List.toArray [v0]) w fun e w1 => ∃ S1, e = .returned (.bool r) ∧ Cx No S w S1 w1 := by
  refine enter Try.func9 rfl (by kernel_rfl) rfl ?_
  have C := Cx.refl (F := No) hS
  unfold marigraphlaw11_HeadNil at h
  obtain rfl := marigraphlaw11_Act.o.1 h0
  refine cw_seq fun K1 k2 => ?_
  refine cw_region ?_
  refine sc (dc_boxS C.sb rfl fun b3 S4 w5 c6 h7 => ?_)
  replace C := C.trans c6
  refine sv (asv (.bool false) rfl) (W.e (k2 _ _ ?_))
  refine cw_seq fun K9 k10 => ?_
  refine cw_region ?_
  obtain ⟨y11, h12, h⟩ := bnd_some h
  refine sc (dc_call (vs := []) can10 rfl ?_)
  refine (marigraphlaw11_shown_w C.sb  h12).mono ?_
  rintro _ w13 ⟨S14, rfl, c15⟩
  refine ⟨_, rfl, ?_⟩
  replace h7 := h7.cx c15
  replace C := C.trans c15
  refine sv (asv (.bool y11) rfl) (W.e (k10 _ _ ?_))
  refine cw_seq fun K16 k17 => ?_
  refine cw_region (sv (asv (.pointer none) rfl) (W.e (k17 _ _ ?_)))
  refine cw_seq fun K18 k19 => ?_
  refine cw_region (sv (mvv (.pointer none) rfl) ?_)
  obtain ⟨y20, h21, h⟩ := bnd_some h
  refine sc (dc_call (vs := [.pointer none]) can21 rfl ?_)
  refine (head_Head_Last_w C.sb (show Obo 67 head_Head.fs S14 w13 (.pointer none) none [] [] from ⟨rfl, rfl, rfl⟩) h21).mono ?_
  rintro _ w22 ⟨S23, rfl, c24⟩
  refine ⟨_, rfl, ?_⟩
  replace h7 := h7.cx c24
  replace C := C.trans c24
  refine sv (mvv (.tuple (List.toArray [.int .i64 y20.1, .bool y20.2])) rfl) (sv (rv_extract rfl rfl) (sv (rv_extract rfl rfl) (sv (asv (.int .i64 y20.1) rfl) (sv (asv (.bool y20.2) rfl) (W.e (k19 _ _ ?_))))))
  obtain ⟨o25, h28, h⟩ := bnd_some h
  refine cw_seq' (fun ρ w1 => ∃ S1, Cx No S w S1 w1 ∧ Has ρ [(2, .bool o25)]) ?_ ?_
  · refine cw_region (sv (mvv (.bool y11) rfl) (sv (mvv (.bool y11) rfl) ?_))
    rcases bif_some h28 with ⟨b29, h28⟩ | ⟨b29, h28⟩
    · refine W.v (gy rfl rfl rfl b29) (mvv (.pointer none) rfl) (W.v (gy rfl rfl rfl b29) (rv_fieldAddr st41 rfl rfl) (W.r (gy rfl rfl rfl b29) (rw_bk ag3 h7.2 rfl rfl) (W.v (gy rfl rfl rfl b29) (rv_fieldAddr st41 rfl rfl) (W.r (gy rfl rfl rfl b29) (rw_bkA ag29 h7.2 rfl rfl rfl) ?_))))
      obtain ⟨y30, h31, h28⟩ := bnd_some h28
      refine W.c (gy rfl rfl rfl b29) (dc_call (vs := [.pointer none, .int .i64 a0.Id, .agg (List.toArray [.int .i64 a0.P.T, .int .i64 a0.P.V])]) can12 rfl ?_)
      refine (head_Head_Add_w C.sb (show Obo 67 head_Head.fs S23 w22 (.pointer none) none [] [] from ⟨rfl, rfl, rfl⟩) ((api_Point.o (x := a0.P)).2 rfl) h31).mono ?_
      rintro _ w32 ⟨S33, cs35, fp36, rfl, c34, _, _⟩
      refine ⟨_, rfl, ?_⟩
      replace c34 := c34.f (G := No) fun b _ hb => (by cases hb)
      replace h7 := h7.cx c34
      replace C := C.trans c34
      skip
      refine W.v (gy rfl rfl rfl b29) (rv_eql rfl rfl) (sv (ptk (.bool (y30.1 == (2 : Int))) rfl b29 rfl) (sv (mvv (.bool (y30.1 == (2 : Int))) rfl) ?_))
      rcases bif_some h28 with ⟨b37, h28⟩ | ⟨b37, h28⟩
      · refine W.v (gy rfl rfl rfl b37) (mvv (.pointer none) rfl) (W.v (gy rfl rfl rfl b37) (rv_fieldAddr st41 rfl rfl) (W.r (gy rfl rfl rfl b37) (rw_bk ag3 h7.2 rfl rfl) ?_))
        obtain ⟨y38, h39, h28⟩ := bnd_some h28
        refine W.c (gy rfl rfl rfl b37) (dc_call (vs := [.pointer none, .int .i64 a0.Id]) can16 rfl ?_)
        refine (head_Head_Points_w C.sb (show Obo 67 head_Head.fs S33 w32 (.pointer none) none [] [] from ⟨rfl, rfl, rfl⟩) h39).mono ?_
        rintro _ w40 ⟨S41, v43, rfl, c42, h44⟩
        refine ⟨_, rfl, ?_⟩
        replace h44 := h44.base C.up.size
        replace h7 := h7.cx c42
        replace C := C.trans c42
        refine W.v (gy rfl rfl rfl b37) (rv_lenS el33 h44.sealed rfl) (W.v (gy rfl rfl rfl b37) (rv_eql rfl rfl) (sv (ptk (.bool ((y38.length : Int) == (0 : Int))) rfl b37 rfl) (sv (mvv (.bool ((y38.length : Int) == (0 : Int))) rfl) ?_)))
        rcases bif_some h28 with ⟨b45, h28⟩ | ⟨b45, h28⟩
        · refine W.v (gy rfl rfl rfl b45) (mvv (.int .i64 y20.1) rfl) (W.v (gy rfl rfl rfl b45) (rv_eql rfl rfl) (sv (ptk (.bool (y20.1 == (0 : Int))) rfl b45 rfl) (sv (mvv (.bool (y20.1 == (0 : Int))) rfl) ?_)))
          rcases bif_some h28 with ⟨b46, h28⟩ | ⟨b46, h28⟩
          · refine W.v (gy rfl rfl rfl b46) (mvv (.bool y20.2) rfl) (W.v (gy rfl rfl rfl b46) (rv_not rfl) (sv (ptk (.bool (!y20.2)) rfl b46 rfl) (sv (mvv (.bool (!y20.2)) rfl) ?_)))
            rcases bif_some h28 with ⟨b47, h28⟩ | ⟨b47, h28⟩
            · refine W.v (gy rfl rfl rfl b47) (mvv (.pointer none) rfl) ?_
              obtain ⟨y48, h49, h28⟩ := bnd_some h28
              refine W.c (gy rfl rfl rfl b47) (dc_call (vs := [.pointer none]) can13 rfl ?_)
              refine (head_Head_Len_w C.sb (show Obo 67 head_Head.fs S41 w40 (.pointer none) none [] [] from ⟨rfl, rfl, rfl⟩) h49).mono ?_
              rintro _ w50 ⟨S51, rfl, c52⟩
              refine ⟨_, rfl, ?_⟩
              replace h7 := h7.cx c52
              replace C := C.trans c52
              refine W.v (gy rfl rfl rfl b47) (rv_eql rfl rfl) (sv (ptk (.bool (y48 == (0 : Int))) rfl b47 rfl) (sv (mvv (.bool (y48 == (0 : Int))) rfl) ?_))
              rcases bif_some h28 with ⟨b53, h28⟩ | ⟨b53, h28⟩
              · refine W.v (gy rfl rfl rfl b53) (mvv (.pointer none) rfl) ?_
                obtain ⟨y54, h55, h28⟩ := bnd_some h28
                refine W.c (gy rfl rfl rfl b53) (dc_call (vs := [.pointer none]) can20 rfl ?_)
                refine (head_Head_Ids_w C.sb (show Obo 67 head_Head.fs S51 w50 (.pointer none) none [] [] from ⟨rfl, rfl, rfl⟩) h55).mono ?_
                rintro _ w56 ⟨S57, v59, rfl, c58, h60⟩
                refine ⟨_, rfl, ?_⟩
                replace h60 := h60.base C.up.size
                replace h7 := h7.cx c58
                replace C := C.trans c58
                refine W.v (gy rfl rfl rfl b53) (rv_lenS el51 h60.sealed rfl) (W.v (gy rfl rfl rfl b53) (rv_eql rfl rfl) (sv (ptk (.bool ((y54.length : Int) == (0 : Int))) rfl b53 rfl) (sv (mvv (.bool ((y54.length : Int) == (0 : Int))) rfl) ?_)))
                rcases bif_some h28 with ⟨b61, h28⟩ | ⟨b61, h28⟩
                · refine W.v (gy rfl rfl rfl b61) (mvv (.pointer none) rfl) ?_
                  obtain ⟨y62, h63, h28⟩ := bnd_some h28
                  refine W.c (gy rfl rfl rfl b61) (dc_call (vs := [.pointer none]) can14 rfl ?_)
                  refine (head_Head_Seal_w C.sb (show Obo 67 head_Head.fs S57 w56 (.pointer none) none [] [] from ⟨rfl, rfl, rfl⟩) h63).mono ?_
                  rintro _ w64 ⟨S65, v67, cs69, fp70, rfl, c66, h68, _, _⟩
                  refine ⟨_, rfl, ?_⟩
                  replace c66 := c66.f (G := No) fun b _ hb => (by cases hb)
                  replace h7 := h7.cx c66
                  replace C := C.trans c66
                  skip
                  refine W.v (gy rfl rfl rfl b61) (rv_lenS el31 h68 rfl) (W.v (gy rfl rfl rfl b61) (rv_eql rfl rfl) (sv (ptk (.bool ((y62.1.length : Int) == (0 : Int))) rfl b61 rfl) (sv (mvv (.bool ((y62.1.length : Int) == (0 : Int))) rfl) ?_)))
                  rcases bif_some h28 with ⟨b71, h28⟩ | ⟨b71, h28⟩
                  · refine W.v (gy rfl rfl rfl b71) (mvv (.pointer none) rfl) (W.v (gy rfl rfl rfl b71) (rv_fieldAddr st41 rfl rfl) (W.r (gy rfl rfl rfl b71) (rw_bk ag3 h7.2 rfl rfl) ?_))
                    obtain ⟨y72, h73, h28⟩ := bnd_some h28
                    refine W.c (gy rfl rfl rfl b71) (dc_call (vs := [.pointer none, .int .i64 a0.Id]) can19 rfl ?_)
                    refine (head_Head_Drop_w C.sb (show Obo 67 head_Head.fs S65 w64 (.pointer none) none [] [] from ⟨rfl, rfl, rfl⟩) h73).mono ?_
                    rintro _ w74 ⟨S75, cs77, fp78, rfl, c76, _, _⟩
                    refine ⟨_, rfl, ?_⟩
                    replace c76 := c76.f (G := No) fun b _ hb => (by cases hb)
                    replace C := C.trans c76
                    skip
                    refine W.v (gy rfl rfl rfl b71) (rv_eql rfl rfl) (sv (ptk (.bool (y72.1 == (0 : Int))) rfl b71 rfl) (sv (asv (.bool (y72.1 == (0 : Int))) rfl) (W.e ?_)))
                    obtain rfl := Option.some.inj h28
                    exact ⟨_, C, ⟨rfl, trivial⟩⟩
                  · refine W.n (gn rfl rfl rfl b71) (W.n (gn rfl rfl rfl b71) (W.n (gn rfl rfl rfl b71) (W.n (gn rfl rfl rfl b71) (W.n (gn rfl rfl rfl b71) (sv (pfk (.bool false) rfl b71 rfl) (sv (asv (.bool false) rfl) (W.e ?_)))))))
                    obtain rfl := Option.some.inj h28
                    exact ⟨_, C, ⟨rfl, trivial⟩⟩
                · refine W.n (gn rfl rfl rfl b61) (W.n (gn rfl rfl rfl b61) (W.n (gn rfl rfl rfl b61) (W.n (gn rfl rfl rfl b61) (sv (pfk (.bool false) rfl b61 rfl) (sv (mvv (.bool false) rfl) (W.n (gn rfl rfl rfl rfl) (W.n (gn rfl rfl rfl rfl) (W.n (gn rfl rfl rfl rfl) (W.n (gn rfl rfl rfl rfl) (W.n (gn rfl rfl rfl rfl) (sv (pfk (.bool false) rfl rfl rfl) ?_)))))))))))
                  refine sv (asv (.bool false) rfl) (W.e ?_)
                  obtain rfl := Option.some.inj h28
                  exact ⟨_, C, ⟨rfl, trivial⟩⟩
              · refine W.n (gn rfl rfl rfl b53) (W.n (gn rfl rfl rfl b53) (W.n (gn rfl rfl rfl b53) (W.n (gn rfl rfl rfl b53) (sv (pfk (.bool false) rfl b53 rfl) (sv (mvv (.bool false) rfl) (W.n (gn rfl rfl rfl rfl) (W.n (gn rfl rfl rfl rfl) (W.n (gn rfl rfl rfl rfl) (W.n (gn rfl rfl rfl rfl) (sv (pfk (.bool false) rfl rfl rfl) (sv (mvv (.bool false) rfl) ?_)))))))))))
                refine W.n (gn rfl rfl rfl rfl) (W.n (gn rfl rfl rfl rfl) (W.n (gn rfl rfl rfl rfl) (W.n (gn rfl rfl rfl rfl) (W.n (gn rfl rfl rfl rfl) (sv (pfk (.bool false) rfl rfl rfl) (sv (asv (.bool false) rfl) (W.e ?_)))))))
                obtain rfl := Option.some.inj h28
                exact ⟨_, C, ⟨rfl, trivial⟩⟩
            · refine W.n (gn rfl rfl rfl b47) (W.n (gn rfl rfl rfl b47) (W.n (gn rfl rfl rfl b47) (sv (pfk (.bool false) rfl b47 rfl) (sv (mvv (.bool false) rfl) (W.n (gn rfl rfl rfl rfl) (W.n (gn rfl rfl rfl rfl) (W.n (gn rfl rfl rfl rfl) (W.n (gn rfl rfl rfl rfl) (sv (pfk (.bool false) rfl rfl rfl) (sv (mvv (.bool false) rfl) (W.n (gn rfl rfl rfl rfl) ?_)))))))))))
              refine W.n (gn rfl rfl rfl rfl) (W.n (gn rfl rfl rfl rfl) (W.n (gn rfl rfl rfl rfl) (sv (pfk (.bool false) rfl rfl rfl) (sv (mvv (.bool false) rfl) (W.n (gn rfl rfl rfl rfl) (W.n (gn rfl rfl rfl rfl) (W.n (gn rfl rfl rfl rfl) (W.n (gn rfl rfl rfl rfl) (W.n (gn rfl rfl rfl rfl) (sv (pfk (.bool false) rfl rfl rfl) (sv (asv (.bool false) rfl) ?_)))))))))))
              refine W.e ?_
              obtain rfl := Option.some.inj h28
              exact ⟨_, C, ⟨rfl, trivial⟩⟩
          · refine W.n (gn rfl rfl rfl b46) (W.n (gn rfl rfl rfl b46) (sv (pfk (.bool false) rfl b46 rfl) (sv (mvv (.bool false) rfl) (W.n (gn rfl rfl rfl rfl) (W.n (gn rfl rfl rfl rfl) (W.n (gn rfl rfl rfl rfl) (sv (pfk (.bool false) rfl rfl rfl) (sv (mvv (.bool false) rfl) (W.n (gn rfl rfl rfl rfl) (W.n (gn rfl rfl rfl rfl) (W.n (gn rfl rfl rfl rfl) ?_)))))))))))
            refine W.n (gn rfl rfl rfl rfl) (sv (pfk (.bool false) rfl rfl rfl) (sv (mvv (.bool false) rfl) (W.n (gn rfl rfl rfl rfl) (W.n (gn rfl rfl rfl rfl) (W.n (gn rfl rfl rfl rfl) (W.n (gn rfl rfl rfl rfl) (sv (pfk (.bool false) rfl rfl rfl) (sv (mvv (.bool false) rfl) (W.n (gn rfl rfl rfl rfl) (W.n (gn rfl rfl rfl rfl) (W.n (gn rfl rfl rfl rfl) ?_)))))))))))
            refine W.n (gn rfl rfl rfl rfl) (W.n (gn rfl rfl rfl rfl) (sv (pfk (.bool false) rfl rfl rfl) (sv (asv (.bool false) rfl) (W.e ?_))))
            obtain rfl := Option.some.inj h28
            exact ⟨_, C, ⟨rfl, trivial⟩⟩
        · refine W.n (gn rfl rfl rfl b45) (W.n (gn rfl rfl rfl b45) (sv (pfk (.bool false) rfl b45 rfl) (sv (mvv (.bool false) rfl) (W.n (gn rfl rfl rfl rfl) (W.n (gn rfl rfl rfl rfl) (sv (pfk (.bool false) rfl rfl rfl) (sv (mvv (.bool false) rfl) (W.n (gn rfl rfl rfl rfl) (W.n (gn rfl rfl rfl rfl) (W.n (gn rfl rfl rfl rfl) (sv (pfk (.bool false) rfl rfl rfl) ?_)))))))))))
          refine sv (mvv (.bool false) rfl) (W.n (gn rfl rfl rfl rfl) (W.n (gn rfl rfl rfl rfl) (W.n (gn rfl rfl rfl rfl) (W.n (gn rfl rfl rfl rfl) (sv (pfk (.bool false) rfl rfl rfl) (sv (mvv (.bool false) rfl) (W.n (gn rfl rfl rfl rfl) (W.n (gn rfl rfl rfl rfl) (W.n (gn rfl rfl rfl rfl) (W.n (gn rfl rfl rfl rfl) (sv (pfk (.bool false) rfl rfl rfl) ?_)))))))))))
          refine sv (mvv (.bool false) rfl) (W.n (gn rfl rfl rfl rfl) (W.n (gn rfl rfl rfl rfl) (W.n (gn rfl rfl rfl rfl) (W.n (gn rfl rfl rfl rfl) (W.n (gn rfl rfl rfl rfl) (sv (pfk (.bool false) rfl rfl rfl) (sv (asv (.bool false) rfl) (W.e ?_))))))))
          obtain rfl := Option.some.inj h28
          exact ⟨_, C, ⟨rfl, trivial⟩⟩
      · refine W.n (gn rfl rfl rfl b37) (W.n (gn rfl rfl rfl b37) (W.n (gn rfl rfl rfl b37) (W.n (gn rfl rfl rfl b37) (W.n (gn rfl rfl rfl b37) (W.n (gn rfl rfl rfl b37) (sv (pfk (.bool false) rfl b37 rfl) (sv (mvv (.bool false) rfl) (W.n (gn rfl rfl rfl rfl) (W.n (gn rfl rfl rfl rfl) (sv (pfk (.bool false) rfl rfl rfl) (sv (mvv (.bool false) rfl) ?_)))))))))))
        refine W.n (gn rfl rfl rfl rfl) (W.n (gn rfl rfl rfl rfl) (sv (pfk (.bool false) rfl rfl rfl) (sv (mvv (.bool false) rfl) (W.n (gn rfl rfl rfl rfl) (W.n (gn rfl rfl rfl rfl) (W.n (gn rfl rfl rfl rfl) (sv (pfk (.bool false) rfl rfl rfl) (sv (mvv (.bool false) rfl) (W.n (gn rfl rfl rfl rfl) (W.n (gn rfl rfl rfl rfl) (W.n (gn rfl rfl rfl rfl) ?_)))))))))))
        refine W.n (gn rfl rfl rfl rfl) (sv (pfk (.bool false) rfl rfl rfl) (sv (mvv (.bool false) rfl) (W.n (gn rfl rfl rfl rfl) (W.n (gn rfl rfl rfl rfl) (W.n (gn rfl rfl rfl rfl) (W.n (gn rfl rfl rfl rfl) (sv (pfk (.bool false) rfl rfl rfl) (sv (mvv (.bool false) rfl) (W.n (gn rfl rfl rfl rfl) (W.n (gn rfl rfl rfl rfl) (W.n (gn rfl rfl rfl rfl) ?_)))))))))))
        refine W.n (gn rfl rfl rfl rfl) (W.n (gn rfl rfl rfl rfl) (sv (pfk (.bool false) rfl rfl rfl) (sv (asv (.bool false) rfl) (W.e ?_))))
        obtain rfl := Option.some.inj h28
        exact ⟨_, C, ⟨rfl, trivial⟩⟩
    · refine W.n (gn rfl rfl rfl b29) (W.n (gn rfl rfl rfl b29) (W.n (gn rfl rfl rfl b29) (W.n (gn rfl rfl rfl b29) (W.n (gn rfl rfl rfl b29) (W.n (gn rfl rfl rfl b29) (W.n (gn rfl rfl rfl b29) (sv (pfk (.bool false) rfl b29 rfl) (sv (mvv (.bool false) rfl) (W.n (gn rfl rfl rfl rfl) (W.n (gn rfl rfl rfl rfl) (W.n (gn rfl rfl rfl rfl) ?_)))))))))))
      refine W.n (gn rfl rfl rfl rfl) (W.n (gn rfl rfl rfl rfl) (W.n (gn rfl rfl rfl rfl) (sv (pfk (.bool false) rfl rfl rfl) (sv (mvv (.bool false) rfl) (W.n (gn rfl rfl rfl rfl) (W.n (gn rfl rfl rfl rfl) (sv (pfk (.bool false) rfl rfl rfl) (sv (mvv (.bool false) rfl) (W.n (gn rfl rfl rfl rfl) (W.n (gn rfl rfl rfl rfl) (sv (pfk (.bool false) rfl rfl rfl) ?_)))))))))))
      refine sv (mvv (.bool false) rfl) (W.n (gn rfl rfl rfl rfl) (W.n (gn rfl rfl rfl rfl) (W.n (gn rfl rfl rfl rfl) (sv (pfk (.bool false) rfl rfl rfl) (sv (mvv (.bool false) rfl) (W.n (gn rfl rfl rfl rfl) (W.n (gn rfl rfl rfl rfl) (W.n (gn rfl rfl rfl rfl) (W.n (gn rfl rfl rfl rfl) (sv (pfk (.bool false) rfl rfl rfl) (sv (mvv (.bool false) rfl) ?_)))))))))))
      refine W.n (gn rfl rfl rfl rfl) (W.n (gn rfl rfl rfl rfl) (W.n (gn rfl rfl rfl rfl) (W.n (gn rfl rfl rfl rfl) (sv (pfk (.bool false) rfl rfl rfl) (sv (mvv (.bool false) rfl) (W.n (gn rfl rfl rfl rfl) (W.n (gn rfl rfl rfl rfl) (W.n (gn rfl rfl rfl rfl) (W.n (gn rfl rfl rfl rfl) (W.n (gn rfl rfl rfl rfl) (sv (pfk (.bool false) rfl rfl rfl) ?_)))))))))))
      refine sv (asv (.bool false) rfl) (W.e ?_)
      obtain rfl := Option.some.inj h28
      exact ⟨_, C, ⟨rfl, trivial⟩⟩
  · rintro ρ w80 ⟨S79, C, h81⟩
    refine h81.cw fun ρ => ?_
    clear h81
    refine cw_ret ?_
    obtain rfl := Option.some.inj h
    exact ⟨_, rfl, _, rfl, C⟩

end Go.Proofs.Ytconkjamlhfneaa
