/- What each function computes, and that the program computes it (part 2). Printed by gen.py, a program of this session. -/
import Derived.Test.YtconkjamlhfneaaW1
set_option linter.unusedVariables false
namespace Go.Proofs.Ytconkjamlhfneaa
open Go Go.Mg
noncomputable def marigraphlaw11_HeadKeeps.b8 (y175 : api_Chunk) (x198 : Int) (x199 : List (marigraphref11_Item × Bool)) : Option ((Int × (List (marigraphref11_Item × Bool))) ⊕ (((List (marigraphref11_Item × Bool))) ⊕ ((Int × (List (marigraphref11_Item × Bool))) ⊕ (((Option head_Head) × (List (marigraphref11_Item × Bool))) ⊕ (((Option head_Head) × (List (marigraphref11_Item × Bool))) ⊕ ((Int × (Option head_Head) × (List (marigraphref11_Item × Bool))) ⊕ (((Option head_Head) × (List (marigraphref11_Item × Bool))) ⊕ (Bool)))))))) :=
  (bif (decide (x198 < (y175.Points.length : Int))) then ((at_ y175.Points x198).bind fun y211 => (pur y211 fun y224 => (pur (marigraphref11_Item.mk y175.Id (api_Point.mk y224.T y224.V)) fun y248 => (bif (!((mget y248 x199).getD false)) then some (.inr (.inr (.inr (.inr (.inr (.inr (.inr false))))))) else (pur (mrem y248 x199) fun y273 => (pur (IntKind.i64.wrap (x198 + (1 : Int))) fun y280 => some (.inl (y280, y273)))))))) else some (.inr (.inl x199)))
noncomputable def marigraphlaw11_HeadKeeps.b6 (y124 : (List api_Chunk) × (Option head_Head)) (x146 : Int) (x147 : List (marigraphref11_Item × Bool)) : Option ((Int × (List (marigraphref11_Item × Bool))) ⊕ (((Option head_Head) × (List (marigraphref11_Item × Bool))) ⊕ (((Option head_Head) × (List (marigraphref11_Item × Bool))) ⊕ ((Int × (Option head_Head) × (List (marigraphref11_Item × Bool))) ⊕ (((Option head_Head) × (List (marigraphref11_Item × Bool))) ⊕ (Bool)))))) :=
  (bif (decide (x146 < (y124.1.length : Int))) then (((at_ y124.1 x146).bind fun y161 => (pur y161 fun y175 => (iter (fun s : Int × (List (marigraphref11_Item × Bool)) => marigraphlaw11_HeadKeeps.b8 y175 s.1 s.2) ((0 : Int), x147)))).bind (Sum.elim (fun o155n => (pur (IntKind.i64.wrap (x146 + (1 : Int))) fun y290 => some (.inl (y290, o155n)))) (fun q => some q))) else some (.inr (.inl (y124.2, x147))))
noncomputable def marigraphlaw11_HeadKeeps.b10 (y102 : marigraphlaw11_Act) (kk353 : marigraphref11_Item) (x326 : Int) : Option Int :=
  (pur kk353 fun y364 => (bif (y364.Id == y102.Id) then (pur (IntKind.i64.wrap (x326 + (1 : Int))) fun y379 => some y379) else some x326))
noncomputable def marigraphlaw11_HeadKeeps.b13 (y451 : Int) (kk507 : marigraphref11_Item) (x480 : List (marigraphref11_Item × Bool)) : Option (List (marigraphref11_Item × Bool)) :=
  (pur kk507 fun y518 => (bif (y518.Id == y451) then (pur (mrem y518 x480) fun y533 => some y533) else some x480))
noncomputable def marigraphlaw11_HeadKeeps.b11 (y102 : marigraphlaw11_Act) (y397 : Int × (Option head_Head)) (x436 : Int) (x437 : List (marigraphref11_Item × Bool)) : Option ((Int × (List (marigraphref11_Item × Bool))) ⊕ (((Option head_Head) × (List (marigraphref11_Item × Bool))) ⊕ (((Option head_Head) × (List (marigraphref11_Item × Bool))) ⊕ ((Int × (Option head_Head) × (List (marigraphref11_Item × Bool))) ⊕ (((Option head_Head) × (List (marigraphref11_Item × Bool))) ⊕ (Bool)))))) :=
  (bif (decide (x436 < (([y102.Id] : List Int).length : Int))) then (((at_ ([y102.Id] : List Int) x436).bind fun y451 => ((rngf (fun (kk507 : marigraphref11_Item) (s469 : (List (marigraphref11_Item × Bool))) => marigraphlaw11_HeadKeeps.b13 y451 kk507 s469) (List.map (fun (z : marigraphref11_Item × Bool) => z.1) x437) x437).bind fun o470 => some o470)).bind fun o445 => (pur (IntKind.i64.wrap (x436 + (1 : Int))) fun y549 => some (.inl (y549, o445)))) else some (.inr (.inl (y397.2, x437))))
noncomputable def marigraphlaw11_HeadKeeps.b17 (o108n : ((Option head_Head) × (List (marigraphref11_Item × Bool)))) (y637 : Int) (y641 : (List api_Point)) (x661 : Int) (x662 : Int) : Option ((Int × Int) ⊕ ((Int) ⊕ ((Int × Int) ⊕ ((Int) ⊕ (((Option head_Head) × (List (marigraphref11_Item × Bool))) ⊕ ((Int × (Option head_Head) × (List (marigraphref11_Item × Bool))) ⊕ (((Option head_Head) × (List (marigraphref11_Item × Bool))) ⊕ (Bool)))))))) :=
  (bif (decide (x662 < (y641.length : Int))) then ((at_ y641 x662).bind fun y674 => (pur y674 fun y688 => (bif (!((mget (marigraphref11_Item.mk y637 (api_Point.mk y688.T y688.V)) o108n.2).getD false)) then some (.inr (.inr (.inr (.inr (.inr (.inr (.inr false))))))) else (pur (IntKind.i64.wrap (x661 + (1 : Int))) fun y710 => (pur (IntKind.i64.wrap (x662 + (1 : Int))) fun y712 => some (.inl (y710, y712))))))) else some (.inr (.inl x661)))
noncomputable def marigraphlaw11_HeadKeeps.b15 (o108n : ((Option head_Head) × (List (marigraphref11_Item × Bool)))) (y606 : (List Int)) (x622 : Int) (x623 : Int) : Option ((Int × Int) ⊕ ((Int) ⊕ (((Option head_Head) × (List (marigraphref11_Item × Bool))) ⊕ ((Int × (Option head_Head) × (List (marigraphref11_Item × Bool))) ⊕ (((Option head_Head) × (List (marigraphref11_Item × Bool))) ⊕ (Bool)))))) :=
  (bif (decide (x623 < (y606.length : Int))) then (((at_ y606 x623).bind fun y637 => ((head_Head_Points o108n.1 y637).bind fun y641 => (iter (fun s : Int × Int => marigraphlaw11_HeadKeeps.b17 o108n y637 y641 s.1 s.2) (x622, (0 : Int))))).bind (Sum.elim (fun o631n => (pur (IntKind.i64.wrap (x623 + (1 : Int))) fun y721 => some (.inl (o631n, y721)))) (fun q => some q))) else some (.inr (.inl x622)))
noncomputable def marigraphlaw11_HeadKeeps.b3 (y55 : (List marigraphlaw11_Act)) (x74 : Int) (x75 : Option head_Head) (x76 : List (marigraphref11_Item × Bool)) : Option ((Int × (Option head_Head) × (List (marigraphref11_Item × Bool))) ⊕ (((Option head_Head) × (List (marigraphref11_Item × Bool))) ⊕ (Bool))) :=
  (bif (decide (x74 < (y55.length : Int))) then (((at_ y55 x74).bind fun y90 => (pur y90 fun y102 => ((pur (Int.tmod y102.Kind (7 : Int)) fun y117 => (bif (y117 == (5 : Int)) then ((head_Head_Seal x75).bind fun y124 => (iter (fun s : Int × (List (marigraphref11_Item × Bool)) => marigraphlaw11_HeadKeeps.b6 y124 s.1 s.2) ((0 : Int), x76))) else (bif (y117 == (6 : Int)) then (((rngf (fun (kk353 : marigraphref11_Item) (s318 : Int) => marigraphlaw11_HeadKeeps.b10 y102 kk353 s318) (List.map (fun (z : marigraphref11_Item × Bool) => z.1) x76) (0 : Int)).bind fun o319 => some (o319, x76)).bind fun o298 => ((head_Head_Drop x75 y102.Id).bind fun y397 => (bif (y397.1 != o298.1) then some (.inr (.inr (.inr (.inr false)))) else (iter (fun s : Int × (List (marigraphref11_Item × Bool)) => marigraphlaw11_HeadKeeps.b11 y102 y397 s.1 s.2) ((0 : Int), o298.2))))) else ((head_Head_Add x75 y102.Id y102.P).bind fun y560 => (bif (y560.1 == (0 : Int)) then (pur (mput (marigraphref11_Item.mk y102.Id (api_Point.mk y102.P.T y102.P.V)) true x76) fun y580 => some (.inl (y560.2, y580))) else some (.inl (y560.2, x76))))))).bind (Sum.elim (fun o108n => (((head_Head_Ids o108n.1).bind fun y606 => (iter (fun s : Int × Int => marigraphlaw11_HeadKeeps.b15 o108n y606 s.1 s.2) ((0 : Int), (0 : Int)))).bind (Sum.elim (fun o600n => ((bif (o600n != (o108n.2.length : Int)) then some true else ((head_Head_Len o108n.1).bind fun y733 => some (o600n != y733))).bind fun o728 => (bif o728 then some (.inr (.inr (.inr false))) else some (.inl (o108n.1, o108n.2))))) (fun q => some q)))) (fun q => some q))))).bind (Sum.elim (fun o84n => (pur (IntKind.i64.wrap (x74 + (1 : Int))) fun y757 => some (.inl (y757, o84n.1, o84n.2)))) (fun q => some q))) else some (.inr (.inl (x75, x76))))
noncomputable def marigraphlaw11_HeadKeeps (a0 : Int) (a1 : List marigraphlaw11_Act) : Option Bool :=
  ((marigraphlaw11_shown).bind fun y5 => ((head_New a0).bind fun y12 => (bif y12.1.isNone then ((bif y5 then (bif (y12.2 == (1 : Int)) then (bif (decide (a0 < (0 : Int))) then some true else some (decide ((1099511627776 : Int) < a0))) else some false) else some false).bind fun o28 => some o28) else (((marigraphlaw11_few a1).bind fun y55 => (iter (fun s : Int × (Option head_Head) × (List (marigraphref11_Item × Bool)) => marigraphlaw11_HeadKeeps.b3 y55 s.1 s.2.1 s.2.2) ((0 : Int), y12.1, ([] : List (marigraphref11_Item × Bool))))).bind (Sum.elim (fun o49n => some y5) (fun q => some q))))))
set_option maxRecDepth 100000 in
set_option maxHeartbeats 4000000 in
theorem marigraphlaw11_HeadKeeps_w {S : Nat → Prop} {w : World} {a0 : Int} {a1 : List marigraphlaw11_Act} {v1 : Value} {r : Bool} (hS : Sb S w) (h1 : Sl (kSl marigraphlaw11_Act.k) S w v1 a1) (h : marigraphlaw11_HeadKeeps a0 a1 = some r) :
    Calls Try.prog 7 (List.toArray [.int .i64 a0, v1]) w fun e w1 => ∃ S1, e = .returned (.bool r) ∧ Cx No S w S1 w1 := by
  refine enter Try.func7 rfl (by kernel_rfl) rfl ?_
  have C := Cx.refl (F := No) hS
  unfold marigraphlaw11_HeadKeeps at h
  refine cw_seq fun K1 k2 => ?_
  refine cw_region (sv (asv (.bool false) rfl) (W.e (k2 _ _ ?_)))
  refine cw_seq fun K3 k4 => ?_
  refine cw_region ?_
  obtain ⟨y5, h6, h⟩ := bnd_some h
  refine sc (dc_call (vs := []) can10 rfl ?_)
  refine (marigraphlaw11_shown_w C.sb  h6).mono ?_
  rintro _ w7 ⟨S8, rfl, c9⟩
  refine ⟨_, rfl, ?_⟩
  replace h1 := h1.cx c9
  replace C := C.trans c9
  refine sv (asv (.bool y5) rfl) (W.e (k4 _ _ ?_))
  refine cw_seq fun K10 k11 => ?_
  refine cw_region (sv (mvv (.int .i64 a0) rfl) ?_)
  obtain ⟨y12, h13, h⟩ := bnd_some h
  refine sc (dc_call (vs := [.int .i64 a0]) can11 rfl ?_)
  refine (head_New_w C.sb  h13).mono ?_
  rintro _ w14 ⟨S15, v17, cs18, fp19, rfl, c16, h20, h21⟩
  refine ⟨_, rfl, ?_⟩
  have h22 : ∀ b, b ∈ fp19 → w.heap.size ≤ b := fun b hb => Nat.le_trans C.up.size (h21 b hb)
  replace h1 := h1.cx c16
  replace C := C.trans c16
  refine sv (mvv (.tuple (List.toArray [v17, .int .i64 y12.2])) rfl) (sv (rv_extract rfl rfl) (sv (rv_extract rfl rfl) (sv (asv v17 rfl) (sv (asv (.int .i64 y12.2) rfl) (W.e (k11 _ _ ?_))))))
  refine cw_seq fun K23 k24 => ?_
  refine cw_seq fun K25 k26 => ?_
  refine cw_region (sv (mvv v17 rfl) (sv (rv_nileq Try.underlying23 rfl rfl h20.ne) (W.e (k26 _ _ ?_))))
  rcases bif_some h with ⟨b27, h⟩ | ⟨b27, h⟩
  · refine cw_t rfl b27 ?_
    obtain ⟨o28, h31, h⟩ := bnd_some h
    refine cw_seq' (fun ρ w1 => ∃ S1, Cx No S w S1 w1 ∧ Has ρ [(4, .bool o28)]) ?_ ?_
    · refine cw_region (sv (mvv (.bool y5) rfl) (sv (mvv (.bool y5) rfl) ?_))
      rcases bif_some h31 with ⟨b32, h31⟩ | ⟨b32, h31⟩
      · refine W.v (gy rfl rfl rfl b32) (mvv (.int .i64 y12.2) rfl) (W.v (gy rfl rfl rfl b32) (rv_eql rfl rfl) (sv (ptk (.bool (y12.2 == (1 : Int))) rfl b32 rfl) (sv (mvv (.bool (y12.2 == (1 : Int))) rfl) ?_)))
        rcases bif_some h31 with ⟨b33, h31⟩ | ⟨b33, h31⟩
        · refine W.v (gy rfl rfl rfl b33) (mvv (.int .i64 a0) rfl) (W.v (gy rfl rfl rfl b33) (rv_lss rfl rfl) (W.v (gy rfl rfl rfl b33) (mvv (.bool (decide (a0 < (0 : Int)))) rfl) ?_))
          rcases bif_some h31 with ⟨b34, h31⟩ | ⟨b34, h31⟩
          · refine W.n (gn rfl rfl rfl b34) (W.n (gn rfl rfl rfl b34) (W.v (gy rfl rfl rfl b33) (ptk (.bool true) rfl b34 rfl) (sv (ptk (.bool true) rfl b33 rfl) (sv (asv (.bool true) rfl) (W.e ?_)))))
            obtain rfl := Option.some.inj h31
            exact ⟨_, C, ⟨rfl, trivial⟩⟩
          · refine W.v (gy rfl rfl rfl b34) (mvv (.int .i64 a0) rfl) (W.v (gy rfl rfl rfl b34) (rv_gtr rfl rfl) (W.v (gy rfl rfl rfl b33) (pfk (.bool (decide ((1099511627776 : Int) < a0))) rfl b34 rfl) (sv (ptk (.bool (decide ((1099511627776 : Int) < a0))) rfl b33 rfl) (sv (asv (.bool (decide ((1099511627776 : Int) < a0))) rfl) (W.e ?_)))))
            obtain rfl := Option.some.inj h31
            exact ⟨_, C, ⟨rfl, trivial⟩⟩
        · refine W.n (gn rfl rfl rfl b33) (W.n (gn rfl rfl rfl b33) (W.n (gn rfl rfl rfl b33) (W.n (gu rfl rfl rfl) (W.n (gu rfl rfl rfl) (W.n (gn rfl rfl rfl b33) (sv (pfk (.bool false) rfl b33 rfl) (sv (asv (.bool false) rfl) (W.e ?_))))))))
          obtain rfl := Option.some.inj h31
          exact ⟨_, C, ⟨rfl, trivial⟩⟩
      · refine W.n (gn rfl rfl rfl b32) (W.n (gn rfl rfl rfl b32) (sv (pfk (.bool false) rfl b32 rfl) (sv (mvv (.bool false) rfl) (W.n (gn rfl rfl rfl rfl) (W.n (gn rfl rfl rfl rfl) (W.n (gn rfl rfl rfl rfl) (W.n (gu rfl rfl rfl) (W.n (gu rfl rfl rfl) (W.n (gn rfl rfl rfl rfl) (sv (pfk (.bool false) rfl rfl rfl) (sv (asv (.bool false) rfl) ?_)))))))))))
        refine W.e ?_
        obtain rfl := Option.some.inj h31
        exact ⟨_, C, ⟨rfl, trivial⟩⟩
    · rintro ρ w36 ⟨S35, C, h37⟩
      refine h37.cw fun ρ => ?_
      clear h37
      refine cw_ret ?_
      obtain rfl := Option.some.inj h
      exact ⟨_, rfl, _, rfl, C⟩
  · refine cw_f rfl b27 (cw_skip (k24 _ _ ?_))
    refine cw_seq fun K38 k39 => ?_
    refine cw_region ?_
    refine sc (dc_mkmap ky_marigraphref11_Item kB C.sb fun c40 b41 w42 h43 h44 u45 => ?_)
    have h46 : Mo (fMap ky_marigraphref11_Item kB) S15 w42 c40 ([] : List (marigraphref11_Item × Bool)) [b41] := ⟨h44, by simp⟩
    have h47p := C.up.size
    have h47q : ∀ q, q ∈ [b41] → w14.heap.size ≤ q := fun q hq => by simp at hq; omega
    have h47 : ∀ q, q ∈ [b41] → w.heap.size ≤ q := fun q hq => Nat.le_trans C.up.size (h47q q hq)
    have h47r : b41 < w42.heap.size := (h46.lt b41 (by simp)).1
    have p48 := ap_fresh h47q (fun b hb => (h20.lt b hb).1)
    replace h1 := h1.nw u45
    replace h20 := h20.nw u45
    replace C := C.new u45
    refine sv (asv c40 rfl) (W.e (k39 _ _ ?_))
    obtain ⟨o49, h52, h⟩ := bnds_some h
    refine cw_seq' (fun ρ w1 => ∃ o49n, o49 = (.inl o49n) ∧ ∃ S1, Cx No S w S1 w1 ∧ Has ρ [(5, .bool y5)]) ?_ ?_
    · refine cw_seq fun K53 k54 => ?_
      refine cw_region (sv (mvv v1 rfl) ?_)
      obtain ⟨y55, h56, h52⟩ := bnd_some h52
      refine sc (dc_call (vs := [v1]) can18 rfl ?_)
      refine (marigraphlaw11_few_w C.sb h1 h56).mono ?_
      rintro _ w57 ⟨S58, v60, rfl, c59, h61⟩
      refine ⟨_, rfl, ?_⟩
      replace h20 := h20.cx c59
      replace h46 := h46.cx c59
      replace C := C.trans c59
      refine sv (rv_lenS el37 h61 rfl) (sv (mvv (.int .i64 0) rfl) (W.e (k54 _ _ (cw_block ?_))))
      refine cw_iter h52 (fun s ρ w1 => ∃ S1 fp66 cs68 fp70, Cx No S w S1 w1 ∧ Has ρ [(5, .bool y5), (6, v17), (8, c40), (49, v60), (50, .int .i64 (y55.length : Int)), (51, .int .i64 s.1)] ∧ Sl (kSl marigraphlaw11_Act.k) S1 w1 v60 y55 ∧ Obo 67 head_Head.fs S1 w1 v17 s.2.1 cs68 fp66 ∧ (∀ b, b ∈ fp66 → w.heap.size ≤ b) ∧ Mo (fMap ky_marigraphref11_Item kB) S1 w1 c40 s.2.2 fp70 ∧ (∀ b, b ∈ fp70 → w.heap.size ≤ b) ∧ (∀ b, b ∈ fp66 → ¬ b ∈ fp70)) ⟨_, _, _, _, C, ⟨rfl, rfl, rfl, rfl, rfl, rfl, trivial⟩, h61, h20, h22, h46, h47, (ap_symm p48)⟩ ?_
      rintro ⟨x74, x75, x76⟩ q62 ρ w64 ⟨S63, fp66, cs68, fp70, C, h73, h61, h65, h67, h69, h71, p72⟩ h78 h77
      refine h73.cw fun ρ => ?_
      clear h73
      replace h78 : marigraphlaw11_HeadKeeps.b3 y55 x74 x75 x76 = some q62 := h78
      unfold marigraphlaw11_HeadKeeps.b3 at h78
      refine cw_seq fun K79 k80 => ?_
      refine cw_region (sv (rv_lss rfl rfl) (W.e (k80 _ _ ?_)))
      refine cw_seq fun K81 k82 => ?_
      rcases bif_some h78 with ⟨b83, h78⟩ | ⟨b83, h78⟩
      · refine cw_t rfl b83 (cw_skip (k82 _ _ ?_))
        obtain ⟨o84, h87, h78⟩ := bnds_some h78
        refine cw_seq' (fun ρ w1 => ∃ o84n, o84 = (.inl o84n) ∧ ∃ S1 fp749 cs751 fp753, Cx No S w S1 w1 ∧ Has ρ [(5, .bool y5), (6, v17), (8, c40), (49, v60), (50, .int .i64 (y55.length : Int)), (51, .int .i64 x74)] ∧ Sl (kSl marigraphlaw11_Act.k) S1 w1 v60 y55 ∧ Obo 67 head_Head.fs S1 w1 v17 o84n.1 cs751 fp749 ∧ (∀ b, b ∈ fp749 → w.heap.size ≤ b) ∧ Mo (fMap ky_marigraphref11_Item kB) S1 w1 c40 o84n.2 fp753 ∧ (∀ b, b ∈ fp753 → w.heap.size ≤ b) ∧ (∀ b, b ∈ fp749 → ¬ b ∈ fp753)) ?_ ?_
        · refine cw_block ?_
          refine cw_seq fun K88 k89 => ?_
          refine cw_region ?_
          obtain ⟨y90, h91, h87⟩ := bnd_some h87
          refine sv (rv_index el37 h61 rfl rfl h91) ?_
          obtain ⟨v92, h93, h94⟩ := rw_loadA (P := Try.prog) el37 h61 h91
          obtain rfl := marigraphlaw11_Act.o.1 h93
          refine sr (h94 _ (Sm.refl _ _) rfl) ?_
          refine sc (dc_allocO (x0 := (marigraphlaw11_Act.mk (0 : Int) (0 : Int) (api_Point.mk (0 : Int) (0 : Int)))) (base := w.heap.size) el37 zr41 (fun _ => marigraphlaw11_Act.r.2 rfl) C.up.size C.sb fun b95 w96 h97 h98 u99 => ?_)
          have p100 := ap_fresh h98 (fun b hb => (h65.lt b hb).1)
          have p101 := ap_fresh h98 (fun b hb => (h69.lt b hb).1)
          replace h65 := h65.nw u99
          replace h69 := h69.nw u99
          replace h61 := h61.nw u99
          replace C := C.new u99
          obtain ⟨y102, h103, h87⟩ := pur_some h87
          have h107 := h97
          refine sc (dc_storeO el37 h107 (show at_ [(marigraphlaw11_Act.mk (0 : Int) (0 : Int) (api_Point.mk (0 : Int) (0 : Int)))] (0 : Int) = some (marigraphlaw11_Act.mk (0 : Int) (0 : Int) (api_Point.mk (0 : Int) (0 : Int))) from rfl) rfl rfl (((marigraphlaw11_Act.o (x := y90)).2 rfl)) fun w104 h105 u106 => ?_)
          replace h105 : Ow marigraphlaw11_Act.k 41 S63 w.heap.size w104 (.slice (some ⟨b95, 0, none⟩) 1 1) [y90] := h105
          rw [h103] at h105
          replace h61 := h61.wr u106 h107.not
          replace h65 := h65.wr u106 h107.not (ap_symm p100)
          replace h69 := h69.wr u106 h107.not (ap_symm p101)
          replace C := C.ow h107 u106
          refine W.e (k89 _ _ ?_)
          obtain ⟨o108, h111, h87⟩ := bnds_some h87
          refine cw_seq' (fun ρ w1 => ∃ o108n, o108 = (.inl o108n) ∧ ∃ S1 fp590 cs592 fp594, Cx No S w S1 w1 ∧ Has ρ [(5, .bool y5), (6, v17), (8, c40), (49, v60), (50, .int .i64 (y55.length : Int)), (51, .int .i64 x74)] ∧ Sl (kSl marigraphlaw11_Act.k) S1 w1 v60 y55 ∧ Obo 67 head_Head.fs S1 w1 v17 o108n.1 cs592 fp590 ∧ (∀ b, b ∈ fp590 → w.heap.size ≤ b) ∧ Mo (fMap ky_marigraphref11_Item kB) S1 w1 c40 o108n.2 fp594 ∧ (∀ b, b ∈ fp594 → w.heap.size ≤ b) ∧ (∀ b, b ∈ fp590 → ¬ b ∈ fp594)) ?_ ?_
          · refine cw_seq fun K112 k113 => ?_
            refine cw_region (sv (rv_fieldAddr st41 rfl rfl) ?_)
            obtain ⟨cs114, h115, h116⟩ := Ow.cellsO h105 (show at_ [y102] (0 : Int) = some y102 from rfl)
            obtain rfl := marigraphlaw11_Act.r.1 h115
            refine sr (rw_el1 (off := 0) ag5 (h116 _ (Sm.refl _ _)) rfl rfl) ?_
            obtain ⟨y117, h118, h111⟩ := pur_some h111
            refine sv (rv_rem rfl rfl (by decide) h118) (W.e (k113 _ _ (cw_block ?_)))
            refine cw_seq fun K119 k120 => ?_
            refine cw_region (sv (rv_eql rfl rfl) (sv (asv (.bool (y117 == (5 : Int))) rfl) (W.e (k120 _ _ ?_))))
            rcases bif_some h111 with ⟨b121, h111⟩ | ⟨b121, h111⟩
            · refine cw_t rfl b121 ?_
              refine cw_seq fun K122 k123 => ?_
              refine cw_region (sv (mvv v17 rfl) ?_)
              obtain ⟨y124, h125, h111⟩ := bnd_some h111
              refine sc (dc_call (vs := [v17]) can14 rfl ?_)
              refine (head_Head_Seal_w C.sb h65 h125).mono ?_
              rintro _ w126 ⟨S127, v129, cs131, fp132, rfl, c128, h130, h133, h134⟩
              refine ⟨_, rfl, ?_⟩
              have h135 : ∀ b, b ∈ fp66 → ¬ S63 b := fun b hb => (h65.lt b hb).2
              have p136 := ap_grow p72 h134 (fun b hb => (h69.lt b hb).1)
              have h137 : ∀ b, b ∈ fp132 → w.heap.size ≤ b := fun b hb => (h134 b hb).elim (h67 b) (fun hl => Nat.le_trans C.up.size hl)
              replace h69 := h69.cf c128 h135 (ap_symm p72)
              replace h61 := h61.cf c128 h135
              replace C := C.ofc c128 (fun b hb => .inr (h67 b hb))
              refine sv (rv_lenS el31 h130 rfl) (sv (mvv (.int .i64 0) rfl) (W.e (k123 _ _ (cw_block ?_))))
              refine cw_iter h111 (fun s ρ w1 => ∃ S1 fp142, Cx No S w S1 w1 ∧ Has ρ [(5, .bool y5), (6, v17), (8, c40), (49, v60), (50, .int .i64 (y55.length : Int)), (51, .int .i64 x74), (74, v129), (75, .int .i64 (y124.1.length : Int)), (76, .int .i64 s.1)] ∧ Sl (kSl marigraphlaw11_Act.k) S1 w1 v60 y55 ∧ Sl (kSl api_Chunk.k) S1 w1 v129 y124.1 ∧ Obo 67 head_Head.fs S1 w1 v17 y124.2 cs131 fp132 ∧ Mo (fMap ky_marigraphref11_Item kB) S1 w1 c40 s.2 fp142 ∧ (∀ b, b ∈ fp142 → w.heap.size ≤ b) ∧ (∀ b, b ∈ fp132 → ¬ b ∈ fp142)) ⟨_, _, C, ⟨rfl, rfl, rfl, rfl, rfl, rfl, rfl, rfl, rfl, trivial⟩, h61, h130, h133, h69, h71, p136⟩ ?_
              rintro ⟨x146, x147⟩ q138 ρ w140 ⟨S139, fp142, C, h145, h61, h130, h133, h141, h143, p144⟩ h149 h148
              refine h145.cw fun ρ => ?_
              clear h145
              replace h149 : marigraphlaw11_HeadKeeps.b6 y124 x146 x147 = some q138 := h149
              unfold marigraphlaw11_HeadKeeps.b6 at h149
              refine cw_seq fun K150 k151 => ?_
              refine cw_region (sv (rv_lss rfl rfl) (W.e (k151 _ _ ?_)))
              refine cw_seq fun K152 k153 => ?_
              rcases bif_some h149 with ⟨b154, h149⟩ | ⟨b154, h149⟩
              · refine cw_t rfl b154 (cw_skip (k153 _ _ ?_))
                obtain ⟨o155, h158, h149⟩ := bnds_some h149
                refine cw_seq' (fun ρ w1 => ∃ o155n, o155 = (.inl o155n) ∧ ∃ S1 fp286, Cx No S w S1 w1 ∧ Has ρ [(5, .bool y5), (6, v17), (8, c40), (49, v60), (50, .int .i64 (y55.length : Int)), (51, .int .i64 x74), (74, v129), (75, .int .i64 (y124.1.length : Int)), (76, .int .i64 x146)] ∧ Sl (kSl marigraphlaw11_Act.k) S1 w1 v60 y55 ∧ Sl (kSl api_Chunk.k) S1 w1 v129 y124.1 ∧ Obo 67 head_Head.fs S1 w1 v17 y124.2 cs131 fp132 ∧ Mo (fMap ky_marigraphref11_Item kB) S1 w1 c40 o155n fp286 ∧ (∀ b, b ∈ fp286 → w.heap.size ≤ b) ∧ (∀ b, b ∈ fp132 → ¬ b ∈ fp286)) ?_ ?_
                · refine cw_block ?_
                  refine cw_seq fun K159 k160 => ?_
                  refine cw_region ?_
                  obtain ⟨y161, h162, h158⟩ := bnd_some h158
                  refine sv (rv_index el31 h130 rfl rfl h162) ?_
                  obtain ⟨v163, h164, h165⟩ := rw_loadA (P := Try.prog) el31 h130 h162
                  obtain ⟨c166, rfl, g167⟩ := api_Chunk.o.1 h164
                  refine sr (h165 _ (Sm.refl _ _) rfl) ?_
                  refine sc (dc_allocO (x0 := (api_Chunk.mk (0 : Int) ([] : List api_Point))) (base := w.heap.size) el31 zr35 (fun _ => api_Chunk.r.2 ⟨_, rfl, sl_nil _ _ _⟩) C.up.size C.sb fun b168 w169 h170 h171 u172 => ?_)
                  have p173 := ap_fresh h171 (fun b hb => (h133.lt b hb).1)
                  have p174 := ap_fresh h171 (fun b hb => (h141.lt b hb).1)
                  replace h133 := h133.nw u172
                  replace h141 := h141.nw u172
                  replace h130 := h130.nw u172
                  replace g167 := g167.nw u172
                  replace h61 := h61.nw u172
                  replace C := C.new u172
                  obtain ⟨y175, h176, h158⟩ := pur_some h158
                  have h180 := h170
                  refine sc (dc_storeO el31 h180 (show at_ [(api_Chunk.mk (0 : Int) ([] : List api_Point))] (0 : Int) = some (api_Chunk.mk (0 : Int) ([] : List api_Point)) from rfl) rfl rfl ((api_Chunk.o.2 ⟨_, rfl, g167⟩)) fun w177 h178 u179 => ?_)
                  replace h178 : Ow api_Chunk.k 35 S139 w.heap.size w177 (.slice (some ⟨b168, 0, none⟩) 1 1) [y161] := h178
                  rw [h176] at h178
                  replace h133 := h133.wr u179 h180.not (ap_symm p173)
                  replace h141 := h141.wr u179 h180.not (ap_symm p174)
                  replace h130 := h130.wr u179 h180.not
                  replace h61 := h61.wr u179 h180.not
                  replace C := C.ow h180 u179
                  refine W.e (k160 _ _ ?_)
                  refine cw_seq fun K181 k182 => ?_
                  refine cw_region (sv (rv_fieldAddr st35 rfl rfl) ?_)
                  obtain ⟨cs183, h184, h185⟩ := Ow.cellsO h178 (show at_ [y175] (0 : Int) = some y175 from rfl)
                  obtain ⟨c186, rfl, g187⟩ := api_Chunk.r.1 h184
                  refine sr (rw_el1 (off := 1) ag33 (h185 _ (Sm.refl _ _)) rfl rfl) (sv (rv_lenS el33 g187 rfl) (sv (mvv (.int .i64 0) rfl) (W.e (k182 _ _ (cw_block ?_)))))
                  refine cw_iter h158 (fun s ρ w1 => ∃ S1 fp192, Cx No S w S1 w1 ∧ Has ρ [(5, .bool y5), (6, v17), (8, c40), (12, .pointer (some ⟨b168, 0, none⟩)), (49, v60), (50, .int .i64 (y55.length : Int)), (51, .int .i64 x74), (74, v129), (75, .int .i64 (y124.1.length : Int)), (76, .int .i64 x146), (81, c186), (82, .int .i64 (y175.Points.length : Int)), (83, .int .i64 s.1)] ∧ Ow api_Chunk.k 35 S1 w.heap.size w1 (.slice (some ⟨b168, 0, none⟩) 1 1) ([y175]) ∧ Sl (kSl marigraphlaw11_Act.k) S1 w1 v60 y55 ∧ Sl (kSl api_Chunk.k) S1 w1 v129 y124.1 ∧ Sl (kSl api_Point.k) S1 w1 c186 y175.Points ∧ Obo 67 head_Head.fs S1 w1 v17 y124.2 cs131 fp132 ∧ Mo (fMap ky_marigraphref11_Item kB) S1 w1 c40 s.2 fp192 ∧ (∀ b, b ∈ fp192 → w.heap.size ≤ b) ∧ (∀ b, Blk (.slice (some ⟨b168, 0, none⟩) 1 1) b → ¬ b ∈ fp132) ∧ (∀ b, Blk (.slice (some ⟨b168, 0, none⟩) 1 1) b → ¬ b ∈ fp192) ∧ (∀ b, b ∈ fp132 → ¬ b ∈ fp192)) ⟨_, _, C, ⟨rfl, rfl, rfl, rfl, rfl, rfl, rfl, rfl, rfl, rfl, rfl, rfl, rfl, trivial⟩, h178, h61, h130, g187, h133, h141, h143, p173, p174, p144⟩ ?_
                  rintro ⟨x198, x199⟩ q188 ρ w190 ⟨S189, fp192, C, h197, h178, h61, h130, g187, h133, h191, h193, p194, p195, p196⟩ h201 h200
                  refine h197.cw fun ρ => ?_
                  clear h197
                  replace h201 : marigraphlaw11_HeadKeeps.b8 y175 x198 x199 = some q188 := h201
                  unfold marigraphlaw11_HeadKeeps.b8 at h201
                  refine cw_seq fun K202 k203 => ?_
                  refine cw_region (sv (rv_lss rfl rfl) (W.e (k203 _ _ ?_)))
                  refine cw_seq fun K204 k205 => ?_
                  rcases bif_some h201 with ⟨b206, h201⟩ | ⟨b206, h201⟩
                  · refine cw_t rfl b206 (cw_skip (k205 _ _ ?_))
                    refine cw_seq fun K207 k208 => ?_
                    refine cw_block ?_
                    refine cw_seq fun K209 k210 => ?_
                    refine cw_region ?_
                    obtain ⟨y211, h212, h201⟩ := bnd_some h201
                    refine sv (rv_index el33 g187 rfl rfl h212) ?_
                    obtain ⟨v213, h214, h215⟩ := rw_loadA (P := Try.prog) el33 g187 h212
                    obtain rfl := api_Point.o.1 h214
                    refine sr (h215 _ (Sm.refl _ _) rfl) ?_
                    refine sc (dc_allocO (x0 := (api_Point.mk (0 : Int) (0 : Int))) (base := w.heap.size) el33 zr29 (fun _ => api_Point.r.2 rfl) C.up.size C.sb fun b216 w217 h218 h219 u220 => ?_)
                    have p221 := ap_fresh h219 (fun b hb => (h133.lt b hb).1)
                    have p222 := ap_fresh h219 (fun b hb => (h191.lt b hb).1)
                    have p223 := ap_fresh h219 (fun b hb => (h178.lt b hb).2)
                    replace h133 := h133.nw u220
                    replace h191 := h191.nw u220
                    replace h130 := h130.nw u220
                    replace h178 := h178.nw u220
                    replace g187 := g187.nw u220
                    replace h61 := h61.nw u220
                    replace C := C.new u220
                    obtain ⟨y224, h225, h201⟩ := pur_some h201
                    have h229 := h218
                    refine sc (dc_storeO el33 h229 (show at_ [(api_Point.mk (0 : Int) (0 : Int))] (0 : Int) = some (api_Point.mk (0 : Int) (0 : Int)) from rfl) rfl rfl (((api_Point.o (x := y211)).2 rfl)) fun w226 h227 u228 => ?_)
                    replace h227 : Ow api_Point.k 29 S189 w.heap.size w226 (.slice (some ⟨b216, 0, none⟩) 1 1) [y211] := h227
                    rw [h225] at h227
                    replace h133 := h133.wr u228 h229.not (ap_symm p221)
                    replace h191 := h191.wr u228 h229.not (ap_symm p222)
                    replace h130 := h130.wr u228 h229.not
                    replace h178 := h178.wr u228 h229.not (ap_symm p223)
                    replace g187 := g187.wr u228 h229.not
                    replace h61 := h61.wr u228 h229.not
                    replace C := C.ow h229 u228
                    refine W.e (k210 _ _ ?_)
                    refine cw_seq fun K230 k231 => ?_
                    refine cw_region (sv (rv_fieldAddr st35 rfl rfl) ?_)
                    obtain ⟨cs232, h233, h234⟩ := Ow.cellsO h178 (show at_ [y175] (0 : Int) = some y175 from rfl)
                    obtain ⟨c235, rfl, g236⟩ := api_Chunk.r.1 h233
                    refine sr (rw_el1 (off := 0) ag3 (h234 _ (Sm.refl _ _)) rfl rfl) ?_
                    obtain ⟨v237, h238, h239⟩ := rw_loadO (P := Try.prog) el33 h227 (show at_ [y224] (0 : Int) = some y224 from rfl)
                    obtain rfl := api_Point.o.1 h238
                    refine sr (h239 _ (Sm.refl _ _) rfl) (sv (rv_build (r := [.int .i64 y175.Id, .int .i64 y224.T, .int .i64 y224.V]) st44 zr44 rfl) ?_)
                    refine sc (dc_allocO (x0 := (marigraphref11_Item.mk (0 : Int) (api_Point.mk (0 : Int) (0 : Int)))) (base := w.heap.size) el38 zr44 (fun _ => marigraphref11_Item.r.2 rfl) C.up.size C.sb fun b240 w241 h242 h243 u244 => ?_)
                    have p245 := ap_fresh h243 (fun b hb => (h133.lt b hb).1)
                    have p246 := ap_fresh h243 (fun b hb => (h191.lt b hb).1)
                    have p247 := ap_fresh h243 (fun b hb => (h178.lt b hb).2)
                    replace h133 := h133.nw u244
                    replace h191 := h191.nw u244
                    replace h130 := h130.nw u244
                    replace h178 := h178.nw u244
                    replace g187 := g187.nw u244
                    replace h61 := h61.nw u244
                    replace C := C.new u244
                    obtain ⟨y248, h249, h201⟩ := pur_some h201
                    have h253 := h242
                    refine sc (dc_storeO el38 h253 (show at_ [(marigraphref11_Item.mk (0 : Int) (api_Point.mk (0 : Int) (0 : Int)))] (0 : Int) = some (marigraphref11_Item.mk (0 : Int) (api_Point.mk (0 : Int) (0 : Int))) from rfl) rfl rfl (((marigraphref11_Item.o (x := (marigraphref11_Item.mk y175.Id (api_Point.mk y224.T y224.V)))).2 rfl)) fun w250 h251 u252 => ?_)
                    replace h251 : Ow marigraphref11_Item.k 44 S189 w.heap.size w250 (.slice (some ⟨b240, 0, none⟩) 1 1) [(marigraphref11_Item.mk y175.Id (api_Point.mk y224.T y224.V))] := h251
                    rw [h249] at h251
                    replace h133 := h133.wr u252 h253.not (ap_symm p245)
                    replace h191 := h191.wr u252 h253.not (ap_symm p246)
                    replace h130 := h130.wr u252 h253.not
                    replace h178 := h178.wr u252 h253.not (ap_symm p247)
                    replace g187 := g187.wr u252 h253.not
                    replace h61 := h61.wr u252 h253.not
                    replace C := C.ow h253 u252
                    refine W.e (k231 _ _ ?_)
                    refine cw_seq fun K254 k255 => ?_
                    refine cw_seq fun K256 k257 => ?_
                    refine cw_region (sv (mvv c40 rfl) ?_)
                    obtain ⟨v258, h259, h260⟩ := rw_loadO (P := Try.prog) el38 h251 (show at_ [y248] (0 : Int) = some y248 from rfl)
                    obtain rfl := marigraphref11_Item.o.1 h259
                    refine sr (h260 _ (Sm.refl _ _) rfl) ?_
                    obtain ⟨v261, h262, h263⟩ := rep_look (P := Try.prog) (tm := 56) (te := 4) (y0 := false) h191.1 Try.underlying56 zv4 (sl_sc.2 rfl) y248
                    obtain rfl := sl_sc.1 h262
                    refine sr ((h263 (Sm.refl _ _) rfl rfl).1) (sv (rv_not rfl) (W.e (k257 _ _ ?_)))
                    rcases bif_some h201 with ⟨b264, h201⟩ | ⟨b264, h201⟩
                    · refine cw_t rfl b264 ?_
                      refine cw_seq fun K265 k266 => ?_
                      refine cw_region (sv (asv (.bool false) rfl) (W.e (k266 _ _ (cw_ret ?_))))
                      obtain rfl := Option.some.inj h201
                      have h267 := congrArg some h200
                      obtain rfl := Option.some.inj h267
                      replace h149 := h149.2 _ rfl
                      obtain rfl := Option.some.inj h149
                      have h268 := congrArg some h148
                      obtain rfl := Option.some.inj h268
                      replace h87 := h87.2 _ rfl
                      obtain rfl := Option.some.inj h87
                      replace h78 := h78.2 _ rfl
                      obtain rfl := Option.some.inj h78
                      have h269 := congrArg some h77
                      obtain rfl := Option.some.inj h269
                      replace h := h.2 _ rfl
                      obtain rfl := Option.some.inj h
                      exact ⟨_, rfl, _, rfl, C⟩
                    · refine cw_f rfl b264 (cw_skip (k255 _ _ (cw_region (sv (mvv c40 rfl) ?_))))
                      obtain ⟨v270, h271, h272⟩ := rw_loadO (P := Try.prog) el38 h251 (show at_ [y248] (0 : Int) = some y248 from rfl)
                      obtain rfl := marigraphref11_Item.o.1 h271
                      refine sr (h272 _ (Sm.refl _ _) rfl) ?_
                      obtain ⟨y273, h274, h201⟩ := pur_some h201
                      have h279 : ∀ b, b ∈ fp192 → ¬ S189 b := fun b hb => (h191.lt b hb).2
                      refine sc (dc_mmdel (a := y248) h191 Try.underlying56 rfl rfl fun w275 h276 u277 => ?_)
                      replace h276 : Mo (fMap ky_marigraphref11_Item kB) S189 w275 c40 (mrem y248 x199) fp192 := h276
                      rw [h274] at h276
                      have c278 := Cx.ofUp C.sb u277
                      replace h133 := h133.cf c278 h279 p196
                      replace h130 := h130.cf c278 h279
                      replace h178 := h178.cf c278 h279 p195
                      replace g187 := g187.cf c278 h279
                      replace h61 := h61.cf c278 h279
                      replace C := C.ofc c278 (fun b hb => .inr (h193 b hb))
                      refine W.e (k208 _ _ (cw_region ?_))
                      obtain ⟨y280, h281, h201⟩ := pur_some h201
                      refine sv (rv_add rfl rfl h281) (sv (mvv (.int .i64 y280) rfl) (W.e ?_))
                      obtain rfl := Option.some.inj h201
                      exact ⟨_, rfl, ⟨_, _, C, ⟨rfl, rfl, rfl, rfl, rfl, rfl, rfl, rfl, rfl, rfl, rfl, rfl, rfl, trivial⟩, h178, h61, h130, g187, h133, h276, h193, p194, p195, p196⟩⟩
                  · refine cw_f rfl b206 (cw_exit ?_)
                    obtain rfl := Option.some.inj h201
                    have h282 := congrArg some h200
                    obtain rfl := Option.some.inj h282
                    exact ⟨_, rfl, ⟨_, _, C, ⟨rfl, rfl, rfl, rfl, rfl, rfl, rfl, rfl, rfl, trivial⟩, h61, h130, h133, h191, h193, p196⟩⟩
                · rintro ρ w284 ⟨o155n, rfl, ⟨S283, fp286, C, h289, h61, h130, h133, h285, h287, p288⟩⟩
                  replace h149 := h149.1 _ rfl
                  refine h289.cw fun ρ => ?_
                  clear h289
                  refine cw_region ?_
                  obtain ⟨y290, h291, h149⟩ := pur_some h149
                  refine sv (rv_add rfl rfl h291) (sv (mvv (.int .i64 y290) rfl) (W.e ?_))
                  obtain rfl := Option.some.inj h149
                  exact ⟨_, rfl, ⟨_, _, C, ⟨rfl, rfl, rfl, rfl, rfl, rfl, rfl, rfl, rfl, trivial⟩, h61, h130, h133, h285, h287, p288⟩⟩
              · refine cw_f rfl b154 (cw_exit ?_)
                obtain rfl := Option.some.inj h149
                have h292 := congrArg some h148
                obtain rfl := Option.some.inj h292
                exact ⟨_, rfl, ⟨_, _, _, _, C, ⟨rfl, rfl, rfl, rfl, rfl, rfl, trivial⟩, h61, h133, h137, h141, h143, p144⟩⟩
            · refine cw_f rfl b121 ?_
              refine cw_seq fun K293 k294 => ?_
              refine cw_region (sv (rv_eql rfl rfl) (sv (asv (.bool (y117 == (6 : Int))) rfl) (W.e (k294 _ _ ?_))))
              rcases bif_some h111 with ⟨b295, h111⟩ | ⟨b295, h111⟩
              · refine cw_t rfl b295 ?_
                refine cw_seq fun K296 k297 => ?_
                refine cw_region (sv (asv (.int .i64 0) rfl) (W.e (k297 _ _ ?_)))
                obtain ⟨o298, h301, h111⟩ := bnd_some h111
                refine cw_seq' (fun ρ w1 => ∃ S1 fp384, Cx No S w S1 w1 ∧ Has ρ [(5, .bool y5), (6, v17), (8, c40), (10, .pointer (some ⟨b95, 0, none⟩)), (16, .int .i64 o298.1), (49, v60), (50, .int .i64 (y55.length : Int)), (51, .int .i64 x74)] ∧ Ow marigraphlaw11_Act.k 41 S1 w.heap.size w1 (.slice (some ⟨b95, 0, none⟩) 1 1) ([y102]) ∧ Sl (kSl marigraphlaw11_Act.k) S1 w1 v60 y55 ∧ Obo 67 head_Head.fs S1 w1 v17 x75 cs68 fp66 ∧ Mo (fMap ky_marigraphref11_Item kB) S1 w1 c40 o298.2 fp384 ∧ (∀ b, b ∈ fp384 → w.heap.size ≤ b) ∧ (∀ b, Blk (.slice (some ⟨b95, 0, none⟩) 1 1) b → ¬ b ∈ fp66) ∧ (∀ b, Blk (.slice (some ⟨b95, 0, none⟩) 1 1) b → ¬ b ∈ fp384) ∧ (∀ b, b ∈ fp66 → ¬ b ∈ fp384)) ?_ ?_
                · refine cw_seq fun K302 k303 => ?_
                  refine cw_region (sv (mvv c40 rfl) ?_)
                  refine sc (dc_mrange h69 C.sb Try.underlying56 rfl fun r304 L305 w306 h307 h308 h309 u310 => ?_)
                  have h311 : ∀ b, b ∈ (fp70 ++ [r304]) → b ∈ fp70 ∨ w104.heap.size ≤ b := fun b hq => (List.mem_append.1 hq).imp id fun hq => by rw [List.mem_singleton.1 hq]; exact h309
                  have p312 := ap_grow (ap_symm p72) h311 (fun b hb => (h65.lt b hb).1)
                  have p313 := ap_grow (ap_symm p101) h311 (fun b hb => (h105.lt b hb).2)
                  have h314 : ∀ b, b ∈ (fp70 ++ [r304]) → w.heap.size ≤ b := fun b hb => (h311 b hb).elim (h71 b) (fun hl => Nat.le_trans C.up.size hl)
                  replace h65 := h65.nw u310
                  replace h105 := h105.nw u310
                  replace h61 := h61.nw u310
                  replace C := C.new u310
                  refine W.e (k303 _ _ (cw_block ?_))
                  obtain ⟨o319, h333, h301⟩ := bnd_some h301
                  refine cw_loop (fun n ρ w1 => ∃ (R315 : List (marigraphref11_Item × Value × Nat)) (l316 : Option (marigraphref11_Item × Value × Nat)) (d317 : List marigraphref11_Item) (s318 : Int), n = R315.length ∧ (d317 ++ R315.map (·.1)).Perm (List.map (fun (z : marigraphref11_Item × Bool) => z.1) x76) ∧ runf (fun (kk353 : marigraphref11_Item) (s318 : Int) => marigraphlaw11_HeadKeeps.b10 y102 kk353 s318) d317 (0 : Int) = some s318 ∧ ∃ S1, Cx No S w S1 w1 ∧ Has ρ [(5, .bool y5), (6, v17), (8, c40), (10, .pointer (some ⟨b95, 0, none⟩)), (16, .int .i64 s318), (49, v60), (50, .int .i64 (y55.length : Int)), (51, .int .i64 x74), (102, .pointer (some ⟨r304, 0, none⟩))] ∧ Ow marigraphlaw11_Act.k 41 S1 w.heap.size w1 (.slice (some ⟨b95, 0, none⟩) 1 1) ([y102]) ∧ Sl (kSl marigraphlaw11_Act.k) S1 w1 v60 y55 ∧ Obo 67 head_Head.fs S1 w1 v17 x75 cs68 fp66 ∧ Mo (fMapI ky_marigraphref11_Item kB r304 R315 l316) S1 w1 c40 x76 (fp70 ++ [r304]) ∧ (∀ b, Blk (.slice (some ⟨b95, 0, none⟩) 1 1) b → ¬ b ∈ fp66) ∧ (∀ b, Blk (.slice (some ⟨b95, 0, none⟩) 1 1) b → ¬ b ∈ (fp70 ++ [r304])) ∧ (∀ b, b ∈ fp66 → ¬ b ∈ (fp70 ++ [r304]))) _ ⟨L305, none, [], (0 : Int), rfl, List.Perm.of_eq h307, rfl, ⟨_, C, ⟨rfl, rfl, rfl, rfl, rfl, rfl, rfl, rfl, rfl, trivial⟩, h105, h61, h65, h308, p100, (ap_symm p313), (ap_symm p312)⟩⟩ ?_
                  rintro n ρ w321 ⟨R315, l316, d317, x326, rfl, h334, h335, ⟨S320, C, h325, h105, h61, h65, h308, p322, p323, p324⟩⟩
                  refine h325.cw fun ρ => ?_
                  clear h325
                  refine cw_seq fun K337 k338 => cw_region (sc (dc_mnext h308 rfl ?_ ?_))
                  · intro h336
                    obtain rfl := rng_end h333 h334 h335 h336
                    refine sv (rv_extract rfl rfl) (W.e (k338 _ _ (cw_seq fun K339 k340 => cw_f rfl rfl (cw_exit ?_))))
                    obtain ⟨b327, h328, h329⟩ := h308.done
                    have h330 : ∀ q, q ∈ [b327] → w.heap.size ≤ q := fun q hq => by rw [List.mem_singleton.1 hq]; exact h314 _ h329
                    have p331 : ∀ q, q ∈ [b327] → ¬ q ∈ fp66 := fun q hq => by rw [List.mem_singleton.1 hq]; exact (ap_symm p324) _ h329
                    have p332 : ∀ q, q ∈ [b327] → ¬ Blk (.slice (some ⟨b95, 0, none⟩) 1 1) q := fun q hq => by rw [List.mem_singleton.1 hq]; exact (ap_symm p323) _ h329
                    obtain rfl := Option.some.inj h301
                    exact ⟨_, _, C, ⟨rfl, rfl, rfl, rfl, rfl, rfl, rfl, rfl, trivial⟩, h105, h61, h65, h328, h330, p322, (ap_symm p332), (ap_symm p331)⟩
                  · intro e341 w342 h343 h344 h345 u346
                    obtain ⟨q347, h348⟩ := rng_mid h333 h334 h335 h343
                    have h350 := runf_snoc h335 h348
                    have h349 := (keys_step h343 h308.born).trans h334
                    have h351 : ∀ b, b ∈ (fp70 ++ [r304]) → ¬ S320 b := fun b hb => (h308.lt b hb).2
                    have c352 := Cx.ofUp C.sb u346
                    replace h65 := h65.cf c352 h351 p324
                    replace h105 := h105.cf c352 h351 p323
                    replace h61 := h61.cf c352 h351
                    replace C := C.ofc c352 (fun b hb => .inr (h314 b hb))
                    replace h348 : marigraphlaw11_HeadKeeps.b10 y102 e341.1 x326 = some q347 := h348
                    unfold marigraphlaw11_HeadKeeps.b10 at h348
                    refine sv (rv_extract rfl rfl) (W.e (k338 _ _ (cw_seq fun K339 k340 => cw_t rfl rfl (cw_skip (k340 _ _ ?_)))))
                    refine cw_block ?_
                    refine cw_seq fun K354 k355 => ?_
                    refine cw_region (sr (h345 rfl) (sv (rv_extract rfl rfl) ?_))
                    refine sc (dc_allocO (x0 := (marigraphref11_Item.mk (0 : Int) (api_Point.mk (0 : Int) (0 : Int)))) (base := w.heap.size) el38 zr44 (fun _ => marigraphref11_Item.r.2 rfl) C.up.size C.sb fun b356 w357 h358 h359 u360 => ?_)
                    have p361 := ap_fresh h359 (fun b hb => (h344.lt b hb).1)
                    have p362 := ap_fresh h359 (fun b hb => (h65.lt b hb).1)
                    have p363 := ap_fresh h359 (fun b hb => (h105.lt b hb).2)
                    replace h344 := h344.nw u360
                    replace h65 := h65.nw u360
                    replace h105 := h105.nw u360
                    replace h61 := h61.nw u360
                    replace C := C.new u360
                    obtain ⟨y364, h365, h348⟩ := pur_some h348
                    have h369 := h358
                    refine sc (dc_storeO el38 h369 (show at_ [(marigraphref11_Item.mk (0 : Int) (api_Point.mk (0 : Int) (0 : Int)))] (0 : Int) = some (marigraphref11_Item.mk (0 : Int) (api_Point.mk (0 : Int) (0 : Int))) from rfl) rfl rfl (((marigraphref11_Item.o (x := e341.1)).2 rfl)) fun w366 h367 u368 => ?_)
                    replace h367 : Ow marigraphref11_Item.k 44 S320 w.heap.size w366 (.slice (some ⟨b356, 0, none⟩) 1 1) [e341.1] := h367
                    rw [h365] at h367
                    replace h344 := h344.wr u368 h369.not (ap_symm p361)
                    replace h65 := h65.wr u368 h369.not (ap_symm p362)
                    replace h105 := h105.wr u368 h369.not (ap_symm p363)
                    replace h61 := h61.wr u368 h369.not
                    replace C := C.ow h369 u368
                    refine W.e (k355 _ _ ?_)
                    refine cw_seq fun K370 k371 => ?_
                    refine cw_region (sv (rv_fieldAddr st44 rfl rfl) ?_)
                    obtain ⟨cs372, h373, h374⟩ := Ow.cellsO h367 (show at_ [y364] (0 : Int) = some y364 from rfl)
                    obtain rfl := marigraphref11_Item.r.1 h373
                    refine sr (rw_el1 (off := 0) ag3 (h374 _ (Sm.refl _ _)) rfl rfl) (sv (rv_fieldAddr st41 rfl rfl) ?_)
                    obtain ⟨cs375, h376, h377⟩ := Ow.cellsO h105 (show at_ [y102] (0 : Int) = some y102 from rfl)
                    obtain rfl := marigraphlaw11_Act.r.1 h376
                    refine sr (rw_el1 (off := 1) ag3 (h377 _ (Sm.refl _ _)) rfl rfl) (sv (rv_eql rfl rfl) (W.e (k371 _ _ ?_)))
                    rcases bif_some h348 with ⟨b378, h348⟩ | ⟨b378, h348⟩
                    · refine cw_t rfl b378 (cw_region (sv (mvv (.int .i64 x326) rfl) ?_))
                      obtain ⟨y379, h380, h348⟩ := pur_some h348
                      refine sv (rv_add rfl rfl h380) (sv (asv (.int .i64 y379) rfl) (W.e ?_))
                      obtain rfl := Option.some.inj h348
                      exact ⟨_, rest_lt h343, _, some e341, _, _, rfl, h349, h350, ⟨_, C, ⟨rfl, rfl, rfl, rfl, rfl, rfl, rfl, rfl, rfl, trivial⟩, h105, h61, h65, h344, p322, p323, p324⟩⟩
                    · refine cw_f rfl b378 (cw_skip ?_)
                      obtain rfl := Option.some.inj h348
                      exact ⟨_, rest_lt h343, _, some e341, _, _, rfl, h349, h350, ⟨_, C, ⟨rfl, rfl, rfl, rfl, rfl, rfl, rfl, rfl, rfl, trivial⟩, h105, h61, h65, h344, p322, p323, p324⟩⟩
                · rintro ρ w382 ⟨S381, fp384, C, h389, h105, h61, h65, h383, h385, p386, p387, p388⟩
                  refine h389.cw fun ρ => ?_
                  clear h389
                  refine cw_seq fun K390 k391 => ?_
                  refine cw_seq fun K392 k393 => ?_
                  refine cw_region (sv (mvv v17 rfl) (sv (rv_fieldAddr st41 rfl rfl) ?_))
                  obtain ⟨cs394, h395, h396⟩ := Ow.cellsO h105 (show at_ [y102] (0 : Int) = some y102 from rfl)
                  obtain rfl := marigraphlaw11_Act.r.1 h395
                  refine sr (rw_el1 (off := 1) ag3 (h396 _ (Sm.refl _ _)) rfl rfl) ?_
                  obtain ⟨y397, h398, h111⟩ := bnd_some h111
                  refine sc (dc_call (vs := [v17, .int .i64 y102.Id]) can19 rfl ?_)
                  refine (head_Head_Drop_w C.sb h65 h398).mono ?_
                  rintro _ w399 ⟨S400, cs402, fp403, rfl, c401, h404, h405⟩
                  refine ⟨_, rfl, ?_⟩
                  have h406 : ∀ b, b ∈ fp66 → ¬ S381 b := fun b hb => (h65.lt b hb).2
                  have p407 := ap_grow p388 h405 (fun b hb => (h383.lt b hb).1)
                  have p408 := ap_grow (ap_symm p386) h405 (fun b hb => (h105.lt b hb).2)
                  have h409 : ∀ b, b ∈ fp403 → w.heap.size ≤ b := fun b hb => (h405 b hb).elim (h67 b) (fun hl => Nat.le_trans C.up.size hl)
                  replace h383 := h383.cf c401 h406 (ap_symm p388)
                  replace h105 := h105.cf c401 h406 p386
                  replace h61 := h61.cf c401 h406
                  replace C := C.ofc c401 (fun b hb => .inr (h67 b hb))
                  refine sv (mvv (.int .i64 o298.1) rfl) (sv (rv_neq rfl rfl) (W.e (k393 _ _ ?_)))
                  rcases bif_some h111 with ⟨b410, h111⟩ | ⟨b410, h111⟩
                  · refine cw_t rfl b410 ?_
                    refine cw_seq fun K411 k412 => ?_
                    refine cw_region (sv (asv (.bool false) rfl) (W.e (k412 _ _ (cw_ret ?_))))
                    obtain rfl := Option.some.inj h111
                    replace h87 := h87.2 _ rfl
                    obtain rfl := Option.some.inj h87
                    replace h78 := h78.2 _ rfl
                    obtain rfl := Option.some.inj h78
                    have h413 := congrArg some h77
                    obtain rfl := Option.some.inj h413
                    replace h := h.2 _ rfl
                    obtain rfl := Option.some.inj h
                    exact ⟨_, rfl, _, rfl, C⟩
                  · refine cw_f rfl b410 (cw_skip (k391 _ _ ?_))
                    refine cw_seq fun K414 k415 => ?_
                    refine cw_region (sv (rv_fieldAddr st41 rfl rfl) ?_)
                    obtain ⟨cs416, h417, h418⟩ := Ow.cellsO h105 (show at_ [y102] (0 : Int) = some y102 from rfl)
                    obtain rfl := marigraphlaw11_Act.r.1 h417
                    refine sr (rw_el1 (off := 1) ag3 (h418 _ (Sm.refl _ _)) rfl rfl) ?_
                    refine sc (dc_lit (vs := [.int .i64 y102.Id]) (xs := ([y102.Id] : List Int)) (base := w.heap.size) el51 rfl rfl (.cons (sl_sc.2 rfl) (.nil)) (Nat.le_of_ble_eq_true rfl) C.up.size C.sb fun v419 w420 h421 h422 u423 => ?_)
                    have p424 := ap_fresh h422 (fun b hb => (h404.lt b hb).1)
                    have p425 := ap_fresh h422 (fun b hb => (h383.lt b hb).1)
                    replace h404 := h404.nw u423
                    replace h383 := h383.nw u423
                    replace h61 := h61.nw u423
                    replace C := C.new u423
                    refine sv (rv_lenS el51 h421.sealed rfl) (sv (mvv (.int .i64 0) rfl) (W.e (k415 _ _ (cw_block ?_))))
                    refine cw_iter h111 (fun s ρ w1 => ∃ S1 fp430, Cx No S w S1 w1 ∧ Has ρ [(5, .bool y5), (6, v17), (8, c40), (49, v60), (50, .int .i64 (y55.length : Int)), (51, .int .i64 x74), (122, v419), (123, .int .i64 (([y102.Id] : List Int).length : Int)), (124, .int .i64 s.1)] ∧ Sl (kSl marigraphlaw11_Act.k) S1 w1 v60 y55 ∧ Ow (kI .i64) 3 S1 w.heap.size w1 v419 ([y102.Id] : List Int) ∧ Obo 67 head_Head.fs S1 w1 v17 y397.2 cs402 fp403 ∧ Mo (fMap ky_marigraphref11_Item kB) S1 w1 c40 s.2 fp430 ∧ (∀ b, b ∈ fp430 → w.heap.size ≤ b) ∧ (∀ b, Blk v419 b → ¬ b ∈ fp403) ∧ (∀ b, Blk v419 b → ¬ b ∈ fp430) ∧ (∀ b, b ∈ fp403 → ¬ b ∈ fp430)) ⟨_, _, C, ⟨rfl, rfl, rfl, rfl, rfl, rfl, rfl, rfl, rfl, trivial⟩, h61, h421, h404, h383, h385, p424, p425, p407⟩ ?_
                    rintro ⟨x436, x437⟩ q426 ρ w428 ⟨S427, fp430, C, h435, h61, h421, h404, h429, h431, p432, p433, p434⟩ h439 h438
                    refine h435.cw fun ρ => ?_
                    clear h435
                    replace h439 : marigraphlaw11_HeadKeeps.b11 y102 y397 x436 x437 = some q426 := h439
                    unfold marigraphlaw11_HeadKeeps.b11 at h439
                    refine cw_seq fun K440 k441 => ?_
                    refine cw_region (sv (rv_lss rfl rfl) (W.e (k441 _ _ ?_)))
                    refine cw_seq fun K442 k443 => ?_
                    rcases bif_some h439 with ⟨b444, h439⟩ | ⟨b444, h439⟩
                    · refine cw_t rfl b444 (cw_skip (k443 _ _ ?_))
                      obtain ⟨o445, h448, h439⟩ := bnd_some h439
                      refine cw_seq' (fun ρ w1 => ∃ S1 fp543, Cx No S w S1 w1 ∧ Has ρ [(5, .bool y5), (6, v17), (8, c40), (49, v60), (50, .int .i64 (y55.length : Int)), (51, .int .i64 x74), (122, v419), (123, .int .i64 (([y102.Id] : List Int).length : Int)), (124, .int .i64 x436)] ∧ Sl (kSl marigraphlaw11_Act.k) S1 w1 v60 y55 ∧ Ow (kI .i64) 3 S1 w.heap.size w1 v419 ([y102.Id] : List Int) ∧ Obo 67 head_Head.fs S1 w1 v17 y397.2 cs402 fp403 ∧ Mo (fMap ky_marigraphref11_Item kB) S1 w1 c40 o445 fp543 ∧ (∀ b, b ∈ fp543 → w.heap.size ≤ b) ∧ (∀ b, Blk v419 b → ¬ b ∈ fp403) ∧ (∀ b, Blk v419 b → ¬ b ∈ fp543) ∧ (∀ b, b ∈ fp403 → ¬ b ∈ fp543)) ?_ ?_
                      · refine cw_block ?_
                        refine cw_seq fun K449 k450 => ?_
                        refine cw_region ?_
                        obtain ⟨y451, h452, h448⟩ := bnd_some h448
                        refine sv (rv_index el51 h421.sealed rfl rfl h452) (sr (rw_loadC el51 h421.sealed h452 rfl _ (Sm.refl _ _)) (sv (asv (.int .i64 y451) rfl) (W.e (k450 _ _ ?_))))
                        refine cw_seq fun K453 k454 => ?_
                        refine cw_region (sv (mvv c40 rfl) ?_)
                        refine sc (dc_mrange h429 C.sb Try.underlying56 rfl fun r455 L456 w457 h458 h459 h460 u461 => ?_)
                        have h462 : ∀ b, b ∈ (fp430 ++ [r455]) → b ∈ fp430 ∨ w428.heap.size ≤ b := fun b hq => (List.mem_append.1 hq).imp id fun hq => by rw [List.mem_singleton.1 hq]; exact h460
                        have p463 := ap_grow (ap_symm p434) h462 (fun b hb => (h404.lt b hb).1)
                        have p464 := ap_grow (ap_symm p433) h462 (fun b hb => (h421.lt b hb).2)
                        have h465 : ∀ b, b ∈ (fp430 ++ [r455]) → w.heap.size ≤ b := fun b hb => (h462 b hb).elim (h431 b) (fun hl => Nat.le_trans C.up.size hl)
                        replace h404 := h404.nw u461
                        replace h61 := h61.nw u461
                        replace h421 := h421.nw u461
                        replace C := C.new u461
                        refine W.e (k454 _ _ (cw_block ?_))
                        obtain ⟨o470, h487, h448⟩ := bnd_some h448
                        refine cw_loop (fun n ρ w1 => ∃ (R466 : List (marigraphref11_Item × Value × Nat)) (l467 : Option (marigraphref11_Item × Value × Nat)) (d468 : List marigraphref11_Item) (s469 : (List (marigraphref11_Item × Bool))), n = R466.length ∧ (d468 ++ R466.map (·.1)).Perm (List.map (fun (z : marigraphref11_Item × Bool) => z.1) x437) ∧ runf (fun (kk507 : marigraphref11_Item) (s469 : (List (marigraphref11_Item × Bool))) => marigraphlaw11_HeadKeeps.b13 y451 kk507 s469) d468 x437 = some s469 ∧ ∃ S1 fp474, Cx No S w S1 w1 ∧ Has ρ [(5, .bool y5), (6, v17), (8, c40), (19, .int .i64 y451), (49, v60), (50, .int .i64 (y55.length : Int)), (51, .int .i64 x74), (122, v419), (123, .int .i64 (([y102.Id] : List Int).length : Int)), (124, .int .i64 x436), (129, .pointer (some ⟨r455, 0, none⟩))] ∧ Sl (kSl marigraphlaw11_Act.k) S1 w1 v60 y55 ∧ Ow (kI .i64) 3 S1 w.heap.size w1 v419 ([y102.Id] : List Int) ∧ Obo 67 head_Head.fs S1 w1 v17 y397.2 cs402 fp403 ∧ Mo (fMapI ky_marigraphref11_Item kB r455 R466 l467) S1 w1 c40 s469 fp474 ∧ (∀ b, b ∈ fp474 → w.heap.size ≤ b) ∧ (∀ b, Blk v419 b → ¬ b ∈ fp403) ∧ (∀ b, Blk v419 b → ¬ b ∈ fp474) ∧ (∀ b, b ∈ fp403 → ¬ b ∈ fp474)) _ ⟨L456, none, [], x437, rfl, List.Perm.of_eq h458, rfl, ⟨_, _, C, ⟨rfl, rfl, rfl, rfl, rfl, rfl, rfl, rfl, rfl, rfl, rfl, trivial⟩, h61, h421, h404, h459, h465, p432, (ap_symm p464), (ap_symm p463)⟩⟩ ?_
                        rintro n ρ w472 ⟨R466, l467, d468, x480, rfl, h488, h489, ⟨S471, fp474, C, h479, h61, h421, h404, h473, h475, p476, p477, p478⟩⟩
                        refine h479.cw fun ρ => ?_
                        clear h479
                        refine cw_seq fun K491 k492 => cw_region (sc (dc_mnext h473 rfl ?_ ?_))
                        · intro h490
                          obtain rfl := rng_end h487 h488 h489 h490
                          refine sv (rv_extract rfl rfl) (W.e (k492 _ _ (cw_seq fun K493 k494 => cw_f rfl rfl (cw_exit ?_))))
                          obtain ⟨b481, h482, h483⟩ := h473.done
                          have h484 : ∀ q, q ∈ [b481] → w.heap.size ≤ q := fun q hq => by rw [List.mem_singleton.1 hq]; exact h475 _ h483
                          have p485 : ∀ q, q ∈ [b481] → ¬ q ∈ fp403 := fun q hq => by rw [List.mem_singleton.1 hq]; exact (ap_symm p478) _ h483
                          have p486 : ∀ q, q ∈ [b481] → ¬ Blk v419 q := fun q hq => by rw [List.mem_singleton.1 hq]; exact (ap_symm p477) _ h483
                          obtain rfl := Option.some.inj h448
                          exact ⟨_, _, C, ⟨rfl, rfl, rfl, rfl, rfl, rfl, rfl, rfl, rfl, trivial⟩, h61, h421, h404, h482, h484, p476, (ap_symm p486), (ap_symm p485)⟩
                        · intro e495 w496 h497 h498 h499 u500
                          obtain ⟨q501, h502⟩ := rng_mid h487 h488 h489 h497
                          have h504 := runf_snoc h489 h502
                          have h503 := (keys_step h497 h473.born).trans h488
                          have h505 : ∀ b, b ∈ fp474 → ¬ S471 b := fun b hb => (h473.lt b hb).2
                          have c506 := Cx.ofUp C.sb u500
                          replace h404 := h404.cf c506 h505 p478
                          replace h61 := h61.cf c506 h505
                          replace h421 := h421.cf c506 h505 p477
                          replace C := C.ofc c506 (fun b hb => .inr (h475 b hb))
                          replace h502 : marigraphlaw11_HeadKeeps.b13 y451 e495.1 x480 = some q501 := h502
                          unfold marigraphlaw11_HeadKeeps.b13 at h502
                          refine sv (rv_extract rfl rfl) (W.e (k492 _ _ (cw_seq fun K493 k494 => cw_t rfl rfl (cw_skip (k494 _ _ ?_)))))
                          refine cw_block ?_
                          refine cw_seq fun K508 k509 => ?_
                          refine cw_region (sr (h499 rfl) (sv (rv_extract rfl rfl) ?_))
                          refine sc (dc_allocO (x0 := (marigraphref11_Item.mk (0 : Int) (api_Point.mk (0 : Int) (0 : Int)))) (base := w.heap.size) el38 zr44 (fun _ => marigraphref11_Item.r.2 rfl) C.up.size C.sb fun b510 w511 h512 h513 u514 => ?_)
                          have p515 := ap_fresh h513 (fun b hb => (h498.lt b hb).1)
                          have p516 := ap_fresh h513 (fun b hb => (h404.lt b hb).1)
                          have p517 := ap_fresh h513 (fun b hb => (h421.lt b hb).2)
                          replace h498 := h498.nw u514
                          replace h404 := h404.nw u514
                          replace h61 := h61.nw u514
                          replace h421 := h421.nw u514
                          replace C := C.new u514
                          obtain ⟨y518, h519, h502⟩ := pur_some h502
                          have h523 := h512
                          refine sc (dc_storeO el38 h523 (show at_ [(marigraphref11_Item.mk (0 : Int) (api_Point.mk (0 : Int) (0 : Int)))] (0 : Int) = some (marigraphref11_Item.mk (0 : Int) (api_Point.mk (0 : Int) (0 : Int))) from rfl) rfl rfl (((marigraphref11_Item.o (x := e495.1)).2 rfl)) fun w520 h521 u522 => ?_)
                          replace h521 : Ow marigraphref11_Item.k 44 S471 w.heap.size w520 (.slice (some ⟨b510, 0, none⟩) 1 1) [e495.1] := h521
                          rw [h519] at h521
                          replace h498 := h498.wr u522 h523.not (ap_symm p515)
                          replace h404 := h404.wr u522 h523.not (ap_symm p516)
                          replace h61 := h61.wr u522 h523.not
                          replace h421 := h421.wr u522 h523.not (ap_symm p517)
                          replace C := C.ow h523 u522
                          refine W.e (k509 _ _ ?_)
                          refine cw_seq fun K524 k525 => ?_
                          refine cw_region (sv (rv_fieldAddr st44 rfl rfl) ?_)
                          obtain ⟨cs526, h527, h528⟩ := Ow.cellsO h521 (show at_ [y518] (0 : Int) = some y518 from rfl)
                          obtain rfl := marigraphref11_Item.r.1 h527
                          refine sr (rw_el1 (off := 0) ag3 (h528 _ (Sm.refl _ _)) rfl rfl) (sv (mvv (.int .i64 y451) rfl) (sv (rv_eql rfl rfl) (W.e (k525 _ _ ?_))))
                          rcases bif_some h502 with ⟨b529, h502⟩ | ⟨b529, h502⟩
                          · refine cw_t rfl b529 (cw_region (sv (mvv c40 rfl) ?_))
                            obtain ⟨v530, h531, h532⟩ := rw_loadO (P := Try.prog) el38 h521 (show at_ [y518] (0 : Int) = some y518 from rfl)
                            obtain rfl := marigraphref11_Item.o.1 h531
                            refine sr (h532 _ (Sm.refl _ _) rfl) ?_
                            obtain ⟨y533, h534, h502⟩ := pur_some h502
                            have h539 : ∀ b, b ∈ fp474 → ¬ S471 b := fun b hb => (h498.lt b hb).2
                            refine sc (dc_mmdelI (a := y518) h498 Try.underlying56 h519 rfl rfl fun w535 h536 u537 => ?_)
                            replace h536 : Mo (fMapI ky_marigraphref11_Item kB r455 (R466.filter fun z => !decide (e495.2.2 = z.2.2)) (some e495)) S471 w535 c40 (mrem y518 x480) fp474 := h536
                            rw [h534] at h536
                            have c538 := Cx.ofUp C.sb u537
                            replace h404 := h404.cf c538 h539 p478
                            replace h61 := h61.cf c538 h539
                            replace h421 := h421.cf c538 h539 p477
                            replace C := C.ofc c538 (fun b hb => .inr (h475 b hb))
                            refine W.e ?_
                            obtain rfl := Option.some.inj h502
                            exact ⟨_, rest_lt h497, _, some e495, _, _, rfl, h503, h504, ⟨_, _, C, ⟨rfl, rfl, rfl, rfl, rfl, rfl, rfl, rfl, rfl, rfl, rfl, trivial⟩, h61, h421, h404, h536, h475, p476, p477, p478⟩⟩
                          · refine cw_f rfl b529 (cw_skip ?_)
                            obtain rfl := Option.some.inj h502
                            exact ⟨_, rest_lt h497, _, some e495, _, _, rfl, h503, h504, ⟨_, _, C, ⟨rfl, rfl, rfl, rfl, rfl, rfl, rfl, rfl, rfl, rfl, rfl, trivial⟩, h61, h421, h404, h498, h475, p476, p477, p478⟩⟩
                      · rintro ρ w541 ⟨S540, fp543, C, h548, h61, h421, h404, h542, h544, p545, p546, p547⟩
                        refine h548.cw fun ρ => ?_
                        clear h548
                        refine cw_region ?_
                        obtain ⟨y549, h550, h439⟩ := pur_some h439
                        refine sv (rv_add rfl rfl h550) (sv (mvv (.int .i64 y549) rfl) (W.e ?_))
                        obtain rfl := Option.some.inj h439
                        exact ⟨_, rfl, ⟨_, _, C, ⟨rfl, rfl, rfl, rfl, rfl, rfl, rfl, rfl, rfl, trivial⟩, h61, h421, h404, h542, h544, p545, p546, p547⟩⟩
                    · refine cw_f rfl b444 (cw_exit ?_)
                      obtain rfl := Option.some.inj h439
                      have h551 := congrArg some h438
                      obtain rfl := Option.some.inj h551
                      exact ⟨_, rfl, ⟨_, _, _, _, C, ⟨rfl, rfl, rfl, rfl, rfl, rfl, trivial⟩, h61, h404, h409, h429, h431, p434⟩⟩
              · refine cw_f rfl b295 ?_
                refine cw_seq fun K552 k553 => ?_
                refine cw_region (sv (mvv v17 rfl) (sv (rv_fieldAddr st41 rfl rfl) ?_))
                obtain ⟨cs554, h555, h556⟩ := Ow.cellsO h105 (show at_ [y102] (0 : Int) = some y102 from rfl)
                obtain rfl := marigraphlaw11_Act.r.1 h555
                refine sr (rw_el1 (off := 1) ag3 (h556 _ (Sm.refl _ _)) rfl rfl) (sv (rv_fieldAddr st41 rfl rfl) ?_)
                obtain ⟨cs557, h558, h559⟩ := Ow.cellsO h105 (show at_ [y102] (0 : Int) = some y102 from rfl)
                obtain rfl := marigraphlaw11_Act.r.1 h558
                refine sr (rw_elA (off := 2) ag29 (h559 _ (Sm.refl _ _)) rfl rfl rfl) ?_
                obtain ⟨y560, h561, h111⟩ := bnd_some h111
                refine sc (dc_call (vs := [v17, .int .i64 y102.Id, .agg (List.toArray [.int .i64 y102.P.T, .int .i64 y102.P.V])]) can12 rfl ?_)
                refine (head_Head_Add_w C.sb h65 ((api_Point.o (x := y102.P)).2 rfl) h561).mono ?_
                rintro _ w562 ⟨S563, cs565, fp566, rfl, c564, h567, h568⟩
                refine ⟨_, rfl, ?_⟩
                have h569 : ∀ b, b ∈ fp66 → ¬ S63 b := fun b hb => (h65.lt b hb).2
                have p570 := ap_grow p72 h568 (fun b hb => (h69.lt b hb).1)
                have p571 := ap_grow (ap_symm p100) h568 (fun b hb => (h105.lt b hb).2)
                have h572 : ∀ b, b ∈ fp566 → w.heap.size ≤ b := fun b hb => (h568 b hb).elim (h67 b) (fun hl => Nat.le_trans C.up.size hl)
                replace h69 := h69.cf c564 h569 (ap_symm p72)
                replace h105 := h105.cf c564 h569 p100
                replace h61 := h61.cf c564 h569
                replace C := C.ofc c564 (fun b hb => .inr (h67 b hb))
                refine sv (rv_eql rfl rfl) (W.e (k553 _ _ ?_))
                rcases bif_some h111 with ⟨b573, h111⟩ | ⟨b573, h111⟩
                · refine cw_t rfl b573 (cw_region (sv (mvv c40 rfl) (sv (rv_fieldAddr st41 rfl rfl) ?_)))
                  obtain ⟨cs574, h575, h576⟩ := Ow.cellsO h105 (show at_ [y102] (0 : Int) = some y102 from rfl)
                  obtain rfl := marigraphlaw11_Act.r.1 h575
                  refine sr (rw_el1 (off := 1) ag3 (h576 _ (Sm.refl _ _)) rfl rfl) (sv (rv_fieldAddr st41 rfl rfl) ?_)
                  obtain ⟨cs577, h578, h579⟩ := Ow.cellsO h105 (show at_ [y102] (0 : Int) = some y102 from rfl)
                  obtain rfl := marigraphlaw11_Act.r.1 h578
                  refine sr (rw_elA (off := 2) ag29 (h579 _ (Sm.refl _ _)) rfl rfl rfl) (sv (rv_build (r := [.int .i64 y102.Id, .int .i64 y102.P.T, .int .i64 y102.P.V]) st44 zr44 rfl) ?_)
                  obtain ⟨y580, h581, h111⟩ := pur_some h111
                  have h586 : ∀ b, b ∈ fp70 → ¬ S563 b := fun b hb => (h69.lt b hb).2
                  refine sc (dc_mmset (a := (marigraphref11_Item.mk y102.Id (api_Point.mk y102.P.T y102.P.V))) h69 Try.underlying56 rfl rfl rfl (sl_sc.2 rfl) fun w582 h583 u584 => ?_)
                  replace h583 : Mo (fMap ky_marigraphref11_Item kB) S563 w582 c40 (mput (marigraphref11_Item.mk y102.Id (api_Point.mk y102.P.T y102.P.V)) true x76) fp70 := h583
                  rw [h581] at h583
                  have c585 := Cx.ofUp C.sb u584
                  replace h61 := h61.cf c585 h586
                  replace h567 := h567.cf c585 h586 p570
                  replace C := C.ofc c585 (fun b hb => .inr (h71 b hb))
                  refine W.e ?_
                  obtain rfl := Option.some.inj h111
                  exact ⟨_, rfl, ⟨_, _, _, _, C, ⟨rfl, rfl, rfl, rfl, rfl, rfl, trivial⟩, h61, h567, h572, h583, h71, p570⟩⟩
                · refine cw_f rfl b573 (cw_skip ?_)
                  obtain rfl := Option.some.inj h111
                  exact ⟨_, rfl, ⟨_, _, _, _, C, ⟨rfl, rfl, rfl, rfl, rfl, rfl, trivial⟩, h61, h567, h572, h69, h71, p570⟩⟩
          · rintro ρ w588 ⟨o108n, rfl, ⟨S587, fp590, cs592, fp594, C, h597, h61, h589, h591, h593, h595, p596⟩⟩
            replace h87 := h87.1 _ rfl
            refine h597.cw fun ρ => ?_
            clear h597
            refine cw_seq fun K598 k599 => ?_
            refine cw_region (sv (asv (.int .i64 0) rfl) (W.e (k599 _ _ ?_)))
            obtain ⟨o600, h603, h87⟩ := bnds_some h87
            refine cw_seq' (fun ρ w1 => ∃ o600n, o600 = (.inl o600n) ∧ ∃ S1, Cx No S w S1 w1 ∧ Has ρ [(5, .bool y5), (6, v17), (8, c40), (21, .int .i64 o600n), (49, v60), (50, .int .i64 (y55.length : Int)), (51, .int .i64 x74)] ∧ Sl (kSl marigraphlaw11_Act.k) S1 w1 v60 y55 ∧ Obo 67 head_Head.fs S1 w1 v17 o108n.1 cs592 fp590 ∧ Mo (fMap ky_marigraphref11_Item kB) S1 w1 c40 o108n.2 fp594 ∧ (∀ b, b ∈ fp590 → ¬ b ∈ fp594)) ?_ ?_
            · refine cw_seq fun K604 k605 => ?_
              refine cw_region (sv (mvv v17 rfl) ?_)
              obtain ⟨y606, h607, h603⟩ := bnd_some h603
              refine sc (dc_call (vs := [v17]) can20 rfl ?_)
              refine (head_Head_Ids_w C.sb h589 h607).mono ?_
              rintro _ w608 ⟨S609, v611, rfl, c610, h612⟩
              refine ⟨_, rfl, ?_⟩
              have p613 := ap_fresh (fun b hb => (h612.lt b hb).1) (fun b hb => (h589.lt b hb).1)
              have p614 := ap_fresh (fun b hb => (h612.lt b hb).1) (fun b hb => (h593.lt b hb).1)
              replace h612 := h612.base C.up.size
              replace h589 := h589.cx c610
              replace h593 := h593.cx c610
              replace h61 := h61.cx c610
              replace C := C.trans c610
              refine sv (rv_lenS el51 h612.sealed rfl) (sv (mvv (.int .i64 0) rfl) (W.e (k605 _ _ (cw_block ?_))))
              refine cw_iter h603 (fun s ρ w1 => ∃ S1, Cx No S w S1 w1 ∧ Has ρ [(5, .bool y5), (6, v17), (8, c40), (21, .int .i64 s.1), (49, v60), (50, .int .i64 (y55.length : Int)), (51, .int .i64 x74), (142, v611), (143, .int .i64 (y606.length : Int)), (144, .int .i64 s.2)] ∧ Sl (kSl marigraphlaw11_Act.k) S1 w1 v60 y55 ∧ Ow (kI .i64) 3 S1 w.heap.size w1 v611 y606 ∧ Obo 67 head_Head.fs S1 w1 v17 o108n.1 cs592 fp590 ∧ Mo (fMap ky_marigraphref11_Item kB) S1 w1 c40 o108n.2 fp594 ∧ (∀ b, Blk v611 b → ¬ b ∈ fp590) ∧ (∀ b, Blk v611 b → ¬ b ∈ fp594) ∧ (∀ b, b ∈ fp590 → ¬ b ∈ fp594)) ⟨_, C, ⟨rfl, rfl, rfl, rfl, rfl, rfl, rfl, rfl, rfl, rfl, trivial⟩, h61, h612, h589, h593, p613, p614, p596⟩ ?_
              rintro ⟨x622, x623⟩ q615 ρ w617 ⟨S616, C, h621, h61, h612, h589, h593, p618, p619, p620⟩ h625 h624
              refine h621.cw fun ρ => ?_
              clear h621
              replace h625 : marigraphlaw11_HeadKeeps.b15 o108n y606 x622 x623 = some q615 := h625
              unfold marigraphlaw11_HeadKeeps.b15 at h625
              refine cw_seq fun K626 k627 => ?_
              refine cw_region (sv (rv_lss rfl rfl) (W.e (k627 _ _ ?_)))
              refine cw_seq fun K628 k629 => ?_
              rcases bif_some h625 with ⟨b630, h625⟩ | ⟨b630, h625⟩
              · refine cw_t rfl b630 (cw_skip (k629 _ _ ?_))
                obtain ⟨o631, h634, h625⟩ := bnds_some h625
                refine cw_seq' (fun ρ w1 => ∃ o631n, o631 = (.inl o631n) ∧ ∃ S1, Cx No S w S1 w1 ∧ Has ρ [(5, .bool y5), (6, v17), (8, c40), (21, .int .i64 o631n), (49, v60), (50, .int .i64 (y55.length : Int)), (51, .int .i64 x74), (142, v611), (143, .int .i64 (y606.length : Int)), (144, .int .i64 x623)] ∧ Sl (kSl marigraphlaw11_Act.k) S1 w1 v60 y55 ∧ Ow (kI .i64) 3 S1 w.heap.size w1 v611 y606 ∧ Obo 67 head_Head.fs S1 w1 v17 o108n.1 cs592 fp590 ∧ Mo (fMap ky_marigraphref11_Item kB) S1 w1 c40 o108n.2 fp594 ∧ (∀ b, Blk v611 b → ¬ b ∈ fp590) ∧ (∀ b, Blk v611 b → ¬ b ∈ fp594) ∧ (∀ b, b ∈ fp590 → ¬ b ∈ fp594)) ?_ ?_
                · refine cw_block ?_
                  refine cw_seq fun K635 k636 => ?_
                  refine cw_region ?_
                  obtain ⟨y637, h638, h634⟩ := bnd_some h634
                  refine sv (rv_index el51 h612.sealed rfl rfl h638) (sr (rw_loadC el51 h612.sealed h638 rfl _ (Sm.refl _ _)) (sv (asv (.int .i64 y637) rfl) (W.e (k636 _ _ ?_))))
                  refine cw_seq fun K639 k640 => ?_
                  refine cw_region (sv (mvv v17 rfl) (sv (mvv (.int .i64 y637) rfl) ?_))
                  obtain ⟨y641, h642, h634⟩ := bnd_some h634
                  refine sc (dc_call (vs := [v17, .int .i64 y637]) can16 rfl ?_)
                  refine (head_Head_Points_w C.sb h589 h642).mono ?_
                  rintro _ w643 ⟨S644, v646, rfl, c645, h647⟩
                  refine ⟨_, rfl, ?_⟩
                  have p648 := ap_fresh (fun b hb => (h647.lt b hb).1) (fun b hb => (h589.lt b hb).1)
                  have p649 := ap_fresh (fun b hb => (h647.lt b hb).1) (fun b hb => (h593.lt b hb).1)
                  have p650 := ap_fresh (fun b hb => (h647.lt b hb).1) (fun b hb => (h612.lt b hb).2)
                  replace h647 := h647.base C.up.size
                  replace h589 := h589.cx c645
                  replace h593 := h593.cx c645
                  replace h612 := h612.cx c645
                  replace h61 := h61.cx c645
                  replace C := C.trans c645
                  refine sv (rv_lenS el33 h647.sealed rfl) (sv (mvv (.int .i64 0) rfl) (W.e (k640 _ _ (cw_block ?_))))
                  refine cw_iter h634 (fun s ρ w1 => ∃ S1, Cx No S w S1 w1 ∧ Has ρ [(5, .bool y5), (6, v17), (8, c40), (21, .int .i64 s.1), (23, .int .i64 y637), (49, v60), (50, .int .i64 (y55.length : Int)), (51, .int .i64 x74), (142, v611), (143, .int .i64 (y606.length : Int)), (144, .int .i64 x623), (150, v646), (151, .int .i64 (y641.length : Int)), (152, .int .i64 s.2)] ∧ Sl (kSl marigraphlaw11_Act.k) S1 w1 v60 y55 ∧ Ow (kI .i64) 3 S1 w.heap.size w1 v611 y606 ∧ Ow api_Point.k 29 S1 w.heap.size w1 v646 y641 ∧ Obo 67 head_Head.fs S1 w1 v17 o108n.1 cs592 fp590 ∧ Mo (fMap ky_marigraphref11_Item kB) S1 w1 c40 o108n.2 fp594 ∧ Ap v611 v646 ∧ (∀ b, Blk v611 b → ¬ b ∈ fp590) ∧ (∀ b, Blk v611 b → ¬ b ∈ fp594) ∧ (∀ b, Blk v646 b → ¬ b ∈ fp590) ∧ (∀ b, Blk v646 b → ¬ b ∈ fp594) ∧ (∀ b, b ∈ fp590 → ¬ b ∈ fp594)) ⟨_, C, ⟨rfl, rfl, rfl, rfl, rfl, rfl, rfl, rfl, rfl, rfl, rfl, rfl, rfl, rfl, trivial⟩, h61, h612, h647, h589, h593, (ap_symm p650), p618, p619, p648, p649, p620⟩ ?_
                  rintro ⟨x661, x662⟩ q651 ρ w653 ⟨S652, C, h660, h61, h612, h647, h589, h593, p654, p655, p656, p657, p658, p659⟩ h664 h663
                  refine h660.cw fun ρ => ?_
                  clear h660
                  replace h664 : marigraphlaw11_HeadKeeps.b17 o108n y637 y641 x661 x662 = some q651 := h664
                  unfold marigraphlaw11_HeadKeeps.b17 at h664
                  refine cw_seq fun K665 k666 => ?_
                  refine cw_region (sv (rv_lss rfl rfl) (W.e (k666 _ _ ?_)))
                  refine cw_seq fun K667 k668 => ?_
                  rcases bif_some h664 with ⟨b669, h664⟩ | ⟨b669, h664⟩
                  · refine cw_t rfl b669 (cw_skip (k668 _ _ ?_))
                    refine cw_seq fun K670 k671 => ?_
                    refine cw_block ?_
                    refine cw_seq fun K672 k673 => ?_
                    refine cw_region ?_
                    obtain ⟨y674, h675, h664⟩ := bnd_some h664
                    refine sv (rv_index el33 h647.sealed rfl rfl h675) ?_
                    obtain ⟨v676, h677, h678⟩ := rw_loadO (P := Try.prog) el33 h647 h675
                    obtain rfl := api_Point.o.1 h677
                    refine sr (h678 _ (Sm.refl _ _) rfl) ?_
                    refine sc (dc_allocO (x0 := (api_Point.mk (0 : Int) (0 : Int))) (base := w.heap.size) el33 zr29 (fun _ => api_Point.r.2 rfl) C.up.size C.sb fun b679 w680 h681 h682 u683 => ?_)
                    have p684 := ap_fresh h682 (fun b hb => (h589.lt b hb).1)
                    have p685 := ap_fresh h682 (fun b hb => (h593.lt b hb).1)
                    have p686 := ap_fresh h682 (fun b hb => (h612.lt b hb).2)
                    have p687 := ap_fresh h682 (fun b hb => (h647.lt b hb).2)
                    replace h589 := h589.nw u683
                    replace h593 := h593.nw u683
                    replace h612 := h612.nw u683
                    replace h61 := h61.nw u683
                    replace h647 := h647.nw u683
                    replace C := C.new u683
                    obtain ⟨y688, h689, h664⟩ := pur_some h664
                    have h693 := h681
                    refine sc (dc_storeO el33 h693 (show at_ [(api_Point.mk (0 : Int) (0 : Int))] (0 : Int) = some (api_Point.mk (0 : Int) (0 : Int)) from rfl) rfl rfl (((api_Point.o (x := y674)).2 rfl)) fun w690 h691 u692 => ?_)
                    replace h691 : Ow api_Point.k 29 S652 w.heap.size w690 (.slice (some ⟨b679, 0, none⟩) 1 1) [y674] := h691
                    rw [h689] at h691
                    replace h589 := h589.wr u692 h693.not (ap_symm p684)
                    replace h593 := h593.wr u692 h693.not (ap_symm p685)
                    replace h612 := h612.wr u692 h693.not (ap_symm p686)
                    replace h61 := h61.wr u692 h693.not
                    replace h647 := h647.wr u692 h693.not (ap_symm p687)
                    replace C := C.ow h693 u692
                    refine W.e (k673 _ _ ?_)
                    refine cw_seq fun K694 k695 => ?_
                    refine cw_seq fun K696 k697 => ?_
                    refine cw_region (sv (mvv c40 rfl) (sv (mvv (.int .i64 y637) rfl) ?_))
                    obtain ⟨v698, h699, h700⟩ := rw_loadO (P := Try.prog) el33 h691 (show at_ [y688] (0 : Int) = some y688 from rfl)
                    obtain rfl := api_Point.o.1 h699
                    refine sr (h700 _ (Sm.refl _ _) rfl) (sv (rv_build (r := [.int .i64 y637, .int .i64 y688.T, .int .i64 y688.V]) st44 zr44 rfl) ?_)
                    obtain ⟨v701, h702, h703⟩ := rep_look (P := Try.prog) (tm := 56) (te := 4) (y0 := false) h593.1 Try.underlying56 zv4 (sl_sc.2 rfl) (marigraphref11_Item.mk y637 (api_Point.mk y688.T y688.V))
                    obtain rfl := sl_sc.1 h702
                    refine sr ((h703 (Sm.refl _ _) rfl rfl).1) (sv (rv_not rfl) (W.e (k697 _ _ ?_)))
                    rcases bif_some h664 with ⟨b704, h664⟩ | ⟨b704, h664⟩
                    · refine cw_t rfl b704 ?_
                      refine cw_seq fun K705 k706 => ?_
                      refine cw_region (sv (asv (.bool false) rfl) (W.e (k706 _ _ (cw_ret ?_))))
                      obtain rfl := Option.some.inj h664
                      have h707 := congrArg some h663
                      obtain rfl := Option.some.inj h707
                      replace h625 := h625.2 _ rfl
                      obtain rfl := Option.some.inj h625
                      have h708 := congrArg some h624
                      obtain rfl := Option.some.inj h708
                      replace h87 := h87.2 _ rfl
                      obtain rfl := Option.some.inj h87
                      replace h78 := h78.2 _ rfl
                      obtain rfl := Option.some.inj h78
                      have h709 := congrArg some h77
                      obtain rfl := Option.some.inj h709
                      replace h := h.2 _ rfl
                      obtain rfl := Option.some.inj h
                      exact ⟨_, rfl, _, rfl, C⟩
                    · refine cw_f rfl b704 (cw_skip (k695 _ _ (cw_region (sv (mvv (.int .i64 x661) rfl) ?_))))
                      obtain ⟨y710, h711, h664⟩ := pur_some h664
                      refine sv (rv_add rfl rfl h711) (sv (asv (.int .i64 y710) rfl) (W.e (k671 _ _ (cw_region ?_))))
                      obtain ⟨y712, h713, h664⟩ := pur_some h664
                      refine sv (rv_add rfl rfl h713) (sv (mvv (.int .i64 y712) rfl) (W.e ?_))
                      obtain rfl := Option.some.inj h664
                      exact ⟨_, rfl, ⟨_, C, ⟨rfl, rfl, rfl, rfl, rfl, rfl, rfl, rfl, rfl, rfl, rfl, rfl, rfl, rfl, trivial⟩, h61, h612, h647, h589, h593, p654, p655, p656, p657, p658, p659⟩⟩
                  · refine cw_f rfl b669 (cw_exit ?_)
                    obtain rfl := Option.some.inj h664
                    have h714 := congrArg some h663
                    obtain rfl := Option.some.inj h714
                    exact ⟨_, rfl, ⟨_, C, ⟨rfl, rfl, rfl, rfl, rfl, rfl, rfl, rfl, rfl, rfl, trivial⟩, h61, h612, h589, h593, p655, p656, p659⟩⟩
                · rintro ρ w716 ⟨o631n, rfl, ⟨S715, C, h720, h61, h612, h589, h593, p717, p718, p719⟩⟩
                  replace h625 := h625.1 _ rfl
                  refine h720.cw fun ρ => ?_
                  clear h720
                  refine cw_region ?_
                  obtain ⟨y721, h722, h625⟩ := pur_some h625
                  refine sv (rv_add rfl rfl h722) (sv (mvv (.int .i64 y721) rfl) (W.e ?_))
                  obtain rfl := Option.some.inj h625
                  exact ⟨_, rfl, ⟨_, C, ⟨rfl, rfl, rfl, rfl, rfl, rfl, rfl, rfl, rfl, rfl, trivial⟩, h61, h612, h589, h593, p717, p718, p719⟩⟩
              · refine cw_f rfl b630 (cw_exit ?_)
                obtain rfl := Option.some.inj h625
                have h723 := congrArg some h624
                obtain rfl := Option.some.inj h723
                exact ⟨_, rfl, ⟨_, C, ⟨rfl, rfl, rfl, rfl, rfl, rfl, rfl, trivial⟩, h61, h589, h593, p620⟩⟩
            · rintro ρ w725 ⟨o600n, rfl, ⟨S724, C, h727, h61, h589, h593, p726⟩⟩
              replace h87 := h87.1 _ rfl
              refine h727.cw fun ρ => ?_
              clear h727
              obtain ⟨o728, h731, h87⟩ := bnd_some h87
              refine cw_seq' (fun ρ w1 => ∃ S1, Cx No S w S1 w1 ∧ Has ρ [(5, .bool y5), (6, v17), (8, c40), (49, v60), (50, .int .i64 (y55.length : Int)), (51, .int .i64 x74), (175, .bool o728)] ∧ Sl (kSl marigraphlaw11_Act.k) S1 w1 v60 y55 ∧ Obo 67 head_Head.fs S1 w1 v17 o108n.1 cs592 fp590 ∧ Mo (fMap ky_marigraphref11_Item kB) S1 w1 c40 o108n.2 fp594 ∧ (∀ b, b ∈ fp590 → ¬ b ∈ fp594)) ?_ ?_
              · refine cw_region (sv (mvv (.int .i64 o600n) rfl) (sv (mvv c40 rfl) (sr (rep_mlen h593.1 Try.underlying56 (Sm.refl _ _) rfl) (sv (rv_neq rfl rfl) (sv (mvv (.bool (o600n != (o108n.2.length : Int))) rfl) ?_)))))
                rcases bif_some h731 with ⟨b732, h731⟩ | ⟨b732, h731⟩
                · refine W.n (gn rfl rfl rfl b732) (W.n (gn rfl rfl rfl b732) (W.n (gn rfl rfl rfl b732) (W.n (gn rfl rfl rfl b732) (sv (ptk (.bool true) rfl b732 rfl) (W.e ?_)))))
                  obtain rfl := Option.some.inj h731
                  exact ⟨_, C, ⟨rfl, rfl, rfl, rfl, rfl, rfl, rfl, trivial⟩, h61, h589, h593, p726⟩
                · refine W.v (gy rfl rfl rfl b732) (mvv (.int .i64 o600n) rfl) (W.v (gy rfl rfl rfl b732) (mvv v17 rfl) ?_)
                  obtain ⟨y733, h734, h731⟩ := bnd_some h731
                  refine W.c (gy rfl rfl rfl b732) (dc_call (vs := [v17]) can13 rfl ?_)
                  refine (head_Head_Len_w C.sb h589 h734).mono ?_
                  rintro _ w735 ⟨S736, rfl, c737⟩
                  refine ⟨_, rfl, ?_⟩
                  replace h589 := h589.cx c737
                  replace h593 := h593.cx c737
                  replace h61 := h61.cx c737
                  replace C := C.trans c737
                  refine W.v (gy rfl rfl rfl b732) (rv_neq rfl rfl) (sv (pfk (.bool (o600n != y733)) rfl b732 rfl) (W.e ?_))
                  obtain rfl := Option.some.inj h731
                  exact ⟨_, C, ⟨rfl, rfl, rfl, rfl, rfl, rfl, rfl, trivial⟩, h61, h589, h593, p726⟩
              · rintro ρ w739 ⟨S738, C, h741, h61, h589, h593, p740⟩
                refine h741.cw fun ρ => ?_
                clear h741
                rcases bif_some h87 with ⟨b742, h87⟩ | ⟨b742, h87⟩
                · refine cw_t rfl b742 ?_
                  refine cw_seq fun K743 k744 => ?_
                  refine cw_region (sv (asv (.bool false) rfl) (W.e (k744 _ _ (cw_ret ?_))))
                  obtain rfl := Option.some.inj h87
                  replace h78 := h78.2 _ rfl
                  obtain rfl := Option.some.inj h78
                  have h745 := congrArg some h77
                  obtain rfl := Option.some.inj h745
                  replace h := h.2 _ rfl
                  obtain rfl := Option.some.inj h
                  exact ⟨_, rfl, _, rfl, C⟩
                · refine cw_f rfl b742 (cw_skip ?_)
                  obtain rfl := Option.some.inj h87
                  exact ⟨_, rfl, ⟨_, _, _, _, C, ⟨rfl, rfl, rfl, rfl, rfl, rfl, trivial⟩, h61, h589, h591, h593, h595, p740⟩⟩
        · rintro ρ w747 ⟨o84n, rfl, ⟨S746, fp749, cs751, fp753, C, h756, h61, h748, h750, h752, h754, p755⟩⟩
          replace h78 := h78.1 _ rfl
          refine h756.cw fun ρ => ?_
          clear h756
          refine cw_region ?_
          obtain ⟨y757, h758, h78⟩ := pur_some h78
          refine sv (rv_add rfl rfl h758) (sv (mvv (.int .i64 y757) rfl) (W.e ?_))
          obtain rfl := Option.some.inj h78
          exact ⟨_, rfl, ⟨_, _, _, _, C, ⟨rfl, rfl, rfl, rfl, rfl, rfl, trivial⟩, h61, h748, h750, h752, h754, p755⟩⟩
      · refine cw_f rfl b83 (cw_exit ?_)
        obtain rfl := Option.some.inj h78
        have h759 := congrArg some h77
        obtain rfl := Option.some.inj h759
        exact ⟨_, rfl, ⟨_, C, ⟨rfl, trivial⟩⟩⟩
    · rintro ρ w761 ⟨o49n, rfl, ⟨S760, C, h762⟩⟩
      replace h := h.1 _ rfl
      refine h762.cw fun ρ => ?_
      clear h762
      refine cw_seq fun K763 k764 => ?_
      refine cw_region (sv (mvv (.bool y5) rfl) (sv (asv (.bool y5) rfl) (W.e (k764 _ _ (cw_ret ?_)))))
      obtain rfl := Option.some.inj h
      exact ⟨_, rfl, _, rfl, C⟩

noncomputable def marigraphref11_New (a0 : Int) : Option ((Option marigraphref11_Head) × Int) :=
  (((bif (decide (a0 < (0 : Int))) then some true else some (decide ((1099511627776 : Int) < a0))).bind fun o7 => (bif o7 then some (.inr (none, (1 : Int))) else some (.inl ()))).bind (Sum.elim (fun o3n => some (some (marigraphref11_Head.mk a0 ([] : List marigraphref11_Item) (0 : Int) false), (0 : Int))) (fun q => some q)))
set_option maxRecDepth 100000 in
set_option maxHeartbeats 4000000 in
theorem marigraphref11_New_w {S : Nat → Prop} {w : World} {a0 : Int} {r : (Option marigraphref11_Head) × Int} (hS : Sb S w)  (h : marigraphref11_New a0 = some r) :
    Calls Try.prog 22 (List.toArray [.int .i64 a0]) w fun e w1 => ∃ S1 u0 us0 up0, e = .returned (.tuple (List.toArray [u0, .int .i64 r.2])) ∧ Cx No S w S1 w1 ∧ Obo 62 marigraphref11_Head.fs S1 w1 u0 r.1 us0 up0 ∧ (∀ b, b ∈ up0 → w.heap.size ≤ b) := by
  refine enter Try.func22 rfl (by kernel_rfl) rfl ?_
  have C := Cx.refl (F := No) hS
  unfold marigraphref11_New at h
  refine cw_seq fun K1 k2 => ?_
  refine cw_region (sv (asv (.pointer none) rfl) (sv (asv (.int .i64 0) rfl) (W.e (k2 _ _ ?_))))
  obtain ⟨o3, h6, h⟩ := bnds_some h
  refine cw_seq' (fun ρ w1 => ∃ o3n, o3 = (.inl o3n) ∧ ∃ S1, Cx No S w S1 w1 ∧ Has ρ [(0, .int .i64 a0)]) ?_ ?_
  · obtain ⟨o7, h10, h6⟩ := bnd_some h6
    refine cw_seq' (fun ρ w1 => ∃ S1, Cx No S w S1 w1 ∧ Has ρ [(0, .int .i64 a0), (9, .bool o7)]) ?_ ?_
    · refine cw_region (sv (mvv (.int .i64 a0) rfl) (sv (rv_lss rfl rfl) (sv (mvv (.bool (decide (a0 < (0 : Int)))) rfl) ?_)))
      rcases bif_some h10 with ⟨b11, h10⟩ | ⟨b11, h10⟩
      · refine W.n (gn rfl rfl rfl b11) (W.n (gn rfl rfl rfl b11) (sv (ptk (.bool true) rfl b11 rfl) (W.e ?_)))
        obtain rfl := Option.some.inj h10
        exact ⟨_, C, ⟨rfl, rfl, trivial⟩⟩
      · refine W.v (gy rfl rfl rfl b11) (mvv (.int .i64 a0) rfl) (W.v (gy rfl rfl rfl b11) (rv_gtr rfl rfl) (sv (pfk (.bool (decide ((1099511627776 : Int) < a0))) rfl b11 rfl) (W.e ?_)))
        obtain rfl := Option.some.inj h10
        exact ⟨_, C, ⟨rfl, rfl, trivial⟩⟩
    · rintro ρ w13 ⟨S12, C, h14⟩
      refine h14.cw fun ρ => ?_
      clear h14
      rcases bif_some h6 with ⟨b15, h6⟩ | ⟨b15, h6⟩
      · refine cw_t rfl b15 ?_
        refine cw_seq fun K16 k17 => ?_
        refine cw_region (sv (asv (.pointer none) rfl) (sv (asv (.int .i64 1) rfl) (W.e (k17 _ _ (cw_ret ?_)))))
        obtain rfl := Option.some.inj h6
        replace h := h.2 _ rfl
        obtain rfl := Option.some.inj h
        exact ⟨_, rfl, _, _, _, _, rfl, C, ⟨rfl, rfl, rfl⟩, (fun b hb => by cases hb)⟩
      · refine cw_f rfl b15 (cw_skip ?_)
        obtain rfl := Option.some.inj h6
        exact ⟨_, rfl, ⟨_, C, ⟨rfl, trivial⟩⟩⟩
  · rintro ρ w19 ⟨o3n, rfl, ⟨S18, C, h20⟩⟩
    replace h := h.1 _ rfl
    refine h20.cw fun ρ => ?_
    clear h20
    refine cw_seq fun K21 k22 => ?_
    refine cw_region (sv (mvv (.int .i64 a0) rfl) (sv (rv_build (r := [.int .i64 a0, .slice none 0 0, .int .i64 0, .bool false]) st62 zr62 rfl) ?_))
    refine sc (dc_obox (l := marigraphref11_Head.fs (marigraphref11_Head.mk a0 ([] : List marigraphref11_Item) (0 : Int) false)) (S := S18) (cs := [.int .i64 a0, .slice none 0 0, .int .i64 0, .bool false]) (.cons ⟨rep_sc.2 rfl, rfl⟩ (.cons ⟨rep_sl.2 ⟨_, rfl, (sl_nil _ _ _)⟩, rfl⟩ (.cons ⟨rep_sc.2 rfl, rfl⟩ (.cons ⟨rep_sc.2 rfl, rfl⟩ (.nil))))) (by simp) C.sb rfl fun v23 w24 h25 h26 u27 => ?_)
    have h29p := C.up.size
    obtain ⟨fp28, h25, h29⟩ : ∃ fp, Ob 62 (marigraphref11_Head.fs (marigraphref11_Head.mk a0 ([] : List marigraphref11_Item) (0 : Int) false)) S18 w24 v23 [.int .i64 a0, .slice none 0 0, .int .i64 0, .bool false] fp ∧ ∀ q, q ∈ fp → w.heap.size ≤ q := ⟨_, h25, fun q hq => by simp at hq; omega⟩
    replace C := C.new u27
    refine sv (asv v23 rfl) (sv (asv (.int .i64 0) rfl) (W.e (k22 _ _ (cw_ret ?_))))
    obtain rfl := Option.some.inj h
    exact ⟨_, rfl, _, _, _, _, rfl, C, h25, h29⟩

noncomputable def marigraphref11_Head_Ids.b5 (a0 : marigraphref11_Head) (x17 : List Int) (x18 : Int) (x43 : Int) : Option ((Int) ⊕ (Int)) :=
  (((bif (decide (x43 < (x17.length : Int))) then ((at_ x17 x43).bind fun y58 => ((at_ a0.L x18).bind fun y63 => some (decide (y58 < y63.Id)))) else some false).bind fun o50 => (bif o50 then some (.inl ()) else some (.inr (.inr x43)))).bind (Sum.elim (fun o46n => (pur (IntKind.i64.wrap (x43 + (1 : Int))) fun y76 => some (.inl y76))) (fun q => some q)))
noncomputable def marigraphref11_Head_Ids.b2 (a0 : marigraphref11_Head) (x17 : List Int) (x18 : Int) : Option (((List Int) × Int) ⊕ ((List Int))) :=
  (bif (decide (x18 < (a0.L.length : Int))) then (((iter (fun s : Int => marigraphref11_Head_Ids.b5 a0 x17 x18 s) (0 : Int)).bind fun o35 => (((bif (decide (o35 < (x17.length : Int))) then ((at_ x17 o35).bind fun y93 => ((at_ a0.L x18).bind fun y98 => some (y93 == y98.Id))) else some false).bind fun o85 => (bif o85 then some (.inr x17) else some (.inl ()))).bind (Sum.elim (fun o81n => ((from_ x17 o35).bind fun y119 => ((app_ 8 ([] : List Int) y119).bind fun y125 => (((upto_ x17 o35).bind fun y10_3_1 => ((at_ a0.L x18).bind fun y10_10_1 => ((app_ 8 ([] : List Int) y10_3_1).bind fun y10_4_1 => ((app_ 8 y10_4_1 ([y10_10_1.Id] : List Int)).bind fun y10_14_1 => some y10_14_1)))).bind fun o135 => ((app_ 8 o135 y125).bind fun y293 => some y293))))) (fun q => some q)))).bind fun o29 => (pur (IntKind.i64.wrap (x18 + (1 : Int))) fun y307 => some (.inl (o29, y307)))) else some (.inr x17))
noncomputable def marigraphref11_Head_Ids (a0 : marigraphref11_Head) : Option (List Int) :=
  ((iter (fun s : (List Int) × Int => marigraphref11_Head_Ids.b2 a0 s.1 s.2) (([] : List Int), (0 : Int))).bind fun o5 => some o5)
set_option maxRecDepth 100000 in
set_option maxHeartbeats 4000000 in
theorem marigraphref11_Head_Ids_w {S : Nat → Prop} {w : World} {a0 : marigraphref11_Head} {v0 : Value} {cs0 : List Value} {fp0 : List Nat} {r : (List Int)} (hS : Sb S w) (h0 : Ob 62 (marigraphref11_Head.fs a0) S w v0 cs0 fp0) (h : marigraphref11_Head_Ids a0 = some r) :
    Calls Try.prog 28 (List.toArray [v0]) w fun e w1 => ∃ S1 u0, e = .returned (u0) ∧ Cx No S w S1 w1 ∧ Ow (kI .i64) 3 S1 w.heap.size w1 u0 r := by
  refine enter Try.func28 rfl (by kernel_rfl) rfl ?_
  have C := Cx.refl (F := No) hS
  unfold marigraphref11_Head_Ids at h
  have hl0 : ∀ b ∈ fp0, b < w.heap.size := fun b hb => (h0.lt b hb).1
  refine cw_seq fun K1 k2 => ?_
  refine cw_region (sv (asv (.slice none 0 0) rfl) (W.e (k2 _ _ ?_)))
  refine cw_seq fun K3 k4 => ?_
  refine cw_region (sv (asv (.slice none 0 0) rfl) (W.e (k4 _ _ ?_)))
  obtain ⟨o5, h8, h⟩ := bnd_some h
  refine cw_seq' (fun ρ w1 => ∃ S1 v312, Cx No S w S1 w1 ∧ Has ρ [(3, v312)] ∧ Ow (kI .i64) 3 S1 w.heap.size w1 v312 o5) ?_ ?_
  · refine cw_seq fun K9 k10 => ?_
    refine cw_region (sv (asv (.int .i64 0) rfl) (W.e (k10 _ _ (cw_block ?_))))
    refine cw_iter h8 (fun s ρ w1 => ∃ S1 v14, Cx No S w S1 w1 ∧ Has ρ [(0, v0), (3, v14), (4, .int .i64 s.2)] ∧ Ow (kI .i64) 3 S1 w.heap.size w1 v14 s.1 ∧ Ob 62 (marigraphref11_Head.fs a0) S1 w1 v0 cs0 fp0) ⟨_, _, C, ⟨rfl, rfl, rfl, trivial⟩, Ow.nil _ _ _ _ _, h0⟩ ?_
    rintro ⟨x17, x18⟩ q11 ρ w13 ⟨S12, v14, C, h16, h15, h0⟩ h20 h19
    refine h16.cw fun ρ => ?_
    clear h16
    replace h20 : marigraphref11_Head_Ids.b2 a0 x17 x18 = some q11 := h20
    unfold marigraphref11_Head_Ids.b2 at h20
    refine cw_seq fun K21 k22 => ?_
    refine cw_seq fun K23 k24 => ?_
    refine cw_region (sv (mvv (.int .i64 x18) rfl) (sv (mvv v0 rfl) (sv (rv_nilcheck rfl h0.ptr) (sv (rv_fieldAddr (b := pb v0) (o := 0) st62 rfl h0.ptr) ?_))))
    obtain ⟨c25, h26, h27⟩ := h0.sl (i := 1) rfl
    refine sr (rw_ofield (i := 1) (c := c25) h0 ag38 h26 rfl) (sv (rv_lenS el38 h27 rfl) (sv (rv_lss rfl rfl) (W.e (k24 _ _ ?_))))
    rcases bif_some h20 with ⟨b28, h20⟩ | ⟨b28, h20⟩
    · refine cw_t rfl b28 (cw_skip (k22 _ _ ?_))
      obtain ⟨o29, h32, h20⟩ := bnd_some h20
      refine cw_seq' (fun ρ w1 => ∃ S1 v304, Cx No S w S1 w1 ∧ Has ρ [(0, v0), (3, v304), (4, .int .i64 x18)] ∧ Ow (kI .i64) 3 S1 w.heap.size w1 v304 o29 ∧ Ob 62 (marigraphref11_Head.fs a0) S1 w1 v0 cs0 fp0) ?_ ?_
      · refine cw_block ?_
        refine cw_seq fun K33 k34 => ?_
        refine cw_region (sv (asv (.int .i64 0) rfl) (W.e (k34 _ _ ?_)))
        obtain ⟨o35, h38, h32⟩ := bnd_some h32
        refine cw_seq' (fun ρ w1 => ∃ S1, Cx No S w S1 w1 ∧ Has ρ [(0, v0), (3, v14), (4, .int .i64 x18), (5, .int .i64 o35)] ∧ Ow (kI .i64) 3 S1 w.heap.size w1 v14 x17 ∧ Ob 62 (marigraphref11_Head.fs a0) S1 w1 v0 cs0 fp0) ?_ ?_
        · refine cw_block ?_
          refine cw_iter h38 (fun s ρ w1 => ∃ S1, Cx No S w S1 w1 ∧ Has ρ [(0, v0), (3, v14), (4, .int .i64 x18), (5, .int .i64 s)] ∧ Ow (kI .i64) 3 S1 w.heap.size w1 v14 x17 ∧ Ob 62 (marigraphref11_Head.fs a0) S1 w1 v0 cs0 fp0) ⟨_, C, ⟨rfl, rfl, rfl, rfl, trivial⟩, h15, h0⟩ ?_
          rintro x43 q39 ρ w41 ⟨S40, C, h42, h15, h0⟩ h45 h44
          refine h42.cw fun ρ => ?_
          clear h42
          replace h45 : marigraphref11_Head_Ids.b5 a0 x17 x18 x43 = some q39 := h45
          unfold marigraphref11_Head_Ids.b5 at h45
          obtain ⟨o46, h49, h45⟩ := bnds_some h45
          refine cw_seq' (fun ρ w1 => ∃ o46n, o46 = (.inl o46n) ∧ ∃ S1, Cx No S w S1 w1 ∧ Has ρ [(0, v0), (3, v14), (4, .int .i64 x18), (5, .int .i64 x43)] ∧ Ow (kI .i64) 3 S1 w.heap.size w1 v14 x17 ∧ Ob 62 (marigraphref11_Head.fs a0) S1 w1 v0 cs0 fp0) ?_ ?_
          · obtain ⟨o50, h53, h49⟩ := bnd_some h49
            refine cw_seq' (fun ρ w1 => ∃ S1, Cx No S w S1 w1 ∧ Has ρ [(0, v0), (3, v14), (4, .int .i64 x18), (5, .int .i64 x43), (34, .bool o50)] ∧ Ow (kI .i64) 3 S1 w.heap.size w1 v14 x17 ∧ Ob 62 (marigraphref11_Head.fs a0) S1 w1 v0 cs0 fp0) ?_ ?_
            · refine cw_drawU (.one 0 true (.one 1 true (.one 2 true (.one 3 true (.one 4 true (.one 5 true (.one 6 true (.one 7 true (.one 8 true (.one 9 true (.one 10 true (.one 11 true (.one 12 true (.one 13 true (.one 14 true (.one 15 true (.one 16 true (.one 17 true (.one 18 true .done))))))))))))))))))) [(8, [9]), (12, [9]), (16, [9])] [] (fun c => bif Nat.beq c 9 then (fun _ => True) else No) fol (by kernel_rfl) fun w54 u55 => ?_
              replace h0 := h0.nw u55
              replace h15 := h15.nw u55
              replace C := C.new u55
              have m56 := Sm.refl (fun _ => True) w54
              refine mtv rfl rfl (mvv (.int .i64 x43) rfl) (mtv rfl rfl (mvv v14 rfl) (mtv rfl rfl (rv_lenS el51 h15.sealed rfl) (mtv rfl rfl (rv_lss rfl rfl) (mtv rfl rfl (mvv (.bool (decide (x43 < (x17.length : Int)))) rfl) ?_))))
              rcases bif_some h53 with ⟨b57, h53⟩ | ⟨b57, h53⟩
              · refine MT.vv rfl rfl (gy rfl rfl rfl b57) (mvv v14 rfl) (MT.vv rfl rfl (gy rfl rfl rfl b57) (mvv (.int .i64 x43) rfl) ?_)
                obtain ⟨y58, h59, h53⟩ := bnd_some h53
                refine MT.vv rfl rfl (gy rfl rfl rfl b57) (rv_index el51 h15.sealed rfl rfl h59) (MT.r rfl rfl (gy rfl rfl rfl b57) ⟨m56, trivial⟩ (fun w' hq => rw_loadC el51 h15.sealed h59 rfl w' (hq.1.mono fun _ _ => trivial)) (MT.vv rfl rfl (gy rfl rfl rfl b57) (mvv v0 rfl) (MT.vv rfl rfl (gy rfl rfl rfl b57) (rv_nilcheck rfl h0.ptr) (MT.vv rfl rfl (gy rfl rfl rfl b57) (rv_fieldAddr (b := pb v0) (o := 0) st62 rfl h0.ptr) ?_))))
                obtain ⟨c60, h61, h62⟩ := h0.sl (i := 1) rfl
                refine MT.r rfl rfl (gy rfl rfl rfl b57) ⟨m56, trivial⟩ (fun w' hq => rw_ofieldU (i := 1) (c := c60) h0 (hq.1.mono fun _ _ => trivial) ag38 h61 rfl) (MT.vv rfl rfl (gy rfl rfl rfl b57) (mvv (.int .i64 x18) rfl) ?_)
                obtain ⟨y63, h64, h53⟩ := bnd_some h53
                refine MT.vv rfl rfl (gy rfl rfl rfl b57) (rv_index el38 h62 rfl rfl h64) (MT.vv rfl rfl (gy rfl rfl rfl b57) (rv_fieldAddr st44 rfl rfl) ?_)
                obtain ⟨cs65, h66, h67⟩ := Sl.cells h62 h64
                obtain rfl := marigraphref11_Item.r.1 h66
                refine MT.r rfl rfl (gy rfl rfl rfl b57) ⟨m56, trivial⟩ (fun w' hq => rw_el1 (off := 0) ag3 (h67 w' (hq.1.mono fun _ _ => trivial)) rfl rfl) (MT.vv rfl rfl (gy rfl rfl rfl b57) (rv_lss rfl rfl) (mtv rfl rfl (ptk (.bool (decide (y58 < y63.Id))) rfl b57 rfl) (MT.e ?_)))
                obtain rfl := Option.some.inj h53
                exact ⟨_, C, ⟨rfl, rfl, rfl, rfl, rfl, trivial⟩, h15, h0⟩
              · refine MT.n rfl rfl (gn rfl rfl rfl b57) trivial (MT.n rfl rfl (gn rfl rfl rfl b57) trivial (MT.n rfl rfl (gn rfl rfl rfl b57) trivial (MT.n rfl rfl (gn rfl rfl rfl b57) ⟨m56, trivial⟩ (MT.n rfl rfl (gn rfl rfl rfl b57) trivial (MT.n rfl rfl (gn rfl rfl rfl b57) trivial (MT.n rfl rfl (gn rfl rfl rfl b57) trivial (MT.n rfl rfl (gn rfl rfl rfl b57) ⟨m56, trivial⟩ (MT.n rfl rfl (gn rfl rfl rfl b57) trivial (MT.n rfl rfl (gn rfl rfl rfl b57) trivial (MT.n rfl rfl (gn rfl rfl rfl b57) trivial (MT.n rfl rfl (gn rfl rfl rfl b57) ⟨m56, trivial⟩ ?_)))))))))))
                refine MT.n rfl rfl (gn rfl rfl rfl b57) trivial (mtv rfl rfl (pfk (.bool false) rfl b57 rfl) (MT.e ?_))
                obtain rfl := Option.some.inj h53
                exact ⟨_, C, ⟨rfl, rfl, rfl, rfl, rfl, trivial⟩, h15, h0⟩
            · rintro ρ w69 ⟨S68, C, h70, h15, h0⟩
              refine h70.cw fun ρ => ?_
              clear h70
              rcases bif_some h49 with ⟨b71, h49⟩ | ⟨b71, h49⟩
              · refine cw_t rfl b71 (cw_skip ?_)
                obtain rfl := Option.some.inj h49
                exact ⟨_, rfl, ⟨_, C, ⟨rfl, rfl, rfl, rfl, trivial⟩, h15, h0⟩⟩
              · refine cw_f rfl b71 (cw_exit ?_)
                obtain rfl := Option.some.inj h49
                replace h45 := h45.2 _ rfl
                obtain rfl := Option.some.inj h45
                have h72 := congrArg some h44
                obtain rfl := Option.some.inj h72
                exact ⟨_, C, ⟨rfl, rfl, rfl, rfl, trivial⟩, h15, h0⟩
          · rintro ρ w74 ⟨o46n, rfl, ⟨S73, C, h75, h15, h0⟩⟩
            replace h45 := h45.1 _ rfl
            refine h75.cw fun ρ => ?_
            clear h75
            refine cw_block (cw_region (sv (mvv (.int .i64 x43) rfl) ?_))
            obtain ⟨y76, h77, h45⟩ := pur_some h45
            refine sv (rv_add rfl rfl h77) (sv (asv (.int .i64 y76) rfl) (W.e ?_))
            obtain rfl := Option.some.inj h45
            exact ⟨_, rfl, ⟨_, C, ⟨rfl, rfl, rfl, rfl, trivial⟩, h15, h0⟩⟩
        · rintro ρ w79 ⟨S78, C, h80, h15, h0⟩
          refine h80.cw fun ρ => ?_
          clear h80
          obtain ⟨o81, h84, h32⟩ := bnds_some h32
          refine cw_seq' (fun ρ w1 => ∃ o81n, o81 = (.inl o81n) ∧ ∃ S1, Cx No S w S1 w1 ∧ Has ρ [(0, v0), (3, v14), (4, .int .i64 x18), (5, .int .i64 o35)] ∧ Ow (kI .i64) 3 S1 w.heap.size w1 v14 x17 ∧ Ob 62 (marigraphref11_Head.fs a0) S1 w1 v0 cs0 fp0) ?_ ?_
          · obtain ⟨o85, h88, h84⟩ := bnd_some h84
            refine cw_seq' (fun ρ w1 => ∃ S1, Cx No S w S1 w1 ∧ Has ρ [(0, v0), (3, v14), (4, .int .i64 x18), (5, .int .i64 o35), (55, .bool o85)] ∧ Ow (kI .i64) 3 S1 w.heap.size w1 v14 x17 ∧ Ob 62 (marigraphref11_Head.fs a0) S1 w1 v0 cs0 fp0) ?_ ?_
            · refine cw_drawU (.one 0 true (.one 1 true (.one 2 true (.one 3 true (.one 4 true (.one 5 true (.one 6 true (.one 7 true (.one 8 true (.one 9 true (.one 10 true (.one 11 true (.one 12 true (.one 13 true (.one 14 true (.one 15 true (.one 16 true (.one 17 true (.one 18 true .done))))))))))))))))))) [(8, [9]), (12, [9]), (16, [9])] [] (fun c => bif Nat.beq c 9 then (fun _ => True) else No) fol (by kernel_rfl) fun w89 u90 => ?_
              replace h0 := h0.nw u90
              replace h15 := h15.nw u90
              replace C := C.new u90
              have m91 := Sm.refl (fun _ => True) w89
              refine mtv rfl rfl (mvv (.int .i64 o35) rfl) (mtv rfl rfl (mvv v14 rfl) (mtv rfl rfl (rv_lenS el51 h15.sealed rfl) (mtv rfl rfl (rv_lss rfl rfl) (mtv rfl rfl (mvv (.bool (decide (o35 < (x17.length : Int)))) rfl) ?_))))
              rcases bif_some h88 with ⟨b92, h88⟩ | ⟨b92, h88⟩
              · refine MT.vv rfl rfl (gy rfl rfl rfl b92) (mvv v14 rfl) (MT.vv rfl rfl (gy rfl rfl rfl b92) (mvv (.int .i64 o35) rfl) ?_)
                obtain ⟨y93, h94, h88⟩ := bnd_some h88
                refine MT.vv rfl rfl (gy rfl rfl rfl b92) (rv_index el51 h15.sealed rfl rfl h94) (MT.r rfl rfl (gy rfl rfl rfl b92) ⟨m91, trivial⟩ (fun w' hq => rw_loadC el51 h15.sealed h94 rfl w' (hq.1.mono fun _ _ => trivial)) (MT.vv rfl rfl (gy rfl rfl rfl b92) (mvv v0 rfl) (MT.vv rfl rfl (gy rfl rfl rfl b92) (rv_nilcheck rfl h0.ptr) (MT.vv rfl rfl (gy rfl rfl rfl b92) (rv_fieldAddr (b := pb v0) (o := 0) st62 rfl h0.ptr) ?_))))
                obtain ⟨c95, h96, h97⟩ := h0.sl (i := 1) rfl
                refine MT.r rfl rfl (gy rfl rfl rfl b92) ⟨m91, trivial⟩ (fun w' hq => rw_ofieldU (i := 1) (c := c95) h0 (hq.1.mono fun _ _ => trivial) ag38 h96 rfl) (MT.vv rfl rfl (gy rfl rfl rfl b92) (mvv (.int .i64 x18) rfl) ?_)
                obtain ⟨y98, h99, h88⟩ := bnd_some h88
                refine MT.vv rfl rfl (gy rfl rfl rfl b92) (rv_index el38 h97 rfl rfl h99) (MT.vv rfl rfl (gy rfl rfl rfl b92) (rv_fieldAddr st44 rfl rfl) ?_)
                obtain ⟨cs100, h101, h102⟩ := Sl.cells h97 h99
                obtain rfl := marigraphref11_Item.r.1 h101
                refine MT.r rfl rfl (gy rfl rfl rfl b92) ⟨m91, trivial⟩ (fun w' hq => rw_el1 (off := 0) ag3 (h102 w' (hq.1.mono fun _ _ => trivial)) rfl rfl) (MT.vv rfl rfl (gy rfl rfl rfl b92) (rv_eql rfl rfl) (mtv rfl rfl (ptk (.bool (y93 == y98.Id)) rfl b92 rfl) (MT.e ?_)))
                obtain rfl := Option.some.inj h88
                exact ⟨_, C, ⟨rfl, rfl, rfl, rfl, rfl, trivial⟩, h15, h0⟩
              · refine MT.n rfl rfl (gn rfl rfl rfl b92) trivial (MT.n rfl rfl (gn rfl rfl rfl b92) trivial (MT.n rfl rfl (gn rfl rfl rfl b92) trivial (MT.n rfl rfl (gn rfl rfl rfl b92) ⟨m91, trivial⟩ (MT.n rfl rfl (gn rfl rfl rfl b92) trivial (MT.n rfl rfl (gn rfl rfl rfl b92) trivial (MT.n rfl rfl (gn rfl rfl rfl b92) trivial (MT.n rfl rfl (gn rfl rfl rfl b92) ⟨m91, trivial⟩ (MT.n rfl rfl (gn rfl rfl rfl b92) trivial (MT.n rfl rfl (gn rfl rfl rfl b92) trivial (MT.n rfl rfl (gn rfl rfl rfl b92) trivial (MT.n rfl rfl (gn rfl rfl rfl b92) ⟨m91, trivial⟩ ?_)))))))))))
                refine MT.n rfl rfl (gn rfl rfl rfl b92) trivial (mtv rfl rfl (pfk (.bool false) rfl b92 rfl) (MT.e ?_))
                obtain rfl := Option.some.inj h88
                exact ⟨_, C, ⟨rfl, rfl, rfl, rfl, rfl, trivial⟩, h15, h0⟩
            · rintro ρ w104 ⟨S103, C, h105, h15, h0⟩
              refine h105.cw fun ρ => ?_
              clear h105
              rcases bif_some h84 with ⟨b106, h84⟩ | ⟨b106, h84⟩
              · refine cw_t rfl b106 (cw_exit ?_)
                obtain rfl := Option.some.inj h84
                replace h32 := h32.2 _ rfl
                obtain rfl := Option.some.inj h32
                exact ⟨_, _, C, ⟨rfl, rfl, rfl, trivial⟩, h15, h0⟩
              · refine cw_f rfl b106 (cw_skip ?_)
                obtain rfl := Option.some.inj h84
                exact ⟨_, rfl, ⟨_, C, ⟨rfl, rfl, rfl, rfl, trivial⟩, h15, h0⟩⟩
          · rintro ρ w108 ⟨o81n, rfl, ⟨S107, C, h109, h15, h0⟩⟩
            replace h32 := h32.1 _ rfl
            refine h109.cw fun ρ => ?_
            clear h109
            refine cw_seq fun K110 k111 => ?_
            refine cw_region ?_
            refine sc (dc_lit (vs := []) (xs := ([] : List Int)) (base := w.heap.size) el51 rfl rfl (.nil) (Nat.le_of_ble_eq_true rfl) C.up.size C.sb fun v112 w113 h114 h115 u116 => ?_)
            have p117 := ap_fresh h115 (fun b hb => (h0.lt b hb).1)
            have p118 := ap_fresh h115 (fun b hb => (h15.lt b hb).2)
            replace h0 := h0.nw u116
            replace h15 := h15.nw u116
            replace C := C.new u116
            refine sv (mvv v14 rfl) (sv (mvv (.int .i64 o35) rfl) ?_)
            obtain ⟨y119, h120, h32⟩ := bnd_some h32
            obtain ⟨v121, h122, h123, h124⟩ := Ow.fromO (P := Try.prog) h15 h120 el51
            refine sv (h124 rfl rfl) ?_
            obtain ⟨y125, h126, h32⟩ := bnd_some h32
            have h132 := h114
            refine sc (dc_append el51 (by decide) h132 h123 rfl rfl h126 C.up.size C.sb fun v127 w128 h129 u130 h131 => ?_)
            have p133 := ap_grow p117 h131 (fun b hb => (h0.lt b hb).1)
            have p134 := ap_grow p118 h131 (fun b hb => (h15.lt b hb).2)
            replace h0 := h0.wr u130 h132.not (ap_symm p117)
            replace h15 := h15.wr u130 h132.not (ap_symm p118)
            replace C := C.ow h132 u130
            refine sv (asv v127 rfl) (W.e (k111 _ _ ?_))
            obtain ⟨o135, h138, h32⟩ := bnd_some h32
            refine cw_seq' (fun ρ w1 => ∃ S1 v289, Cx No S w S1 w1 ∧ Has ρ [(0, v0), (3, v289), (4, .int .i64 x18), (6, v127)] ∧ Ow (kI .i64) 3 S1 w.heap.size w1 v289 o135 ∧ Ow (kI .i64) 3 S1 w.heap.size w1 v127 y125 ∧ Ob 62 (marigraphref11_Head.fs a0) S1 w1 v0 cs0 fp0 ∧ Ap v289 v127) ?_ ?_
            · refine cw_drawU (.one 1 true (.one 2 true (.one 3 true (.one 5 true (.one 6 true (.one 7 true (.one 8 true (.one 9 true (.one 10 true (.one 11 true (.one 12 true (.two 0 13 (.two 4 13 (.one 13 false (.one 14 false (.one 15 true .done))) (.one 4 false (.one 14 false (.one 15 true .done)))) (.one 0 false (.one 4 false (.one 14 false (.one 15 true .done)))))))))))))))) [(8, [10]), (12, [0])] [(0, [0, 10]), (4, [0, 10]), (13, [10]), (14, [0, 10])] (fun c => bif Nat.beq c 0 then S107 else bif Nat.beq c 10 then (One (pb v0)) else No) fol (by kernel_rfl) fun w139 u140 => ?_
              replace h0 := h0.nw u140
              replace h15 := h15.nw u140
              replace h129 := h129.nw u140
              replace C := C.new u140
              have h0d := h0
              have h15d := h15
              have h129d := h129
              have m141 := Sm.refl S107 w139
              have m142 := Sm.refl (One (pb v0)) w139
              refine mtv rfl rfl (mvv v14 rfl) (mtv rfl rfl (mvv (.int .i64 o35) rfl) ?_)
              obtain ⟨y10_3_1, h143, h138⟩ := bnd_some h138
              obtain ⟨v144, h145, h146, h147⟩ := Ow.upto (P := Try.prog) h15 h143 el51
              have p148 : Ap v144 v127 := fun b hq => (ap_symm p134) b (h146 b hq)
              refine mtv rfl rfl (h147 rfl rfl) (mtv rfl rfl (mvv v0 rfl) (mtv rfl rfl (rv_nilcheck rfl h0.ptr) (mtv rfl rfl (rv_fieldAddr (b := pb v0) (o := 0) st62 rfl h0.ptr) ?_)))
              obtain ⟨c149, h150, h151⟩ := h0.sl (i := 1) rfl
              refine mtr rfl rfl ⟨m142, trivial⟩ (fun w' hq => rw_ofieldU (i := 1) (c := c149) h0 hq.1 ag38 h150 rfl) (mtv rfl rfl (mvv (.int .i64 x18) rfl) ?_)
              obtain ⟨y10_10_1, h152, h138⟩ := bnd_some h138
              refine mtv rfl rfl (rv_index el38 h151 rfl rfl h152) (mtv rfl rfl (rv_fieldAddr st44 rfl rfl) ?_)
              obtain ⟨cs153, h154, h155⟩ := Sl.cells h151 h152
              obtain rfl := marigraphref11_Item.r.1 h154
              refine mtr rfl rfl ⟨m141, trivial⟩ (fun w' hq => rw_el1 (off := 0) ag3 (h155 w' hq.1) rfl rfl) ?_
              refine MT.two ?_ ?_
              · refine mtc rfl rfl (dc_lit (vs := []) (xs := ([] : List Int)) (base := w.heap.size) el51 rfl rfl (.nil) (Nat.le_of_ble_eq_true rfl) C.up.size C.sb fun v156 w157 h158 h159 u160 => ?_)
                have p161 := ap_fresh h159 (fun b hb => (h0.lt b hb).1)
                have p162 := ap_fresh h159 (fun b hb => (h145.lt b hb).2)
                have p163 := ap_fresh h159 (fun b hb => (h129.lt b hb).2)
                replace h0 := h0.nw u160
                replace h145 := h145.nw u160
                replace h129 := h129.nw u160
                replace C := C.new u160
                have z164 := (u160).size
                have m165 := m141.nx u160 (by omega)
                have m166 := m142.nx u160 (by omega)
                refine ⟨⟨m165, m166, trivial⟩, ?_⟩
                refine MT.two ?_ ?_
                · obtain ⟨y10_4_1, h167, h138⟩ := bnd_some h138
                  have h173 := h158
                  refine mtc rfl rfl (dc_append el51 (by decide) h173 h145.src rfl rfl h167 C.up.size C.sb fun v168 w169 h170 u171 h172 => ?_)
                  have p174 := ap_grow p161 h172 (fun b hb => (h0.lt b hb).1)
                  have p175 := ap_grow p163 h172 (fun b hb => (h129.lt b hb).2)
                  replace h0 := h0.wr u171 h173.not (ap_symm p161)
                  replace h129 := h129.wr u171 h173.not (ap_symm p163)
                  replace C := C.ow h173 u171
                  have z176 := (u171).size
                  have m177 := m165.wrC u171 (by omega) h173.not
                  have m178 := m166.wrC u171 (by omega) (ap_one p161 h0.hd)
                  refine ⟨⟨m177, m178, trivial⟩, ?_⟩
                  refine mtc rfl rfl (dc_lit (vs := [.int .i64 y10_10_1.Id]) (xs := ([y10_10_1.Id] : List Int)) (base := w.heap.size) el51 rfl rfl (.cons (sl_sc.2 rfl) (.nil)) (Nat.le_of_ble_eq_true rfl) C.up.size C.sb fun v179 w180 h181 h182 u183 => ?_)
                  have p184 := ap_fresh h182 (fun b hb => (h0.lt b hb).1)
                  have p185 := ap_fresh h182 (fun b hb => (h170.lt b hb).2)
                  have p186 := ap_fresh h182 (fun b hb => (h129.lt b hb).2)
                  replace h0 := h0.nw u183
                  replace h170 := h170.nw u183
                  replace h129 := h129.nw u183
                  replace C := C.new u183
                  have z187 := (u183).size
                  have m188 := m177.nx u183 (by omega)
                  have m189 := m178.nx u183 (by omega)
                  refine ⟨⟨m189, trivial⟩, ?_⟩
                  obtain ⟨y10_14_1, h190, h138⟩ := bnd_some h138
                  have h196 := h170
                  refine mtc rfl rfl (dc_append el51 (by decide) h196 h181.src rfl rfl h190 C.up.size C.sb fun v191 w192 h193 u194 h195 => ?_)
                  have p197 := ap_grow p174 h195 (fun b hb => (h0.lt b hb).1)
                  have p198 := ap_grow p175 h195 (fun b hb => (h129.lt b hb).2)
                  replace h0 := h0.wr u194 h196.not (ap_symm p174)
                  replace h129 := h129.wr u194 h196.not (ap_symm p175)
                  replace C := C.ow h196 u194
                  have z199 := (u194).size
                  have m200 := m188.wrC u194 (by omega) h196.not
                  have m201 := m189.wrC u194 (by omega) (ap_one p174 h0.hd)
                  refine ⟨⟨m200, m201, trivial⟩, ?_⟩
                  refine mtv rfl rfl (asv v191 rfl) (MT.e ?_)
                  obtain rfl := Option.some.inj h138
                  exact ⟨_, _, C, ⟨rfl, rfl, rfl, rfl, trivial⟩, h193, h129, h0, p198⟩
                · refine mtc rfl rfl (dc_lit (vs := [.int .i64 y10_10_1.Id]) (xs := ([y10_10_1.Id] : List Int)) (base := w.heap.size) el51 rfl rfl (.cons (sl_sc.2 rfl) (.nil)) (Nat.le_of_ble_eq_true rfl) C.up.size C.sb fun v202 w203 h204 h205 u206 => ?_)
                  have p207 := ap_fresh h205 (fun b hb => (h0.lt b hb).1)
                  have p208 := ap_fresh h205 (fun b hb => (h145.lt b hb).2)
                  have p209 := ap_fresh h205 (fun b hb => (h129.lt b hb).2)
                  have p210 := ap_fresh h205 (fun b hb => (h158.lt b hb).2)
                  replace h0 := h0.nw u206
                  replace h145 := h145.nw u206
                  replace h129 := h129.nw u206
                  replace h158 := h158.nw u206
                  replace C := C.new u206
                  have z211 := (u206).size
                  have m212 := m165.nx u206 (by omega)
                  have m213 := m166.nx u206 (by omega)
                  refine ⟨⟨m213, trivial⟩, ?_⟩
                  obtain ⟨y10_4_1, h214, h138⟩ := bnd_some h138
                  have h220 := h158
                  refine mtc rfl rfl (dc_append el51 (by decide) h220 h145.src rfl rfl h214 C.up.size C.sb fun v215 w216 h217 u218 h219 => ?_)
                  have p221 := ap_grow p161 h219 (fun b hb => (h0.lt b hb).1)
                  have p222 := ap_grow p163 h219 (fun b hb => (h129.lt b hb).2)
                  have p223 := ap_grow (ap_symm p210) h219 (fun b hb => (h204.lt b hb).2)
                  replace h0 := h0.wr u218 h220.not (ap_symm p161)
                  replace h129 := h129.wr u218 h220.not (ap_symm p163)
                  replace h204 := h204.wr u218 h220.not p210
                  replace C := C.ow h220 u218
                  have z224 := (u218).size
                  have m225 := m212.wrC u218 (by omega) h220.not
                  have m226 := m213.wrC u218 (by omega) (ap_one p161 h0.hd)
                  refine ⟨⟨m225, m226, trivial⟩, ?_⟩
                  obtain ⟨y10_14_1, h227, h138⟩ := bnd_some h138
                  have h233 := h217
                  refine mtc rfl rfl (dc_append el51 (by decide) h233 h204.src rfl rfl h227 C.up.size C.sb fun v228 w229 h230 u231 h232 => ?_)
                  have p234 := ap_grow p221 h232 (fun b hb => (h0.lt b hb).1)
                  have p235 := ap_grow p222 h232 (fun b hb => (h129.lt b hb).2)
                  replace h0 := h0.wr u231 h233.not (ap_symm p221)
                  replace h129 := h129.wr u231 h233.not (ap_symm p222)
                  replace C := C.ow h233 u231
                  have z236 := (u231).size
                  have m237 := m225.wrC u231 (by omega) h233.not
                  have m238 := m226.wrC u231 (by omega) (ap_one p221 h0.hd)
                  refine ⟨⟨m237, m238, trivial⟩, ?_⟩
                  refine mtv rfl rfl (asv v228 rfl) (MT.e ?_)
                  obtain rfl := Option.some.inj h138
                  exact ⟨_, _, C, ⟨rfl, rfl, rfl, rfl, trivial⟩, h230, h129, h0, p235⟩
              · refine mtc rfl rfl (dc_lit (vs := [.int .i64 y10_10_1.Id]) (xs := ([y10_10_1.Id] : List Int)) (base := w.heap.size) el51 rfl rfl (.cons (sl_sc.2 rfl) (.nil)) (Nat.le_of_ble_eq_true rfl) C.up.size C.sb fun v239 w240 h241 h242 u243 => ?_)
                have p244 := ap_fresh h242 (fun b hb => (h0.lt b hb).1)
                have p245 := ap_fresh h242 (fun b hb => (h145.lt b hb).2)
                have p246 := ap_fresh h242 (fun b hb => (h129.lt b hb).2)
                replace h0 := h0.nw u243
                replace h145 := h145.nw u243
                replace h129 := h129.nw u243
                replace C := C.new u243
                have z247 := (u243).size
                have m248 := m141.nx u243 (by omega)
                have m249 := m142.nx u243 (by omega)
                refine ⟨⟨m249, trivial⟩, ?_⟩
                refine mtc rfl rfl (dc_lit (vs := []) (xs := ([] : List Int)) (base := w.heap.size) el51 rfl rfl (.nil) (Nat.le_of_ble_eq_true rfl) C.up.size C.sb fun v250 w251 h252 h253 u254 => ?_)
                have p255 := ap_fresh h253 (fun b hb => (h0.lt b hb).1)
                have p256 := ap_fresh h253 (fun b hb => (h145.lt b hb).2)
                have p257 := ap_fresh h253 (fun b hb => (h129.lt b hb).2)
                have p258 := ap_fresh h253 (fun b hb => (h241.lt b hb).2)
                replace h0 := h0.nw u254
                replace h145 := h145.nw u254
                replace h129 := h129.nw u254
                replace h241 := h241.nw u254
                replace C := C.new u254
                have z259 := (u254).size
                have m260 := m248.nx u254 (by omega)
                have m261 := m249.nx u254 (by omega)
                refine ⟨⟨m260, m261, trivial⟩, ?_⟩
                obtain ⟨y10_4_1, h262, h138⟩ := bnd_some h138
                have h268 := h252
                refine mtc rfl rfl (dc_append el51 (by decide) h268 h145.src rfl rfl h262 C.up.size C.sb fun v263 w264 h265 u266 h267 => ?_)
                have p269 := ap_grow p255 h267 (fun b hb => (h0.lt b hb).1)
                have p270 := ap_grow p257 h267 (fun b hb => (h129.lt b hb).2)
                have p271 := ap_grow p258 h267 (fun b hb => (h241.lt b hb).2)
                replace h0 := h0.wr u266 h268.not (ap_symm p255)
                replace h129 := h129.wr u266 h268.not (ap_symm p257)
                replace h241 := h241.wr u266 h268.not (ap_symm p258)
                replace C := C.ow h268 u266
                have z272 := (u266).size
                have m273 := m260.wrC u266 (by omega) h268.not
                have m274 := m261.wrC u266 (by omega) (ap_one p255 h0.hd)
                refine ⟨⟨m273, m274, trivial⟩, ?_⟩
                obtain ⟨y10_14_1, h275, h138⟩ := bnd_some h138
                have h281 := h265
                refine mtc rfl rfl (dc_append el51 (by decide) h281 h241.src rfl rfl h275 C.up.size C.sb fun v276 w277 h278 u279 h280 => ?_)
                have p282 := ap_grow p269 h280 (fun b hb => (h0.lt b hb).1)
                have p283 := ap_grow p270 h280 (fun b hb => (h129.lt b hb).2)
                replace h0 := h0.wr u279 h281.not (ap_symm p269)
                replace h129 := h129.wr u279 h281.not (ap_symm p270)
                replace C := C.ow h281 u279
                have z284 := (u279).size
                have m285 := m273.wrC u279 (by omega) h281.not
                have m286 := m274.wrC u279 (by omega) (ap_one p269 h0.hd)
                refine ⟨⟨m285, m286, trivial⟩, ?_⟩
                refine mtv rfl rfl (asv v276 rfl) (MT.e ?_)
                obtain rfl := Option.some.inj h138
                exact ⟨_, _, C, ⟨rfl, rfl, rfl, rfl, trivial⟩, h278, h129, h0, p283⟩
            · rintro ρ w288 ⟨S287, v289, C, h292, h290, h129, h0, p291⟩
              refine h292.cw fun ρ => ?_
              clear h292
              refine cw_region (sv (mvv v289 rfl) (sv (mvv v127 rfl) ?_))
              obtain ⟨y293, h294, h32⟩ := bnd_some h32
              have h300 := h290
              refine sc (dc_append el51 (by decide) h300 h129.src rfl rfl h294 C.up.size C.sb fun v295 w296 h297 u298 h299 => ?_)
              have p301 := ap_grow (ap_symm (fun b hq hb => absurd (h290.lt b hb).1 (Nat.not_le_of_lt (hl0 b hq)))) h299 (fun b hb => (h0.lt b hb).1)
              replace h0 := h0.wr u298 h300.not (fun b hq hb => absurd (h300.lt b hb).1 (Nat.not_le_of_lt (hl0 b hq)))
              replace C := C.ow h300 u298
              refine sv (asv v295 rfl) (W.e ?_)
              obtain rfl := Option.some.inj h32
              exact ⟨_, _, C, ⟨rfl, rfl, rfl, trivial⟩, h297, h0⟩
      · rintro ρ w303 ⟨S302, v304, C, h306, h305, h0⟩
        refine h306.cw fun ρ => ?_
        clear h306
        refine cw_region (sv (mvv (.int .i64 x18) rfl) ?_)
        obtain ⟨y307, h308, h20⟩ := pur_some h20
        refine sv (rv_add rfl rfl h308) (sv (asv (.int .i64 y307) rfl) (W.e ?_))
        obtain rfl := Option.some.inj h20
        exact ⟨_, rfl, ⟨_, _, C, ⟨rfl, rfl, rfl, trivial⟩, h305, h0⟩⟩
    · refine cw_f rfl b28 (cw_exit ?_)
      obtain rfl := Option.some.inj h20
      have h309 := congrArg some h19
      obtain rfl := Option.some.inj h309
      exact ⟨_, _, C, ⟨rfl, trivial⟩, h15⟩
  · rintro ρ w311 ⟨S310, v312, C, h314, h313⟩
    refine h314.cw fun ρ => ?_
    clear h314
    refine cw_seq fun K315 k316 => ?_
    refine cw_region (sv (mvv v312 rfl) (sv (asv v312 rfl) (W.e (k316 _ _ (cw_ret ?_)))))
    obtain rfl := Option.some.inj h
    exact ⟨_, rfl, _, _, rfl, C, h313⟩

noncomputable def marigraphref10_Of.b5 (a0 : List api_Point) (x17 : List api_Point) (x18 : Int) (x40 : Int) : Option ((Int) ⊕ (Int)) :=
  (((bif (decide ((0 : Int) < x40)) then (pur (IntKind.i64.wrap (x40 - (1 : Int))) fun y55 => ((at_ x17 y55).bind fun y57 => ((at_ a0 x18).bind fun y62 => some (decide (y62.T < y57.T))))) else some false).bind fun o47 => (bif o47 then some (.inl ()) else some (.inr (.inr x40)))).bind (Sum.elim (fun o43n => (pur (IntKind.i64.wrap (x40 - (1 : Int))) fun y75 => some (.inl y75))) (fun q => some q)))
noncomputable def marigraphref10_Of.b2 (a0 : List api_Point) (x17 : List api_Point) (x18 : Int) : Option (((List api_Point) × Int) ⊕ ((List api_Point))) :=
  (bif (decide (x18 < (a0.length : Int))) then (((iter (fun s : Int => marigraphref10_Of.b5 a0 x17 x18 s) (x17.length : Int)).bind fun o32 => (((bif (decide ((0 : Int) < o32)) then (pur (IntKind.i64.wrap (o32 - (1 : Int))) fun y92 => ((at_ x17 y92).bind fun y94 => ((at_ a0 x18).bind fun y99 => some (y94.T == y99.T)))) else some false).bind fun o84 => (bif o84 then (pur (IntKind.i64.wrap (o32 - (1 : Int))) fun y110 => ((at_ a0 x18).bind fun y112 => ((at_ x17 y110).bind fun y117 => (pur (x17.set (y110).toNat y112) fun y119 => some (.inr y119))))) else some (.inl ()))).bind (Sum.elim (fun o80n => ((from_ x17 o32).bind fun y136 => ((app_ 16 ([] : List api_Point) y136).bind fun y142 => ((upto_ x17 o32).bind fun y156 => ((at_ a0 x18).bind fun y163 => ((app_ 16 y156 ([y163] : List api_Point)).bind fun y177 => ((app_ 16 y177 y142).bind fun y188 => some y188))))))) (fun q => some q)))).bind fun o26 => (pur (IntKind.i64.wrap (x18 + (1 : Int))) fun y201 => some (.inl (o26, y201)))) else some (.inr x17))
noncomputable def marigraphref10_Of (a0 : List api_Point) : Option (List api_Point) :=
  ((iter (fun s : (List api_Point) × Int => marigraphref10_Of.b2 a0 s.1 s.2) (([] : List api_Point), (0 : Int))).bind fun o5 => some o5)
set_option maxRecDepth 100000 in
set_option maxHeartbeats 4000000 in
theorem marigraphref10_Of_w {S : Nat → Prop} {w : World} {a0 : List api_Point} {v0 : Value} {r : (List api_Point)} (hS : Sb S w) (h0 : Sl (kSl api_Point.k) S w v0 a0) (h : marigraphref10_Of a0 = some r) :
    Calls Try.prog 41 (List.toArray [v0]) w fun e w1 => ∃ S1 u0, e = .returned (u0) ∧ Cx No S w S1 w1 ∧ Ow api_Point.k 29 S1 w.heap.size w1 u0 r := by
  refine enter Try.func41 rfl (by kernel_rfl) rfl ?_
  have C := Cx.refl (F := No) hS
  unfold marigraphref10_Of at h
  refine cw_seq fun K1 k2 => ?_
  refine cw_region (sv (asv (.slice none 0 0) rfl) (W.e (k2 _ _ ?_)))
  refine cw_seq fun K3 k4 => ?_
  refine cw_region (sv (asv (.slice none 0 0) rfl) (W.e (k4 _ _ ?_)))
  obtain ⟨o5, h8, h⟩ := bnd_some h
  refine cw_seq' (fun ρ w1 => ∃ S1 v206, Cx No S w S1 w1 ∧ Has ρ [(3, v206)] ∧ Ow api_Point.k 29 S1 w.heap.size w1 v206 o5) ?_ ?_
  · refine cw_seq fun K9 k10 => ?_
    refine cw_region (sv (asv (.int .i64 0) rfl) (W.e (k10 _ _ (cw_block ?_))))
    refine cw_iter h8 (fun s ρ w1 => ∃ S1 v14, Cx No S w S1 w1 ∧ Has ρ [(0, v0), (3, v14), (4, .int .i64 s.2)] ∧ Sl (kSl api_Point.k) S1 w1 v0 a0 ∧ Ow api_Point.k 29 S1 w.heap.size w1 v14 s.1) ⟨_, _, C, ⟨rfl, rfl, rfl, trivial⟩, h0, Ow.nil _ _ _ _ _⟩ ?_
    rintro ⟨x17, x18⟩ q11 ρ w13 ⟨S12, v14, C, h16, h0, h15⟩ h20 h19
    refine h16.cw fun ρ => ?_
    clear h16
    replace h20 : marigraphref10_Of.b2 a0 x17 x18 = some q11 := h20
    unfold marigraphref10_Of.b2 at h20
    refine cw_seq fun K21 k22 => ?_
    refine cw_seq fun K23 k24 => ?_
    refine cw_region (sv (mvv (.int .i64 x18) rfl) (sv (mvv v0 rfl) (sv (rv_lenS el33 h0 rfl) (sv (rv_lss rfl rfl) (W.e (k24 _ _ ?_))))))
    rcases bif_some h20 with ⟨b25, h20⟩ | ⟨b25, h20⟩
    · refine cw_t rfl b25 (cw_skip (k22 _ _ ?_))
      obtain ⟨o26, h29, h20⟩ := bnd_some h20
      refine cw_seq' (fun ρ w1 => ∃ S1 v198, Cx No S w S1 w1 ∧ Has ρ [(0, v0), (3, v198), (4, .int .i64 x18)] ∧ Sl (kSl api_Point.k) S1 w1 v0 a0 ∧ Ow api_Point.k 29 S1 w.heap.size w1 v198 o26) ?_ ?_
      · refine cw_block ?_
        refine cw_seq fun K30 k31 => ?_
        refine cw_region (sv (mvv v14 rfl) (sv (rv_lenS el33 h15.sealed rfl) (sv (asv (.int .i64 (x17.length : Int)) rfl) (W.e (k31 _ _ ?_)))))
        obtain ⟨o32, h35, h29⟩ := bnd_some h29
        refine cw_seq' (fun ρ w1 => ∃ S1, Cx No S w S1 w1 ∧ Has ρ [(0, v0), (3, v14), (4, .int .i64 x18), (5, .int .i64 o32)] ∧ Sl (kSl api_Point.k) S1 w1 v0 a0 ∧ Ow api_Point.k 29 S1 w.heap.size w1 v14 x17) ?_ ?_
        · refine cw_block ?_
          refine cw_iter h35 (fun s ρ w1 => ∃ S1, Cx No S w S1 w1 ∧ Has ρ [(0, v0), (3, v14), (4, .int .i64 x18), (5, .int .i64 s)] ∧ Sl (kSl api_Point.k) S1 w1 v0 a0 ∧ Ow api_Point.k 29 S1 w.heap.size w1 v14 x17) ⟨_, C, ⟨rfl, rfl, rfl, rfl, trivial⟩, h0, h15⟩ ?_
          rintro x40 q36 ρ w38 ⟨S37, C, h39, h0, h15⟩ h42 h41
          refine h39.cw fun ρ => ?_
          clear h39
          replace h42 : marigraphref10_Of.b5 a0 x17 x18 x40 = some q36 := h42
          unfold marigraphref10_Of.b5 at h42
          obtain ⟨o43, h46, h42⟩ := bnds_some h42
          refine cw_seq' (fun ρ w1 => ∃ o43n, o43 = (.inl o43n) ∧ ∃ S1, Cx No S w S1 w1 ∧ Has ρ [(0, v0), (3, v14), (4, .int .i64 x18), (5, .int .i64 x40)] ∧ Sl (kSl api_Point.k) S1 w1 v0 a0 ∧ Ow api_Point.k 29 S1 w.heap.size w1 v14 x17) ?_ ?_
          · obtain ⟨o47, h50, h46⟩ := bnd_some h46
            refine cw_seq' (fun ρ w1 => ∃ S1, Cx No S w S1 w1 ∧ Has ρ [(0, v0), (3, v14), (4, .int .i64 x18), (5, .int .i64 x40), (30, .bool o47)] ∧ Sl (kSl api_Point.k) S1 w1 v0 a0 ∧ Ow api_Point.k 29 S1 w.heap.size w1 v14 x17) ?_ ?_
            · refine cw_drawU (.one 0 true (.one 1 true (.one 2 true (.one 3 true (.one 4 true (.one 5 true (.one 6 true (.one 7 true (.one 8 true (.one 9 true (.one 10 true (.one 11 true (.one 12 true (.one 13 true (.one 14 true (.one 15 true .done)))))))))))))))) [(8, [9]), (13, [9])] [] (fun c => bif Nat.beq c 9 then (fun _ => True) else No) fol (by kernel_rfl) fun w51 u52 => ?_
              replace h0 := h0.nw u52
              replace h15 := h15.nw u52
              replace C := C.new u52
              have m53 := Sm.refl (fun _ => True) w51
              refine mtv rfl rfl (mvv (.int .i64 x40) rfl) (mtv rfl rfl (rv_gtr rfl rfl) (mtv rfl rfl (mvv (.bool (decide ((0 : Int) < x40))) rfl) ?_))
              rcases bif_some h50 with ⟨b54, h50⟩ | ⟨b54, h50⟩
              · refine MT.vv rfl rfl (gy rfl rfl rfl b54) (mvv v14 rfl) (MT.vv rfl rfl (gy rfl rfl rfl b54) (mvv (.int .i64 x40) rfl) ?_)
                obtain ⟨y55, h56, h50⟩ := pur_some h50
                refine MT.vv rfl rfl (gy rfl rfl rfl b54) (rv_sub rfl rfl h56) ?_
                obtain ⟨y57, h58, h50⟩ := bnd_some h50
                refine MT.vv rfl rfl (gy rfl rfl rfl b54) (rv_index el33 h15.sealed rfl rfl h58) (MT.vv rfl rfl (gy rfl rfl rfl b54) (rv_fieldAddr st29 rfl rfl) ?_)
                obtain ⟨cs59, h60, h61⟩ := Ow.cellsO h15 h58
                obtain rfl := api_Point.r.1 h60
                refine MT.r rfl rfl (gy rfl rfl rfl b54) ⟨m53, trivial⟩ (fun w' hq => rw_el1 (off := 0) ag3 (h61 w' (hq.1.mono fun _ _ => trivial)) rfl rfl) (MT.vv rfl rfl (gy rfl rfl rfl b54) (mvv v0 rfl) (MT.vv rfl rfl (gy rfl rfl rfl b54) (mvv (.int .i64 x18) rfl) ?_))
                obtain ⟨y62, h63, h50⟩ := bnd_some h50
                refine MT.vv rfl rfl (gy rfl rfl rfl b54) (rv_index el33 h0 rfl rfl h63) (MT.vv rfl rfl (gy rfl rfl rfl b54) (rv_fieldAddr st29 rfl rfl) ?_)
                obtain ⟨cs64, h65, h66⟩ := Sl.cells h0 h63
                obtain rfl := api_Point.r.1 h65
                refine MT.r rfl rfl (gy rfl rfl rfl b54) ⟨m53, trivial⟩ (fun w' hq => rw_el1 (off := 0) ag3 (h66 w' (hq.1.mono fun _ _ => trivial)) rfl rfl) (MT.vv rfl rfl (gy rfl rfl rfl b54) (rv_gtr rfl rfl) (mtv rfl rfl (ptk (.bool (decide (y62.T < y57.T))) rfl b54 rfl) (MT.e ?_)))
                obtain rfl := Option.some.inj h50
                exact ⟨_, C, ⟨rfl, rfl, rfl, rfl, rfl, trivial⟩, h0, h15⟩
              · refine MT.n rfl rfl (gn rfl rfl rfl b54) trivial (MT.n rfl rfl (gn rfl rfl rfl b54) trivial (MT.n rfl rfl (gn rfl rfl rfl b54) trivial (MT.n rfl rfl (gn rfl rfl rfl b54) trivial (MT.n rfl rfl (gn rfl rfl rfl b54) trivial (MT.n rfl rfl (gn rfl rfl rfl b54) ⟨m53, trivial⟩ (MT.n rfl rfl (gn rfl rfl rfl b54) trivial (MT.n rfl rfl (gn rfl rfl rfl b54) trivial (MT.n rfl rfl (gn rfl rfl rfl b54) trivial (MT.n rfl rfl (gn rfl rfl rfl b54) trivial (MT.n rfl rfl (gn rfl rfl rfl b54) ⟨m53, trivial⟩ (MT.n rfl rfl (gn rfl rfl rfl b54) trivial ?_)))))))))))
                refine mtv rfl rfl (pfk (.bool false) rfl b54 rfl) (MT.e ?_)
                obtain rfl := Option.some.inj h50
                exact ⟨_, C, ⟨rfl, rfl, rfl, rfl, rfl, trivial⟩, h0, h15⟩
            · rintro ρ w68 ⟨S67, C, h69, h0, h15⟩
              refine h69.cw fun ρ => ?_
              clear h69
              rcases bif_some h46 with ⟨b70, h46⟩ | ⟨b70, h46⟩
              · refine cw_t rfl b70 (cw_skip ?_)
                obtain rfl := Option.some.inj h46
                exact ⟨_, rfl, ⟨_, C, ⟨rfl, rfl, rfl, rfl, trivial⟩, h0, h15⟩⟩
              · refine cw_f rfl b70 (cw_exit ?_)
                obtain rfl := Option.some.inj h46
                replace h42 := h42.2 _ rfl
                obtain rfl := Option.some.inj h42
                have h71 := congrArg some h41
                obtain rfl := Option.some.inj h71
                exact ⟨_, C, ⟨rfl, rfl, rfl, rfl, trivial⟩, h0, h15⟩
          · rintro ρ w73 ⟨o43n, rfl, ⟨S72, C, h74, h0, h15⟩⟩
            replace h42 := h42.1 _ rfl
            refine h74.cw fun ρ => ?_
            clear h74
            refine cw_block (cw_region (sv (mvv (.int .i64 x40) rfl) ?_))
            obtain ⟨y75, h76, h42⟩ := pur_some h42
            refine sv (rv_sub rfl rfl h76) (sv (asv (.int .i64 y75) rfl) (W.e ?_))
            obtain rfl := Option.some.inj h42
            exact ⟨_, rfl, ⟨_, C, ⟨rfl, rfl, rfl, rfl, trivial⟩, h0, h15⟩⟩
        · rintro ρ w78 ⟨S77, C, h79, h0, h15⟩
          refine h79.cw fun ρ => ?_
          clear h79
          obtain ⟨o80, h83, h29⟩ := bnds_some h29
          refine cw_seq' (fun ρ w1 => ∃ o80n, o80 = (.inl o80n) ∧ ∃ S1, Cx No S w S1 w1 ∧ Has ρ [(0, v0), (3, v14), (4, .int .i64 x18), (5, .int .i64 o32)] ∧ Sl (kSl api_Point.k) S1 w1 v0 a0 ∧ Ow api_Point.k 29 S1 w.heap.size w1 v14 x17) ?_ ?_
          · obtain ⟨o84, h87, h83⟩ := bnd_some h83
            refine cw_seq' (fun ρ w1 => ∃ S1, Cx No S w S1 w1 ∧ Has ρ [(0, v0), (3, v14), (4, .int .i64 x18), (5, .int .i64 o32), (48, .bool o84)] ∧ Sl (kSl api_Point.k) S1 w1 v0 a0 ∧ Ow api_Point.k 29 S1 w.heap.size w1 v14 x17) ?_ ?_
            · refine cw_drawU (.one 0 true (.one 1 true (.one 2 true (.one 3 true (.one 4 true (.one 5 true (.one 6 true (.one 7 true (.one 8 true (.one 9 true (.one 10 true (.one 11 true (.one 12 true (.one 13 true (.one 14 true (.one 15 true .done)))))))))))))))) [(8, [9]), (13, [9])] [] (fun c => bif Nat.beq c 9 then (fun _ => True) else No) fol (by kernel_rfl) fun w88 u89 => ?_
              replace h0 := h0.nw u89
              replace h15 := h15.nw u89
              replace C := C.new u89
              have m90 := Sm.refl (fun _ => True) w88
              refine mtv rfl rfl (mvv (.int .i64 o32) rfl) (mtv rfl rfl (rv_gtr rfl rfl) (mtv rfl rfl (mvv (.bool (decide ((0 : Int) < o32))) rfl) ?_))
              rcases bif_some h87 with ⟨b91, h87⟩ | ⟨b91, h87⟩
              · refine MT.vv rfl rfl (gy rfl rfl rfl b91) (mvv v14 rfl) (MT.vv rfl rfl (gy rfl rfl rfl b91) (mvv (.int .i64 o32) rfl) ?_)
                obtain ⟨y92, h93, h87⟩ := pur_some h87
                refine MT.vv rfl rfl (gy rfl rfl rfl b91) (rv_sub rfl rfl h93) ?_
                obtain ⟨y94, h95, h87⟩ := bnd_some h87
                refine MT.vv rfl rfl (gy rfl rfl rfl b91) (rv_index el33 h15.sealed rfl rfl h95) (MT.vv rfl rfl (gy rfl rfl rfl b91) (rv_fieldAddr st29 rfl rfl) ?_)
                obtain ⟨cs96, h97, h98⟩ := Ow.cellsO h15 h95
                obtain rfl := api_Point.r.1 h97
                refine MT.r rfl rfl (gy rfl rfl rfl b91) ⟨m90, trivial⟩ (fun w' hq => rw_el1 (off := 0) ag3 (h98 w' (hq.1.mono fun _ _ => trivial)) rfl rfl) (MT.vv rfl rfl (gy rfl rfl rfl b91) (mvv v0 rfl) (MT.vv rfl rfl (gy rfl rfl rfl b91) (mvv (.int .i64 x18) rfl) ?_))
                obtain ⟨y99, h100, h87⟩ := bnd_some h87
                refine MT.vv rfl rfl (gy rfl rfl rfl b91) (rv_index el33 h0 rfl rfl h100) (MT.vv rfl rfl (gy rfl rfl rfl b91) (rv_fieldAddr st29 rfl rfl) ?_)
                obtain ⟨cs101, h102, h103⟩ := Sl.cells h0 h100
                obtain rfl := api_Point.r.1 h102
                refine MT.r rfl rfl (gy rfl rfl rfl b91) ⟨m90, trivial⟩ (fun w' hq => rw_el1 (off := 0) ag3 (h103 w' (hq.1.mono fun _ _ => trivial)) rfl rfl) (MT.vv rfl rfl (gy rfl rfl rfl b91) (rv_eql rfl rfl) (mtv rfl rfl (ptk (.bool (y94.T == y99.T)) rfl b91 rfl) (MT.e ?_)))
                obtain rfl := Option.some.inj h87
                exact ⟨_, C, ⟨rfl, rfl, rfl, rfl, rfl, trivial⟩, h0, h15⟩
              · refine MT.n rfl rfl (gn rfl rfl rfl b91) trivial (MT.n rfl rfl (gn rfl rfl rfl b91) trivial (MT.n rfl rfl (gn rfl rfl rfl b91) trivial (MT.n rfl rfl (gn rfl rfl rfl b91) trivial (MT.n rfl rfl (gn rfl rfl rfl b91) trivial (MT.n rfl rfl (gn rfl rfl rfl b91) ⟨m90, trivial⟩ (MT.n rfl rfl (gn rfl rfl rfl b91) trivial (MT.n rfl rfl (gn rfl rfl rfl b91) trivial (MT.n rfl rfl (gn rfl rfl rfl b91) trivial (MT.n rfl rfl (gn rfl rfl rfl b91) trivial (MT.n rfl rfl (gn rfl rfl rfl b91) ⟨m90, trivial⟩ (MT.n rfl rfl (gn rfl rfl rfl b91) trivial ?_)))))))))))
                refine mtv rfl rfl (pfk (.bool false) rfl b91 rfl) (MT.e ?_)
                obtain rfl := Option.some.inj h87
                exact ⟨_, C, ⟨rfl, rfl, rfl, rfl, rfl, trivial⟩, h0, h15⟩
            · rintro ρ w105 ⟨S104, C, h106, h0, h15⟩
              refine h106.cw fun ρ => ?_
              clear h106
              rcases bif_some h83 with ⟨b107, h83⟩ | ⟨b107, h83⟩
              · refine cw_t rfl b107 ?_
                refine cw_seq fun K108 k109 => ?_
                refine cw_region (sv (mvv v14 rfl) (sv (mvv (.int .i64 o32) rfl) ?_))
                obtain ⟨y110, h111, h83⟩ := pur_some h83
                refine sv (rv_sub rfl rfl h111) (sv (mvv v0 rfl) (sv (mvv (.int .i64 x18) rfl) ?_))
                obtain ⟨y112, h113, h83⟩ := bnd_some h83
                refine sv (rv_index el33 h0 rfl rfl h113) ?_
                obtain ⟨v114, h115, h116⟩ := rw_loadA (P := Try.prog) el33 h0 h113
                obtain rfl := api_Point.o.1 h115
                refine sr (h116 _ (Sm.refl _ _) rfl) ?_
                obtain ⟨y117, h118, h83⟩ := bnd_some h83
                refine sv (rv_index el33 h15.sealed rfl rfl h118) ?_
                obtain ⟨y119, h120, h83⟩ := pur_some h83
                have h124 := h15
                refine sc (dc_storeO el33 h124 h118 rfl rfl (((api_Point.o (x := y112)).2 rfl)) fun w121 h122 u123 => ?_)
                rw [h120] at h122
                replace h0 := h0.wr u123 h124.not
                replace C := C.ow h124 u123
                refine W.e (k109 _ _ (cw_exit ?_))
                obtain rfl := Option.some.inj h83
                replace h29 := h29.2 _ rfl
                obtain rfl := Option.some.inj h29
                exact ⟨_, _, C, ⟨rfl, rfl, rfl, trivial⟩, h0, h122⟩
              · refine cw_f rfl b107 (cw_skip ?_)
                obtain rfl := Option.some.inj h83
                exact ⟨_, rfl, ⟨_, C, ⟨rfl, rfl, rfl, rfl, trivial⟩, h0, h15⟩⟩
          · rintro ρ w126 ⟨o80n, rfl, ⟨S125, C, h127, h0, h15⟩⟩
            replace h29 := h29.1 _ rfl
            refine h127.cw fun ρ => ?_
            clear h127
            refine cw_seq fun K128 k129 => ?_
            refine cw_region ?_
            refine sc (dc_lit (vs := []) (xs := ([] : List api_Point)) (base := w.heap.size) el33 rfl rfl (.nil) (Nat.le_of_ble_eq_true rfl) C.up.size C.sb fun v130 w131 h132 h133 u134 => ?_)
            have p135 := ap_fresh h133 (fun b hb => (h15.lt b hb).2)
            replace h0 := h0.nw u134
            replace h15 := h15.nw u134
            replace C := C.new u134
            refine sv (mvv v14 rfl) (sv (mvv (.int .i64 o32) rfl) ?_)
            obtain ⟨y136, h137, h29⟩ := bnd_some h29
            obtain ⟨v138, h139, h140, h141⟩ := Ow.fromO (P := Try.prog) h15 h137 el33
            refine sv (h141 rfl rfl) ?_
            obtain ⟨y142, h143, h29⟩ := bnd_some h29
            have h149 := h132
            refine sc (dc_append el33 (by decide) h149 h140 rfl rfl h143 C.up.size C.sb fun v144 w145 h146 u147 h148 => ?_)
            have p150 := ap_grow p135 h148 (fun b hb => (h15.lt b hb).2)
            replace h0 := h0.wr u147 h149.not
            replace h15 := h15.wr u147 h149.not (ap_symm p135)
            replace C := C.ow h149 u147
            refine sv (asv v144 rfl) (W.e (k129 _ _ ?_))
            refine cw_seq fun K151 k152 => ?_
            refine cw_drawU (.one 0 true (.one 1 true (.one 2 true (.one 3 true (.one 4 true (.one 5 true (.one 6 true (.one 7 false (.one 8 false (.one 9 true .done)))))))))) [(6, [0])] [(7, []), (8, [0])] (fun c => bif Nat.beq c 0 then S125 else No) fol (by kernel_rfl) fun w153 u154 => ?_
            replace h0 := h0.nw u154
            replace h15 := h15.nw u154
            replace h146 := h146.nw u154
            replace C := C.new u154
            have h0d := h0
            have h15d := h15
            have h146d := h146
            have m155 := Sm.refl S125 w153
            refine mtv rfl rfl (mvv v14 rfl) (mtv rfl rfl (mvv (.int .i64 o32) rfl) ?_)
            obtain ⟨y156, h157, h29⟩ := bnd_some h29
            obtain ⟨v158, h159, h160, h161⟩ := Ow.upto (P := Try.prog) h15 h157 el33
            have p162 : Ap v158 v144 := fun b hq => (ap_symm p150) b (h160 b hq)
            refine mtv rfl rfl (h161 rfl rfl) (mtv rfl rfl (mvv v0 rfl) (mtv rfl rfl (mvv (.int .i64 x18) rfl) ?_))
            obtain ⟨y163, h164, h29⟩ := bnd_some h29
            refine mtv rfl rfl (rv_index el33 h0 rfl rfl h164) ?_
            obtain ⟨v165, h166, h167⟩ := rw_loadA (P := Try.prog) el33 h0 h164
            obtain rfl := api_Point.o.1 h166
            refine mtr rfl rfl ⟨m155, trivial⟩ (fun w' hq => h167 w' hq.1 rfl) ?_
            refine mtc rfl rfl (dc_lit (vs := [.agg (List.toArray [.int .i64 y163.T, .int .i64 y163.V])]) (xs := ([y163] : List api_Point)) (base := w.heap.size) el33 rfl rfl (.cons ((api_Point.o (x := y163)).2 rfl) (.nil)) (Nat.le_of_ble_eq_true rfl) C.up.size C.sb fun v168 w169 h170 h171 u172 => ?_)
            have p173 := ap_fresh h171 (fun b hb => (h159.lt b hb).2)
            have p174 := ap_fresh h171 (fun b hb => (h146.lt b hb).2)
            replace h0 := h0.nw u172
            replace h159 := h159.nw u172
            replace h146 := h146.nw u172
            replace C := C.new u172
            have z175 := (u172).size
            have m176 := m155.nx u172 (by omega)
            refine ⟨trivial, ?_⟩
            obtain ⟨y177, h178, h29⟩ := bnd_some h29
            have h184 := h159
            refine mtc rfl rfl (dc_append el33 (by decide) h184 h170.src rfl rfl h178 C.up.size C.sb fun v179 w180 h181 u182 h183 => ?_)
            have p185 := ap_grow p162 h183 (fun b hb => (h146.lt b hb).2)
            replace h0 := h0.wr u182 h184.not
            replace h146 := h146.wr u182 h184.not (ap_symm p162)
            replace C := C.ow h184 u182
            have z186 := (u182).size
            have m187 := m176.wrC u182 (by omega) h184.not
            refine ⟨⟨m187, trivial⟩, ?_⟩
            refine mtv rfl rfl (asv v179 rfl) (MT.e (k152 _ _ (cw_region (sv (mvv v179 rfl) (sv (mvv v144 rfl) ?_)))))
            obtain ⟨y188, h189, h29⟩ := bnd_some h29
            have h195 := h181
            refine sc (dc_append el33 (by decide) h195 h146.src rfl rfl h189 C.up.size C.sb fun v190 w191 h192 u193 h194 => ?_)
            replace h0 := h0.wr u193 h195.not
            replace C := C.ow h195 u193
            refine sv (asv v190 rfl) (W.e ?_)
            obtain rfl := Option.some.inj h29
            exact ⟨_, _, C, ⟨rfl, rfl, rfl, trivial⟩, h0, h192⟩
      · rintro ρ w197 ⟨S196, v198, C, h200, h0, h199⟩
        refine h200.cw fun ρ => ?_
        clear h200
        refine cw_region (sv (mvv (.int .i64 x18) rfl) ?_)
        obtain ⟨y201, h202, h20⟩ := pur_some h20
        refine sv (rv_add rfl rfl h202) (sv (asv (.int .i64 y201) rfl) (W.e ?_))
        obtain rfl := Option.some.inj h20
        exact ⟨_, rfl, ⟨_, _, C, ⟨rfl, rfl, rfl, trivial⟩, h0, h199⟩⟩
    · refine cw_f rfl b25 (cw_exit ?_)
      obtain rfl := Option.some.inj h20
      have h203 := congrArg some h19
      obtain rfl := Option.some.inj h203
      exact ⟨_, _, C, ⟨rfl, trivial⟩, h15⟩
  · rintro ρ w205 ⟨S204, v206, C, h208, h207⟩
    refine h208.cw fun ρ => ?_
    clear h208
    refine cw_seq fun K209 k210 => ?_
    refine cw_region (sv (mvv v206 rfl) (sv (asv v206 rfl) (W.e (k210 _ _ (cw_ret ?_)))))
    obtain rfl := Option.some.inj h
    exact ⟨_, rfl, _, _, rfl, C, h207⟩

noncomputable def marigraphref11_Head_Points.b2 (a0 : marigraphref11_Head) (a1 : Int) (x17 : List api_Point) (x18 : Int) : Option (((List api_Point) × Int) ⊕ ((List api_Point))) :=
  (bif (decide (x18 < (a0.L.length : Int))) then (((at_ a0.L x18).bind fun y38 => (bif (y38.Id == a1) then ((at_ a0.L x18).bind fun y47 => ((app_ 16 x17 ([y47.P] : List api_Point)).bind fun y59 => some y59)) else some x17)).bind fun o29 => (pur (IntKind.i64.wrap (x18 + (1 : Int))) fun y73 => some (.inl (o29, y73)))) else some (.inr x17))
noncomputable def marigraphref11_Head_Points (a0 : marigraphref11_Head) (a1 : Int) : Option (List api_Point) :=
  ((iter (fun s : (List api_Point) × Int => marigraphref11_Head_Points.b2 a0 a1 s.1 s.2) (([] : List api_Point), (0 : Int))).bind fun o5 => ((marigraphref10_Of o5).bind fun y83 => some y83))
set_option maxRecDepth 100000 in
set_option maxHeartbeats 4000000 in
theorem marigraphref11_Head_Points_w {S : Nat → Prop} {w : World} {a0 : marigraphref11_Head} {a1 : Int} {v0 : Value} {cs0 : List Value} {fp0 : List Nat} {r : (List api_Point)} (hS : Sb S w) (h0 : Ob 62 (marigraphref11_Head.fs a0) S w v0 cs0 fp0) (h : marigraphref11_Head_Points a0 a1 = some r) :
    Calls Try.prog 29 (List.toArray [v0, .int .i64 a1]) w fun e w1 => ∃ S1 u0, e = .returned (u0) ∧ Cx No S w S1 w1 ∧ Ow api_Point.k 29 S1 w.heap.size w1 u0 r := by
  refine enter Try.func29 rfl (by kernel_rfl) rfl ?_
  have C := Cx.refl (F := No) hS
  unfold marigraphref11_Head_Points at h
  have hl0 : ∀ b ∈ fp0, b < w.heap.size := fun b hb => (h0.lt b hb).1
  refine cw_seq fun K1 k2 => ?_
  refine cw_region (sv (asv (.slice none 0 0) rfl) (W.e (k2 _ _ ?_)))
  refine cw_seq fun K3 k4 => ?_
  refine cw_region (sv (asv (.slice none 0 0) rfl) (W.e (k4 _ _ ?_)))
  obtain ⟨o5, h8, h⟩ := bnd_some h
  refine cw_seq' (fun ρ w1 => ∃ S1 v78, Cx No S w S1 w1 ∧ Has ρ [(5, v78)] ∧ Ow api_Point.k 29 S1 w.heap.size w1 v78 o5) ?_ ?_
  · refine cw_seq fun K9 k10 => ?_
    refine cw_region (sv (asv (.int .i64 0) rfl) (W.e (k10 _ _ (cw_block ?_))))
    refine cw_iter h8 (fun s ρ w1 => ∃ S1 v14, Cx No S w S1 w1 ∧ Has ρ [(0, v0), (1, .int .i64 a1), (5, v14), (6, .int .i64 s.2)] ∧ Ow api_Point.k 29 S1 w.heap.size w1 v14 s.1 ∧ Ob 62 (marigraphref11_Head.fs a0) S1 w1 v0 cs0 fp0) ⟨_, _, C, ⟨rfl, rfl, rfl, rfl, trivial⟩, Ow.nil _ _ _ _ _, h0⟩ ?_
    rintro ⟨x17, x18⟩ q11 ρ w13 ⟨S12, v14, C, h16, h15, h0⟩ h20 h19
    refine h16.cw fun ρ => ?_
    clear h16
    replace h20 : marigraphref11_Head_Points.b2 a0 a1 x17 x18 = some q11 := h20
    unfold marigraphref11_Head_Points.b2 at h20
    refine cw_seq fun K21 k22 => ?_
    refine cw_seq fun K23 k24 => ?_
    refine cw_region (sv (mvv (.int .i64 x18) rfl) (sv (mvv v0 rfl) (sv (rv_nilcheck rfl h0.ptr) (sv (rv_fieldAddr (b := pb v0) (o := 0) st62 rfl h0.ptr) ?_))))
    obtain ⟨c25, h26, h27⟩ := h0.sl (i := 1) rfl
    refine sr (rw_ofield (i := 1) (c := c25) h0 ag38 h26 rfl) (sv (rv_lenS el38 h27 rfl) (sv (rv_lss rfl rfl) (W.e (k24 _ _ ?_))))
    rcases bif_some h20 with ⟨b28, h20⟩ | ⟨b28, h20⟩
    · refine cw_t rfl b28 (cw_skip (k22 _ _ ?_))
      obtain ⟨o29, h32, h20⟩ := bnd_some h20
      refine cw_seq' (fun ρ w1 => ∃ S1 v70, Cx No S w S1 w1 ∧ Has ρ [(0, v0), (1, .int .i64 a1), (5, v70), (6, .int .i64 x18)] ∧ Ow api_Point.k 29 S1 w.heap.size w1 v70 o29 ∧ Ob 62 (marigraphref11_Head.fs a0) S1 w1 v0 cs0 fp0) ?_ ?_
      · refine cw_block ?_
        refine cw_seq fun K33 k34 => ?_
        refine cw_region (sv (mvv v0 rfl) (sv (rv_nilcheck rfl h0.ptr) (sv (rv_fieldAddr (b := pb v0) (o := 0) st62 rfl h0.ptr) ?_)))
        obtain ⟨c35, h36, h37⟩ := h0.sl (i := 1) rfl
        refine sr (rw_ofield (i := 1) (c := c35) h0 ag38 h36 rfl) (sv (mvv (.int .i64 x18) rfl) ?_)
        obtain ⟨y38, h39, h32⟩ := bnd_some h32
        refine sv (rv_index el38 h37 rfl rfl h39) (sv (rv_fieldAddr st44 rfl rfl) ?_)
        obtain ⟨cs40, h41, h42⟩ := Sl.cells h37 h39
        obtain rfl := marigraphref11_Item.r.1 h41
        refine sr (rw_el1 (off := 0) ag3 (h42 _ (Sm.refl _ _)) rfl rfl) (sv (mvv (.int .i64 a1) rfl) (sv (rv_eql rfl rfl) (W.e (k34 _ _ ?_))))
        rcases bif_some h32 with ⟨b43, h32⟩ | ⟨b43, h32⟩
        · refine cw_t rfl b43 (cw_region (sv (mvv v14 rfl) (sv (mvv v0 rfl) (sv (rv_nilcheck rfl h0.ptr) (sv (rv_fieldAddr (b := pb v0) (o := 0) st62 rfl h0.ptr) ?_)))))
          obtain ⟨c44, h45, h46⟩ := h0.sl (i := 1) rfl
          refine sr (rw_ofield (i := 1) (c := c44) h0 ag38 h45 rfl) (sv (mvv (.int .i64 x18) rfl) ?_)
          obtain ⟨y47, h48, h32⟩ := bnd_some h32
          refine sv (rv_index el38 h46 rfl rfl h48) (sv (rv_fieldAddr st44 rfl rfl) ?_)
          obtain ⟨cs49, h50, h51⟩ := Sl.cells h46 h48
          obtain rfl := marigraphref11_Item.r.1 h50
          refine sr (rw_elA (off := 1) ag29 (h51 _ (Sm.refl _ _)) rfl rfl rfl) ?_
          refine sc (dc_lit (vs := [.agg (List.toArray [.int .i64 y47.P.T, .int .i64 y47.P.V])]) (xs := ([y47.P] : List api_Point)) (base := w.heap.size) el33 rfl rfl (.cons ((api_Point.o (x := y47.P)).2 rfl) (.nil)) (Nat.le_of_ble_eq_true rfl) C.up.size C.sb fun v52 w53 h54 h55 u56 => ?_)
          have p57 := ap_fresh h55 (fun b hb => (h0.lt b hb).1)
          have p58 := ap_fresh h55 (fun b hb => (h15.lt b hb).2)
          replace h0 := h0.nw u56
          replace h15 := h15.nw u56
          replace C := C.new u56
          obtain ⟨y59, h60, h32⟩ := bnd_some h32
          have h66 := h15
          refine sc (dc_append el33 (by decide) h66 h54.src rfl rfl h60 C.up.size C.sb fun v61 w62 h63 u64 h65 => ?_)
          have p67 := ap_grow (ap_symm (fun b hq hb => absurd (h15.lt b hb).1 (Nat.not_le_of_lt (hl0 b hq)))) h65 (fun b hb => (h0.lt b hb).1)
          replace h0 := h0.wr u64 h66.not (fun b hq hb => absurd (h66.lt b hb).1 (Nat.not_le_of_lt (hl0 b hq)))
          replace C := C.ow h66 u64
          refine sv (asv v61 rfl) (W.e ?_)
          obtain rfl := Option.some.inj h32
          exact ⟨_, _, C, ⟨rfl, rfl, rfl, rfl, trivial⟩, h63, h0⟩
        · refine cw_f rfl b43 (cw_skip ?_)
          obtain rfl := Option.some.inj h32
          exact ⟨_, _, C, ⟨rfl, rfl, rfl, rfl, trivial⟩, h15, h0⟩
      · rintro ρ w69 ⟨S68, v70, C, h72, h71, h0⟩
        refine h72.cw fun ρ => ?_
        clear h72
        refine cw_region (sv (mvv (.int .i64 x18) rfl) ?_)
        obtain ⟨y73, h74, h20⟩ := pur_some h20
        refine sv (rv_add rfl rfl h74) (sv (asv (.int .i64 y73) rfl) (W.e ?_))
        obtain rfl := Option.some.inj h20
        exact ⟨_, rfl, ⟨_, _, C, ⟨rfl, rfl, rfl, rfl, trivial⟩, h71, h0⟩⟩
    · refine cw_f rfl b28 (cw_exit ?_)
      obtain rfl := Option.some.inj h20
      have h75 := congrArg some h19
      obtain rfl := Option.some.inj h75
      exact ⟨_, _, C, ⟨rfl, trivial⟩, h15⟩
  · rintro ρ w77 ⟨S76, v78, C, h80, h79⟩
    refine h80.cw fun ρ => ?_
    clear h80
    refine cw_seq fun K81 k82 => ?_
    refine cw_region (sv (mvv v78 rfl) ?_)
    replace C := C.sealO h79
    replace h79 := h79.sealed
    obtain ⟨y83, h84, h⟩ := bnd_some h
    refine sc (dc_call (vs := [v78]) can41 rfl ?_)
    refine (marigraphref10_Of_w C.sb h79 h84).mono ?_
    rintro _ w85 ⟨S86, v88, rfl, c87, h89⟩
    refine ⟨_, rfl, ?_⟩
    replace h89 := h89.base C.up.size
    replace C := C.trans c87
    refine sv (asv v88 rfl) (W.e (k82 _ _ (cw_ret ?_)))
    obtain rfl := Option.some.inj h
    exact ⟨_, rfl, _, _, rfl, C, h89⟩

noncomputable def marigraphref11_Head_Far (a0 : marigraphref11_Head) (a1 : Int) : Option Bool :=
  ((bif a0.Any then (bif (decide (a1 < a0.Last)) then (pur (IntKind.u64.wrap a0.Last) fun y12 => (pur (IntKind.u64.wrap a1) fun y14 => (pur (IntKind.u64.wrap (y12 - y14)) fun y16 => (pur (IntKind.u64.wrap a0.Window) fun y18 => some (decide (y18 < y16)))))) else some false) else some false).bind fun o3 => some o3)
set_option maxRecDepth 100000 in
set_option maxHeartbeats 4000000 in
theorem marigraphref11_Head_Far_w {S : Nat → Prop} {w : World} {a0 : marigraphref11_Head} {a1 : Int} {v0 : Value} {cs0 : List Value} {fp0 : List Nat} {r : Bool} (hS : Sb S w) (h0 : Ob 62 (marigraphref11_Head.fs a0) S w v0 cs0 fp0) (h : marigraphref11_Head_Far a0 a1 = some r) :
    Calls Try.prog 40 (List.toArray [v0, .int .i64 a1]) w fun e w1 => ∃ S1, e = .returned (.bool r) ∧ Cx No S w S1 w1 := by
  refine enter Try.func40 rfl (by kernel_rfl) rfl ?_
  have C := Cx.refl (F := No) hS
  unfold marigraphref11_Head_Far at h
  have hl0 : ∀ b ∈ fp0, b < w.heap.size := fun b hb => (h0.lt b hb).1
  refine cw_seq fun K1 k2 => ?_
  refine cw_region (sv (asv (.bool false) rfl) (W.e (k2 _ _ ?_)))
  obtain ⟨o3, h6, h⟩ := bnd_some h
  refine cw_seq' (fun ρ w1 => ∃ S1, Cx No S w S1 w1 ∧ Has ρ [(4, .bool o3)]) ?_ ?_
  · refine cw_drawU (.one 0 true (.one 1 true (.one 2 true (.one 3 true (.one 4 true (.one 5 true (.one 6 true (.one 7 true (.one 8 true (.one 9 true (.one 10 true (.one 11 true (.one 12 true (.one 13 true (.one 14 true (.one 15 true (.one 16 true (.one 17 true (.one 18 true (.one 19 true (.one 20 true (.one 21 true (.one 22 true (.one 23 true (.one 24 true (.one 25 true (.one 26 true (.one 27 true (.one 28 true .done))))))))))))))))))))))))))))) [(3, [9]), (9, [9]), (16, [9]), (24, [9])] [] (fun c => bif Nat.beq c 9 then (fun _ => True) else No) fol (by kernel_rfl) fun w7 u8 => ?_
    replace h0 := h0.nw u8
    replace C := C.new u8
    have m9 := Sm.refl (fun _ => True) w7
    refine mtv rfl rfl (mvv v0 rfl) (mtv rfl rfl (rv_nilcheck rfl h0.ptr) (mtv rfl rfl (rv_fieldAddr (b := pb v0) (o := 0) st62 rfl h0.ptr) (mtr rfl rfl ⟨m9, trivial⟩ (fun w' hq => rw_ofieldU (i := 3) (c := .bool a0.Any) h0 (hq.1.mono fun _ _ => trivial) ag4 (h0.sc (i := 3) rfl) rfl) (mtv rfl rfl (mvv (.bool a0.Any) rfl) ?_))))
    rcases bif_some h6 with ⟨b10, h6⟩ | ⟨b10, h6⟩
    · refine MT.vv rfl rfl (gy rfl rfl rfl b10) (mvv (.int .i64 a1) rfl) (MT.vv rfl rfl (gy rfl rfl rfl b10) (mvv v0 rfl) (MT.vv rfl rfl (gy rfl rfl rfl b10) (rv_nilcheck rfl h0.ptr) (MT.vv rfl rfl (gy rfl rfl rfl b10) (rv_fieldAddr (b := pb v0) (o := 0) st62 rfl h0.ptr) (MT.r rfl rfl (gy rfl rfl rfl b10) ⟨m9, trivial⟩ (fun w' hq => rw_ofieldU (i := 2) (c := .int .i64 a0.Last) h0 (hq.1.mono fun _ _ => trivial) ag3 (h0.sc (i := 2) rfl) rfl) (MT.vv rfl rfl (gy rfl rfl rfl b10) (rv_lss rfl rfl) (mtv rfl rfl (ptk (.bool (decide (a1 < a0.Last))) rfl b10 rfl) (mtv rfl rfl (mvv (.bool (decide (a1 < a0.Last))) rfl) ?_)))))))
      rcases bif_some h6 with ⟨b11, h6⟩ | ⟨b11, h6⟩
      · refine MT.vv rfl rfl (gy rfl rfl rfl b11) (mvv v0 rfl) (MT.vv rfl rfl (gy rfl rfl rfl b11) (rv_nilcheck rfl h0.ptr) (MT.vv rfl rfl (gy rfl rfl rfl b11) (rv_fieldAddr (b := pb v0) (o := 0) st62 rfl h0.ptr) (MT.r rfl rfl (gy rfl rfl rfl b11) ⟨m9, trivial⟩ (fun w' hq => rw_ofieldU (i := 2) (c := .int .i64 a0.Last) h0 (hq.1.mono fun _ _ => trivial) ag3 (h0.sc (i := 2) rfl) rfl) ?_)))
        obtain ⟨y12, h13, h6⟩ := pur_some h6
        refine MT.vv rfl rfl (gy rfl rfl rfl b11) (rv_conv Try.underlying3 Try.underlying77 rfl h13) (MT.vv rfl rfl (gy rfl rfl rfl b11) (mvv (.int .i64 a1) rfl) ?_)
        obtain ⟨y14, h15, h6⟩ := pur_some h6
        refine MT.vv rfl rfl (gy rfl rfl rfl b11) (rv_conv Try.underlying3 Try.underlying77 rfl h15) ?_
        obtain ⟨y16, h17, h6⟩ := pur_some h6
        refine MT.vv rfl rfl (gy rfl rfl rfl b11) (rv_sub rfl rfl h17) (MT.vv rfl rfl (gy rfl rfl rfl b11) (mvv v0 rfl) (MT.vv rfl rfl (gy rfl rfl rfl b11) (rv_nilcheck rfl h0.ptr) (MT.vv rfl rfl (gy rfl rfl rfl b11) (rv_fieldAddr (b := pb v0) (o := 0) st62 rfl h0.ptr) (MT.r rfl rfl (gy rfl rfl rfl b11) ⟨m9, trivial⟩ (fun w' hq => rw_ofieldU (i := 0) (c := .int .i64 a0.Window) h0 (hq.1.mono fun _ _ => trivial) ag3 (h0.sc (i := 0) rfl) rfl) ?_))))
        obtain ⟨y18, h19, h6⟩ := pur_some h6
        refine MT.vv rfl rfl (gy rfl rfl rfl b11) (rv_conv Try.underlying3 Try.underlying77 rfl h19) (MT.vv rfl rfl (gy rfl rfl rfl b11) (rv_gtr rfl rfl) (mtv rfl rfl (ptk (.bool (decide (y18 < y16))) rfl b11 rfl) (mtv rfl rfl (asv (.bool (decide (y18 < y16))) rfl) (MT.e ?_))))
        obtain rfl := Option.some.inj h6
        exact ⟨_, C, ⟨rfl, trivial⟩⟩
      · refine MT.n rfl rfl (gn rfl rfl rfl b11) trivial (MT.n rfl rfl (gn rfl rfl rfl b11) trivial (MT.n rfl rfl (gn rfl rfl rfl b11) trivial (MT.n rfl rfl (gn rfl rfl rfl b11) ⟨m9, trivial⟩ (MT.n rfl rfl (gn rfl rfl rfl b11) trivial (MT.n rfl rfl (gn rfl rfl rfl b11) trivial (MT.n rfl rfl (gn rfl rfl rfl b11) trivial (MT.n rfl rfl (gn rfl rfl rfl b11) trivial (MT.n rfl rfl (gn rfl rfl rfl b11) trivial (MT.n rfl rfl (gn rfl rfl rfl b11) trivial (MT.n rfl rfl (gn rfl rfl rfl b11) trivial (MT.n rfl rfl (gn rfl rfl rfl b11) ⟨m9, trivial⟩ ?_)))))))))))
        refine MT.n rfl rfl (gn rfl rfl rfl b11) trivial (MT.n rfl rfl (gn rfl rfl rfl b11) trivial (mtv rfl rfl (pfk (.bool false) rfl b11 rfl) (mtv rfl rfl (asv (.bool false) rfl) (MT.e ?_))))
        obtain rfl := Option.some.inj h6
        exact ⟨_, C, ⟨rfl, trivial⟩⟩
    · refine MT.n rfl rfl (gn rfl rfl rfl b10) trivial (MT.n rfl rfl (gn rfl rfl rfl b10) trivial (MT.n rfl rfl (gn rfl rfl rfl b10) trivial (MT.n rfl rfl (gn rfl rfl rfl b10) trivial (MT.n rfl rfl (gn rfl rfl rfl b10) ⟨m9, trivial⟩ (MT.n rfl rfl (gn rfl rfl rfl b10) trivial (mtv rfl rfl (pfk (.bool false) rfl b10 rfl) (mtv rfl rfl (mvv (.bool false) rfl) (MT.n rfl rfl (gn rfl rfl rfl rfl) trivial (MT.n rfl rfl (gn rfl rfl rfl rfl) trivial (MT.n rfl rfl (gn rfl rfl rfl rfl) trivial (MT.n rfl rfl (gn rfl rfl rfl rfl) ⟨m9, trivial⟩ ?_)))))))))))
      refine MT.n rfl rfl (gn rfl rfl rfl rfl) trivial (MT.n rfl rfl (gn rfl rfl rfl rfl) trivial (MT.n rfl rfl (gn rfl rfl rfl rfl) trivial (MT.n rfl rfl (gn rfl rfl rfl rfl) trivial (MT.n rfl rfl (gn rfl rfl rfl rfl) trivial (MT.n rfl rfl (gn rfl rfl rfl rfl) trivial (MT.n rfl rfl (gn rfl rfl rfl rfl) trivial (MT.n rfl rfl (gn rfl rfl rfl rfl) ⟨m9, trivial⟩ (MT.n rfl rfl (gn rfl rfl rfl rfl) trivial (MT.n rfl rfl (gn rfl rfl rfl rfl) trivial (mtv rfl rfl (pfk (.bool false) rfl rfl rfl) (mtv rfl rfl (asv (.bool false) rfl) ?_)))))))))))
      refine MT.e ?_
      obtain rfl := Option.some.inj h6
      exact ⟨_, C, ⟨rfl, trivial⟩⟩
  · rintro ρ w21 ⟨S20, C, h22⟩
    refine h22.cw fun ρ => ?_
    clear h22
    refine cw_ret ?_
    obtain rfl := Option.some.inj h
    exact ⟨_, rfl, _, rfl, C⟩

noncomputable def marigraphref11_Head_Seal.b5 (a0 : marigraphref11_Head) (y47 : (List api_Point)) (x81 : List api_Point) (x82 : Int) : Option (((List api_Point) × Int) ⊕ ((List api_Point))) :=
  (bif (decide (x82 < (y47.length : Int))) then (((at_ y47 x82).bind fun y96 => ((marigraphref11_Head_Far a0 y96.T).bind fun y101 => (bif y101 then ((at_ y47 x82).bind fun y107 => ((app_ 16 x81 ([y107] : List api_Point)).bind fun y122 => some y122)) else some x81))).bind fun o90 => (pur (IntKind.i64.wrap (x82 + (1 : Int))) fun y149 => some (.inl (o90, y149)))) else some (.inr x81))
noncomputable def marigraphref11_Head_Seal.b2 (a0 : marigraphref11_Head) (y7 : (List Int)) (x30 : List api_Chunk) (x31 : Int) : Option (((List api_Chunk) × Int) ⊕ ((List api_Chunk))) :=
  (bif (decide (x31 < (y7.length : Int))) then (((at_ y7 x31).bind fun y45 => ((marigraphref11_Head_Points a0 y45).bind fun y47 => ((iter (fun s : (List api_Point) × Int => marigraphref11_Head_Seal.b5 a0 y47 s.1 s.2) (([] : List api_Point), (0 : Int))).bind fun o59 => (bif (decide ((0 : Int) < (o59.length : Int))) then ((at_ y7 x31).bind fun y166 => ((app_ 32 x30 ([(api_Chunk.mk y166 o59)] : List api_Chunk)).bind fun y176 => some y176)) else some x30)))).bind fun o39 => (pur (IntKind.i64.wrap (x31 + (1 : Int))) fun y194 => some (.inl (o39, y194)))) else some (.inr x30))
noncomputable def marigraphref11_Head_Seal.b8 (a0 : marigraphref11_Head) (x220 : List marigraphref11_Item) (x221 : Int) : Option (((List marigraphref11_Item) × Int) ⊕ ((List marigraphref11_Item))) :=
  (bif (decide (x221 < (a0.L.length : Int))) then (((at_ a0.L x221).bind fun y241 => ((marigraphref11_Head_Far a0 y241.P.T).bind fun y246 => (bif (!y246) then ((at_ a0.L x221).bind fun y255 => ((app_ 24 x220 ([y255] : List marigraphref11_Item)).bind fun y268 => some y268)) else some x220))).bind fun o232 => (pur (IntKind.i64.wrap (x221 + (1 : Int))) fun y286 => some (.inl (o232, y286)))) else some (.inr x220))
noncomputable def marigraphref11_Head_Seal (a0 : marigraphref11_Head) : Option ((List api_Chunk) × marigraphref11_Head) :=
  ((marigraphref11_Head_Ids a0).bind fun y7 => ((iter (fun s : (List api_Chunk) × Int => marigraphref11_Head_Seal.b2 a0 y7 s.1 s.2) (([] : List api_Chunk), (0 : Int))).bind fun o15 => ((iter (fun s : (List marigraphref11_Item) × Int => marigraphref11_Head_Seal.b8 a0 s.1 s.2) (([] : List marigraphref11_Item), (0 : Int))).bind fun o205 => (pur ({ a0 with L := o205 } : marigraphref11_Head) fun y299 => some (o15, y299)))))
set_option maxRecDepth 100000 in
set_option maxHeartbeats 4000000 in
theorem marigraphref11_Head_Seal_w {S : Nat → Prop} {w : World} {a0 : marigraphref11_Head} {v0 : Value} {cs0 : List Value} {fp0 : List Nat} {r : (List api_Chunk) × marigraphref11_Head} (hS : Sb S w) (h0 : Ob 62 (marigraphref11_Head.fs a0) S w v0 cs0 fp0) (h : marigraphref11_Head_Seal a0 = some r) :
    Calls Try.prog 24 (List.toArray [v0]) w fun e w1 => ∃ S1 u0 us_0 up_0, e = .returned (u0) ∧ Cx (fun b => b ∈ fp0) S w S1 w1 ∧ Sl (kSl api_Chunk.k) S1 w1 u0 r.1 ∧ Ob 62 (marigraphref11_Head.fs r.2) S1 w1 v0 us_0 up_0 ∧ (∀ b, b ∈ up_0 → b ∈ fp0 ∨ w.heap.size ≤ b) := by
  refine enter Try.func24 rfl (by kernel_rfl) rfl ?_
  have C := Cx.refl (F := (fun b => b ∈ fp0)) hS
  unfold marigraphref11_Head_Seal at h
  have hs0 : ∀ b, b ∈ fp0 → b ∈ fp0 ∨ w.heap.size ≤ b := fun b hb => .inl hb
  have hl0 : ∀ b ∈ fp0, b < w.heap.size := fun b hb => (h0.lt b hb).1
  refine cw_seq fun K1 k2 => ?_
  refine cw_region (sv (asv (.slice none 0 0) rfl) (W.e (k2 _ _ ?_)))
  refine cw_seq fun K3 k4 => ?_
  refine cw_region (sv (asv (.slice none 0 0) rfl) (W.e (k4 _ _ ?_)))
  refine cw_seq fun K5 k6 => ?_
  refine cw_region (sv (mvv v0 rfl) ?_)
  obtain ⟨y7, h8, h⟩ := bnd_some h
  refine sc (dc_call (vs := [v0]) can28 rfl ?_)
  refine (marigraphref11_Head_Ids_w C.sb h0 h8).mono ?_
  rintro _ w9 ⟨S10, v12, rfl, c11, h13⟩
  refine ⟨_, rfl, ?_⟩
  have p14 := ap_fresh (fun b hb => (h13.lt b hb).1) (fun b hb => (h0.lt b hb).1)
  replace h13 := h13.base C.up.size
  replace h0 := h0.cx c11
  replace C := C.trans c11
  refine sv (asv v12 rfl) (W.e (k6 _ _ ?_))
  obtain ⟨o15, h18, h⟩ := bnd_some h
  refine cw_seq' (fun ρ w1 => ∃ S1 v199, Cx (fun b => b ∈ fp0) S w S1 w1 ∧ Has ρ [(0, v0), (3, v199)] ∧ Ow api_Chunk.k 35 S1 w.heap.size w1 v199 o15 ∧ Ob 62 (marigraphref11_Head.fs a0) S1 w1 v0 cs0 fp0 ∧ (∀ b, Blk v199 b → ¬ b ∈ fp0)) ?_ ?_
  · refine cw_seq fun K19 k20 => ?_
    refine cw_region (sv (asv (.int .i64 0) rfl) (W.e (k20 _ _ (cw_block ?_))))
    refine cw_iter h18 (fun s ρ w1 => ∃ S1 v24, Cx (fun b => b ∈ fp0) S w S1 w1 ∧ Has ρ [(0, v0), (3, v24), (4, v12), (5, .int .i64 s.2)] ∧ Ow api_Chunk.k 35 S1 w.heap.size w1 v24 s.1 ∧ Ow (kI .i64) 3 S1 w.heap.size w1 v12 y7 ∧ Ob 62 (marigraphref11_Head.fs a0) S1 w1 v0 cs0 fp0 ∧ Ap v24 v12 ∧ (∀ b, Blk v24 b → ¬ b ∈ fp0) ∧ (∀ b, Blk v12 b → ¬ b ∈ fp0)) ⟨_, _, C, ⟨rfl, rfl, rfl, rfl, trivial⟩, Ow.nil _ _ _ _ _, h13, h0, ap_nil, ap_nil, p14⟩ ?_
    rintro ⟨x30, x31⟩ q21 ρ w23 ⟨S22, v24, C, h29, h25, h13, h0, p26, p27, p28⟩ h33 h32
    refine h29.cw fun ρ => ?_
    clear h29
    replace h33 : marigraphref11_Head_Seal.b2 a0 y7 x30 x31 = some q21 := h33
    unfold marigraphref11_Head_Seal.b2 at h33
    refine cw_seq fun K34 k35 => ?_
    refine cw_seq fun K36 k37 => ?_
    refine cw_region (sv (mvv (.int .i64 x31) rfl) (sv (mvv v12 rfl) (sv (rv_lenS el51 h13.sealed rfl) (sv (rv_lss rfl rfl) (W.e (k37 _ _ ?_))))))
    rcases bif_some h33 with ⟨b38, h33⟩ | ⟨b38, h33⟩
    · refine cw_t rfl b38 (cw_skip (k35 _ _ ?_))
      obtain ⟨o39, h42, h33⟩ := bnd_some h33
      refine cw_seq' (fun ρ w1 => ∃ S1 v188, Cx (fun b => b ∈ fp0) S w S1 w1 ∧ Has ρ [(0, v0), (3, v188), (4, v12), (5, .int .i64 x31)] ∧ Ow api_Chunk.k 35 S1 w.heap.size w1 v188 o39 ∧ Ow (kI .i64) 3 S1 w.heap.size w1 v12 y7 ∧ Ob 62 (marigraphref11_Head.fs a0) S1 w1 v0 cs0 fp0 ∧ Ap v188 v12 ∧ (∀ b, Blk v188 b → ¬ b ∈ fp0) ∧ (∀ b, Blk v12 b → ¬ b ∈ fp0)) ?_ ?_
      · refine cw_block ?_
        refine cw_seq fun K43 k44 => ?_
        refine cw_region (sv (mvv v0 rfl) (sv (mvv v12 rfl) (sv (mvv (.int .i64 x31) rfl) ?_)))
        obtain ⟨y45, h46, h42⟩ := bnd_some h42
        refine sv (rv_index el51 h13.sealed rfl rfl h46) (sr (rw_loadC el51 h13.sealed h46 rfl _ (Sm.refl _ _)) ?_)
        obtain ⟨y47, h48, h42⟩ := bnd_some h42
        refine sc (dc_call (vs := [v0, .int .i64 y45]) can29 rfl ?_)
        refine (marigraphref11_Head_Points_w C.sb h0 h48).mono ?_
        rintro _ w49 ⟨S50, v52, rfl, c51, h53⟩
        refine ⟨_, rfl, ?_⟩
        have p54 := ap_fresh (fun b hb => (h53.lt b hb).1) (fun b hb => (h0.lt b hb).1)
        have p55 := ap_fresh (fun b hb => (h53.lt b hb).1) (fun b hb => (h25.lt b hb).2)
        have p56 := ap_fresh (fun b hb => (h53.lt b hb).1) (fun b hb => (h13.lt b hb).2)
        replace h53 := h53.base C.up.size
        replace h0 := h0.cx c51
        replace h25 := h25.cx c51
        replace h13 := h13.cx c51
        replace C := C.trans c51
        refine sv (asv v52 rfl) (W.e (k44 _ _ ?_))
        refine cw_seq fun K57 k58 => ?_
        refine cw_region (sv (asv (.slice none 0 0) rfl) (W.e (k58 _ _ ?_)))
        obtain ⟨o59, h62, h42⟩ := bnd_some h42
        refine cw_seq' (fun ρ w1 => ∃ S1 v154, Cx (fun b => b ∈ fp0) S w S1 w1 ∧ Has ρ [(0, v0), (3, v24), (4, v12), (5, .int .i64 x31), (7, v154)] ∧ Ow api_Chunk.k 35 S1 w.heap.size w1 v24 x30 ∧ Ow (kI .i64) 3 S1 w.heap.size w1 v12 y7 ∧ Ow api_Point.k 29 S1 w.heap.size w1 v154 o59 ∧ Ob 62 (marigraphref11_Head.fs a0) S1 w1 v0 cs0 fp0 ∧ Ap v24 v12 ∧ Ap v24 v154 ∧ Ap v12 v154 ∧ (∀ b, Blk v24 b → ¬ b ∈ fp0) ∧ (∀ b, Blk v12 b → ¬ b ∈ fp0) ∧ (∀ b, Blk v154 b → ¬ b ∈ fp0)) ?_ ?_
        · refine cw_seq fun K63 k64 => ?_
          refine cw_region (sv (asv (.int .i64 0) rfl) (W.e (k64 _ _ (cw_block ?_))))
          refine cw_iter h62 (fun s ρ w1 => ∃ S1 v68, Cx (fun b => b ∈ fp0) S w S1 w1 ∧ Has ρ [(0, v0), (3, v24), (4, v12), (5, .int .i64 x31), (6, v52), (7, v68), (8, .int .i64 s.2)] ∧ Ow api_Chunk.k 35 S1 w.heap.size w1 v24 x30 ∧ Ow (kI .i64) 3 S1 w.heap.size w1 v12 y7 ∧ Ow api_Point.k 29 S1 w.heap.size w1 v52 y47 ∧ Ow api_Point.k 29 S1 w.heap.size w1 v68 s.1 ∧ Ob 62 (marigraphref11_Head.fs a0) S1 w1 v0 cs0 fp0 ∧ Ap v24 v12 ∧ Ap v24 v52 ∧ Ap v24 v68 ∧ Ap v12 v52 ∧ Ap v12 v68 ∧ Ap v52 v68 ∧ (∀ b, Blk v24 b → ¬ b ∈ fp0) ∧ (∀ b, Blk v12 b → ¬ b ∈ fp0) ∧ (∀ b, Blk v52 b → ¬ b ∈ fp0) ∧ (∀ b, Blk v68 b → ¬ b ∈ fp0)) ⟨_, _, C, ⟨rfl, rfl, rfl, rfl, rfl, rfl, rfl, trivial⟩, h25, h13, h53, Ow.nil _ _ _ _ _, h0, p26, (ap_symm p55), (ap_symm ap_nil), (ap_symm p56), (ap_symm ap_nil), (ap_symm ap_nil), p27, p28, p54, ap_nil⟩ ?_
          rintro ⟨x81, x82⟩ q65 ρ w67 ⟨S66, v68, C, h80, h25, h13, h53, h69, h0, p70, p71, p72, p73, p74, p75, p76, p77, p78, p79⟩ h84 h83
          refine h80.cw fun ρ => ?_
          clear h80
          replace h84 : marigraphref11_Head_Seal.b5 a0 y47 x81 x82 = some q65 := h84
          unfold marigraphref11_Head_Seal.b5 at h84
          refine cw_seq fun K85 k86 => ?_
          refine cw_seq fun K87 k88 => ?_
          refine cw_region (sv (mvv (.int .i64 x82) rfl) (sv (mvv v52 rfl) (sv (rv_lenS el33 h53.sealed rfl) (sv (rv_lss rfl rfl) (W.e (k88 _ _ ?_))))))
          rcases bif_some h84 with ⟨b89, h84⟩ | ⟨b89, h84⟩
          · refine cw_t rfl b89 (cw_skip (k86 _ _ ?_))
            obtain ⟨o90, h93, h84⟩ := bnd_some h84
            refine cw_seq' (fun ρ w1 => ∃ S1 v136, Cx (fun b => b ∈ fp0) S w S1 w1 ∧ Has ρ [(0, v0), (3, v24), (4, v12), (5, .int .i64 x31), (6, v52), (7, v136), (8, .int .i64 x82)] ∧ Ow api_Chunk.k 35 S1 w.heap.size w1 v24 x30 ∧ Ow (kI .i64) 3 S1 w.heap.size w1 v12 y7 ∧ Ow api_Point.k 29 S1 w.heap.size w1 v52 y47 ∧ Ow api_Point.k 29 S1 w.heap.size w1 v136 o90 ∧ Ob 62 (marigraphref11_Head.fs a0) S1 w1 v0 cs0 fp0 ∧ Ap v24 v12 ∧ Ap v24 v52 ∧ Ap v24 v136 ∧ Ap v12 v52 ∧ Ap v12 v136 ∧ Ap v52 v136 ∧ (∀ b, Blk v24 b → ¬ b ∈ fp0) ∧ (∀ b, Blk v12 b → ¬ b ∈ fp0) ∧ (∀ b, Blk v52 b → ¬ b ∈ fp0) ∧ (∀ b, Blk v136 b → ¬ b ∈ fp0)) ?_ ?_
            · refine cw_block ?_
              refine cw_seq fun K94 k95 => ?_
              refine cw_region (sv (mvv v0 rfl) (sv (mvv v52 rfl) (sv (mvv (.int .i64 x82) rfl) ?_)))
              obtain ⟨y96, h97, h93⟩ := bnd_some h93
              refine sv (rv_index el33 h53.sealed rfl rfl h97) (sv (rv_fieldAddr st29 rfl rfl) ?_)
              obtain ⟨cs98, h99, h100⟩ := Ow.cellsO h53 h97
              obtain rfl := api_Point.r.1 h99
              refine sr (rw_el1 (off := 0) ag3 (h100 _ (Sm.refl _ _)) rfl rfl) ?_
              obtain ⟨y101, h102, h93⟩ := bnd_some h93
              refine sc (dc_call (vs := [v0, .int .i64 y96.T]) can40 rfl ?_)
              refine (marigraphref11_Head_Far_w C.sb h0 h102).mono ?_
              rintro _ w103 ⟨S104, rfl, c105⟩
              refine ⟨_, rfl, ?_⟩
              replace h0 := h0.cx c105
              replace h25 := h25.cx c105
              replace h13 := h13.cx c105
              replace h53 := h53.cx c105
              replace h69 := h69.cx c105
              replace C := C.trans c105
              refine W.e (k95 _ _ ?_)
              rcases bif_some h93 with ⟨b106, h93⟩ | ⟨b106, h93⟩
              · refine cw_t rfl b106 (cw_region (sv (mvv v68 rfl) (sv (mvv v52 rfl) (sv (mvv (.int .i64 x82) rfl) ?_))))
                obtain ⟨y107, h108, h93⟩ := bnd_some h93
                refine sv (rv_index el33 h53.sealed rfl rfl h108) ?_
                obtain ⟨v109, h110, h111⟩ := rw_loadO (P := Try.prog) el33 h53 h108
                obtain rfl := api_Point.o.1 h110
                refine sr (h111 _ (Sm.refl _ _) rfl) ?_
                refine sc (dc_lit (vs := [.agg (List.toArray [.int .i64 y107.T, .int .i64 y107.V])]) (xs := ([y107] : List api_Point)) (base := w.heap.size) el33 rfl rfl (.cons ((api_Point.o (x := y107)).2 rfl) (.nil)) (Nat.le_of_ble_eq_true rfl) C.up.size C.sb fun v112 w113 h114 h115 u116 => ?_)
                have p117 := ap_fresh h115 (fun b hb => (h0.lt b hb).1)
                have p118 := ap_fresh h115 (fun b hb => (h25.lt b hb).2)
                have p119 := ap_fresh h115 (fun b hb => (h13.lt b hb).2)
                have p120 := ap_fresh h115 (fun b hb => (h53.lt b hb).2)
                have p121 := ap_fresh h115 (fun b hb => (h69.lt b hb).2)
                replace h0 := h0.nw u116
                replace h25 := h25.nw u116
                replace h13 := h13.nw u116
                replace h53 := h53.nw u116
                replace h69 := h69.nw u116
                replace C := C.new u116
                obtain ⟨y122, h123, h93⟩ := bnd_some h93
                have h129 := h69
                refine sc (dc_append el33 (by decide) h129 h114.src rfl rfl h123 C.up.size C.sb fun v124 w125 h126 u127 h128 => ?_)
                have p130 := ap_grow p79 h128 (fun b hb => (h0.lt b hb).1)
                have p131 := ap_grow (ap_symm p72) h128 (fun b hb => (h25.lt b hb).2)
                have p132 := ap_grow (ap_symm p74) h128 (fun b hb => (h13.lt b hb).2)
                have p133 := ap_grow (ap_symm p75) h128 (fun b hb => (h53.lt b hb).2)
                replace h0 := h0.wr u127 h129.not (ap_symm p79)
                replace h25 := h25.wr u127 h129.not p72
                replace h13 := h13.wr u127 h129.not p74
                replace h53 := h53.wr u127 h129.not p75
                replace C := C.ow h129 u127
                refine sv (asv v124 rfl) (W.e ?_)
                obtain rfl := Option.some.inj h93
                exact ⟨_, _, C, ⟨rfl, rfl, rfl, rfl, rfl, rfl, rfl, trivial⟩, h25, h13, h53, h126, h0, p70, p71, (ap_symm p131), p73, (ap_symm p132), (ap_symm p133), p76, p77, p78, p130⟩
              · refine cw_f rfl b106 (cw_skip ?_)
                obtain rfl := Option.some.inj h93
                exact ⟨_, _, C, ⟨rfl, rfl, rfl, rfl, rfl, rfl, rfl, trivial⟩, h25, h13, h53, h69, h0, p70, p71, p72, p73, p74, p75, p76, p77, p78, p79⟩
            · rintro ρ w135 ⟨S134, v136, C, h148, h25, h13, h53, h137, h0, p138, p139, p140, p141, p142, p143, p144, p145, p146, p147⟩
              refine h148.cw fun ρ => ?_
              clear h148
              refine cw_region (sv (mvv (.int .i64 x82) rfl) ?_)
              obtain ⟨y149, h150, h84⟩ := pur_some h84
              refine sv (rv_add rfl rfl h150) (sv (asv (.int .i64 y149) rfl) (W.e ?_))
              obtain rfl := Option.some.inj h84
              exact ⟨_, rfl, ⟨_, _, C, ⟨rfl, rfl, rfl, rfl, rfl, rfl, rfl, trivial⟩, h25, h13, h53, h137, h0, p138, p139, p140, p141, p142, p143, p144, p145, p146, p147⟩⟩
          · refine cw_f rfl b89 (cw_exit ?_)
            obtain rfl := Option.some.inj h84
            have h151 := congrArg some h83
            obtain rfl := Option.some.inj h151
            exact ⟨_, _, C, ⟨rfl, rfl, rfl, rfl, rfl, trivial⟩, h25, h13, h69, h0, p70, p72, p74, p76, p77, p79⟩
        · rintro ρ w153 ⟨S152, v154, C, h162, h25, h13, h155, h0, p156, p157, p158, p159, p160, p161⟩
          refine h162.cw fun ρ => ?_
          clear h162
          refine cw_seq fun K163 k164 => ?_
          refine cw_region (sv (mvv v154 rfl) (sv (rv_lenS el33 h155.sealed rfl) (sv (rv_gtr rfl rfl) (W.e (k164 _ _ ?_)))))
          rcases bif_some h42 with ⟨b165, h42⟩ | ⟨b165, h42⟩
          · refine cw_t rfl b165 (cw_region (sv (mvv v24 rfl) (sv (mvv v12 rfl) (sv (mvv (.int .i64 x31) rfl) ?_))))
            obtain ⟨y166, h167, h42⟩ := bnd_some h42
            refine sv (rv_index el51 h13.sealed rfl rfl h167) (sr (rw_loadC el51 h13.sealed h167 rfl _ (Sm.refl _ _)) (sv (mvv v154 rfl) ?_))
            replace h0 := h0.or (ap_symm p161)
            replace h25 := h25.or p157
            replace h13 := h13.or p158
            replace C := C.sealO h155
            replace h155 := h155.sealed
            refine sv (rv_build (r := [.int .i64 y166, v154]) st35 zr35 (by obtain ⟨_, _, rfl⟩ := h155.len; rfl)) ?_
            refine sc (dc_lit (vs := [.agg (List.toArray [.int .i64 y166, v154])]) (xs := ([(api_Chunk.mk y166 o59)] : List api_Chunk)) (base := w.heap.size) el31 rfl rfl (.cons (api_Chunk.o.2 ⟨_, rfl, h155⟩) (.nil)) (Nat.le_of_ble_eq_true rfl) C.up.size C.sb fun v168 w169 h170 h171 u172 => ?_)
            have p173 := ap_fresh h171 (fun b hb => (h0.lt b hb).1)
            have p174 := ap_fresh h171 (fun b hb => (h25.lt b hb).2)
            have p175 := ap_fresh h171 (fun b hb => (h13.lt b hb).2)
            replace h0 := h0.nw u172
            replace h25 := h25.nw u172
            replace h13 := h13.nw u172
            replace C := C.new u172
            obtain ⟨y176, h177, h42⟩ := bnd_some h42
            have h183 := h25
            refine sc (dc_append el31 (by decide) h183 h170.src rfl rfl h177 C.up.size C.sb fun v178 w179 h180 u181 h182 => ?_)
            have p184 := ap_grow p159 h182 (fun b hb => (h0.lt b hb).1)
            have p185 := ap_grow p156 h182 (fun b hb => (h13.lt b hb).2)
            replace h0 := h0.wr u181 h183.not (ap_symm p159)
            replace h13 := h13.wr u181 h183.not (ap_symm p156)
            replace C := C.ow h183 u181
            refine sv (asv v178 rfl) (W.e ?_)
            obtain rfl := Option.some.inj h42
            exact ⟨_, _, C, ⟨rfl, rfl, rfl, rfl, trivial⟩, h180, h13, h0, p185, p184, p160⟩
          · refine cw_f rfl b165 (cw_skip ?_)
            obtain rfl := Option.some.inj h42
            exact ⟨_, _, C, ⟨rfl, rfl, rfl, rfl, trivial⟩, h25, h13, h0, p156, p159, p160⟩
      · rintro ρ w187 ⟨S186, v188, C, h193, h189, h13, h0, p190, p191, p192⟩
        refine h193.cw fun ρ => ?_
        clear h193
        refine cw_region (sv (mvv (.int .i64 x31) rfl) ?_)
        obtain ⟨y194, h195, h33⟩ := pur_some h33
        refine sv (rv_add rfl rfl h195) (sv (asv (.int .i64 y194) rfl) (W.e ?_))
        obtain rfl := Option.some.inj h33
        exact ⟨_, rfl, ⟨_, _, C, ⟨rfl, rfl, rfl, rfl, trivial⟩, h189, h13, h0, p190, p191, p192⟩⟩
    · refine cw_f rfl b38 (cw_exit ?_)
      obtain rfl := Option.some.inj h33
      have h196 := congrArg some h32
      obtain rfl := Option.some.inj h196
      exact ⟨_, _, C, ⟨rfl, rfl, trivial⟩, h25, h0, p27⟩
  · rintro ρ w198 ⟨S197, v199, C, h202, h200, h0, p201⟩
    refine h202.cw fun ρ => ?_
    clear h202
    refine cw_seq fun K203 k204 => ?_
    refine cw_region (sv (asv (.slice none 0 0) rfl) (W.e (k204 _ _ ?_)))
    obtain ⟨o205, h208, h⟩ := bnd_some h
    refine cw_seq' (fun ρ w1 => ∃ S1 v291, Cx (fun b => b ∈ fp0) S w S1 w1 ∧ Has ρ [(0, v0), (3, v199), (9, v291)] ∧ Ow api_Chunk.k 35 S1 w.heap.size w1 v199 o15 ∧ Ow marigraphref11_Item.k 44 S1 w.heap.size w1 v291 o205 ∧ Ob 62 (marigraphref11_Head.fs a0) S1 w1 v0 cs0 fp0 ∧ Ap v199 v291 ∧ (∀ b, Blk v199 b → ¬ b ∈ fp0) ∧ (∀ b, Blk v291 b → ¬ b ∈ fp0)) ?_ ?_
    · refine cw_seq fun K209 k210 => ?_
      refine cw_region (sv (asv (.int .i64 0) rfl) (W.e (k210 _ _ (cw_block ?_))))
      refine cw_iter h208 (fun s ρ w1 => ∃ S1 v214, Cx (fun b => b ∈ fp0) S w S1 w1 ∧ Has ρ [(0, v0), (3, v199), (9, v214), (10, .int .i64 s.2)] ∧ Ow api_Chunk.k 35 S1 w.heap.size w1 v199 o15 ∧ Ow marigraphref11_Item.k 44 S1 w.heap.size w1 v214 s.1 ∧ Ob 62 (marigraphref11_Head.fs a0) S1 w1 v0 cs0 fp0 ∧ Ap v199 v214 ∧ (∀ b, Blk v199 b → ¬ b ∈ fp0) ∧ (∀ b, Blk v214 b → ¬ b ∈ fp0)) ⟨_, _, C, ⟨rfl, rfl, rfl, rfl, trivial⟩, h200, Ow.nil _ _ _ _ _, h0, (ap_symm ap_nil), p201, ap_nil⟩ ?_
      rintro ⟨x220, x221⟩ q211 ρ w213 ⟨S212, v214, C, h219, h200, h215, h0, p216, p217, p218⟩ h223 h222
      refine h219.cw fun ρ => ?_
      clear h219
      replace h223 : marigraphref11_Head_Seal.b8 a0 x220 x221 = some q211 := h223
      unfold marigraphref11_Head_Seal.b8 at h223
      refine cw_seq fun K224 k225 => ?_
      refine cw_seq fun K226 k227 => ?_
      refine cw_region (sv (mvv (.int .i64 x221) rfl) (sv (mvv v0 rfl) (sv (rv_nilcheck rfl h0.ptr) (sv (rv_fieldAddr (b := pb v0) (o := 0) st62 rfl h0.ptr) ?_))))
      obtain ⟨c228, h229, h230⟩ := h0.sl (i := 1) rfl
      refine sr (rw_ofield (i := 1) (c := c228) h0 ag38 h229 rfl) (sv (rv_lenS el38 h230 rfl) (sv (rv_lss rfl rfl) (W.e (k227 _ _ ?_))))
      rcases bif_some h223 with ⟨b231, h223⟩ | ⟨b231, h223⟩
      · refine cw_t rfl b231 (cw_skip (k225 _ _ ?_))
        obtain ⟨o232, h235, h223⟩ := bnd_some h223
        refine cw_seq' (fun ρ w1 => ∃ S1 v280, Cx (fun b => b ∈ fp0) S w S1 w1 ∧ Has ρ [(0, v0), (3, v199), (9, v280), (10, .int .i64 x221)] ∧ Ow api_Chunk.k 35 S1 w.heap.size w1 v199 o15 ∧ Ow marigraphref11_Item.k 44 S1 w.heap.size w1 v280 o232 ∧ Ob 62 (marigraphref11_Head.fs a0) S1 w1 v0 cs0 fp0 ∧ Ap v199 v280 ∧ (∀ b, Blk v199 b → ¬ b ∈ fp0) ∧ (∀ b, Blk v280 b → ¬ b ∈ fp0)) ?_ ?_
        · refine cw_block ?_
          refine cw_seq fun K236 k237 => ?_
          refine cw_region (sv (mvv v0 rfl) (sv (mvv v0 rfl) (sv (rv_nilcheck rfl h0.ptr) (sv (rv_fieldAddr (b := pb v0) (o := 0) st62 rfl h0.ptr) ?_))))
          obtain ⟨c238, h239, h240⟩ := h0.sl (i := 1) rfl
          refine sr (rw_ofield (i := 1) (c := c238) h0 ag38 h239 rfl) (sv (mvv (.int .i64 x221) rfl) ?_)
          obtain ⟨y241, h242, h235⟩ := bnd_some h235
          refine sv (rv_index el38 h240 rfl rfl h242) (sv (rv_fieldAddr st44 rfl rfl) (sv (rv_fieldAddr st29 rfl rfl) ?_))
          obtain ⟨cs243, h244, h245⟩ := Sl.cells h240 h242
          obtain rfl := marigraphref11_Item.r.1 h244
          refine sr (rw_el1 (off := 1) ag3 (h245 _ (Sm.refl _ _)) rfl rfl) ?_
          obtain ⟨y246, h247, h235⟩ := bnd_some h235
          refine sc (dc_call (vs := [v0, .int .i64 y241.P.T]) can40 rfl ?_)
          refine (marigraphref11_Head_Far_w C.sb h0 h247).mono ?_
          rintro _ w248 ⟨S249, rfl, c250⟩
          refine ⟨_, rfl, ?_⟩
          replace h0 := h0.cx c250
          replace h200 := h200.cx c250
          replace h215 := h215.cx c250
          replace C := C.trans c250
          refine sv (rv_not rfl) (W.e (k237 _ _ ?_))
          rcases bif_some h235 with ⟨b251, h235⟩ | ⟨b251, h235⟩
          · refine cw_t rfl b251 (cw_region (sv (mvv v214 rfl) (sv (mvv v0 rfl) (sv (rv_nilcheck rfl h0.ptr) (sv (rv_fieldAddr (b := pb v0) (o := 0) st62 rfl h0.ptr) ?_)))))
            obtain ⟨c252, h253, h254⟩ := h0.sl (i := 1) rfl
            refine sr (rw_ofield (i := 1) (c := c252) h0 ag38 h253 rfl) (sv (mvv (.int .i64 x221) rfl) ?_)
            obtain ⟨y255, h256, h235⟩ := bnd_some h235
            refine sv (rv_index el38 h254 rfl rfl h256) ?_
            obtain ⟨v257, h258, h259⟩ := rw_loadA (P := Try.prog) el38 h254 h256
            obtain rfl := marigraphref11_Item.o.1 h258
            refine sr (h259 _ (Sm.refl _ _) rfl) ?_
            refine sc (dc_lit (vs := [.agg (List.toArray [.int .i64 y255.Id, .int .i64 y255.P.T, .int .i64 y255.P.V])]) (xs := ([y255] : List marigraphref11_Item)) (base := w.heap.size) el38 rfl rfl (.cons ((marigraphref11_Item.o (x := y255)).2 rfl) (.nil)) (Nat.le_of_ble_eq_true rfl) C.up.size C.sb fun v260 w261 h262 h263 u264 => ?_)
            have p265 := ap_fresh h263 (fun b hb => (h0.lt b hb).1)
            have p266 := ap_fresh h263 (fun b hb => (h200.lt b hb).2)
            have p267 := ap_fresh h263 (fun b hb => (h215.lt b hb).2)
            replace h0 := h0.nw u264
            replace h200 := h200.nw u264
            replace h215 := h215.nw u264
            replace C := C.new u264
            obtain ⟨y268, h269, h235⟩ := bnd_some h235
            have h275 := h215
            refine sc (dc_append el38 (by decide) h275 h262.src rfl rfl h269 C.up.size C.sb fun v270 w271 h272 u273 h274 => ?_)
            have p276 := ap_grow p218 h274 (fun b hb => (h0.lt b hb).1)
            have p277 := ap_grow (ap_symm p216) h274 (fun b hb => (h200.lt b hb).2)
            replace h0 := h0.wr u273 h275.not (ap_symm p218)
            replace h200 := h200.wr u273 h275.not p216
            replace C := C.ow h275 u273
            refine sv (asv v270 rfl) (W.e ?_)
            obtain rfl := Option.some.inj h235
            exact ⟨_, _, C, ⟨rfl, rfl, rfl, rfl, trivial⟩, h200, h272, h0, (ap_symm p277), p217, p276⟩
          · refine cw_f rfl b251 (cw_skip ?_)
            obtain rfl := Option.some.inj h235
            exact ⟨_, _, C, ⟨rfl, rfl, rfl, rfl, trivial⟩, h200, h215, h0, p216, p217, p218⟩
        · rintro ρ w279 ⟨S278, v280, C, h285, h200, h281, h0, p282, p283, p284⟩
          refine h285.cw fun ρ => ?_
          clear h285
          refine cw_region (sv (mvv (.int .i64 x221) rfl) ?_)
          obtain ⟨y286, h287, h223⟩ := pur_some h223
          refine sv (rv_add rfl rfl h287) (sv (asv (.int .i64 y286) rfl) (W.e ?_))
          obtain rfl := Option.some.inj h223
          exact ⟨_, rfl, ⟨_, _, C, ⟨rfl, rfl, rfl, rfl, trivial⟩, h200, h281, h0, p282, p283, p284⟩⟩
      · refine cw_f rfl b231 (cw_exit ?_)
        obtain rfl := Option.some.inj h223
        have h288 := congrArg some h222
        obtain rfl := Option.some.inj h288
        exact ⟨_, _, C, ⟨rfl, rfl, rfl, trivial⟩, h200, h215, h0, p216, p217, p218⟩
    · rintro ρ w290 ⟨S289, v291, C, h296, h200, h292, h0, p293, p294, p295⟩
      refine h296.cw fun ρ => ?_
      clear h296
      refine cw_seq fun K297 k298 => ?_
      refine cw_region (sv (mvv v0 rfl) (sv (mvv v291 rfl) (sv (rv_nilcheck rfl h0.ptr) (sv (rv_fieldAddr (b := pb v0) (o := 0) st62 rfl h0.ptr) ?_))))
      replace h200 := h200.or p293
      replace h0 := h0.or (ap_symm p295)
      replace C := C.sealO h292
      replace h292 := h292.sealed
      obtain ⟨y299, h300, h⟩ := pur_some h
      have h305 : ∀ b, b ∈ fp0 → ¬ (Or S289 (Blk v291)) b := fun b hb => (h0.lt b hb).2
      refine sc (dc_ofield (i := 1) (k := (kSl marigraphref11_Item.k)) (h1 := rfl) (a' := o205) h0 rfl ag38 rfl rfl (rep_sl.2 ⟨_, rfl, h292⟩) fun w301 h302 u303 => ?_)
      replace h302 : Ob 62 (marigraphref11_Head.fs ({ a0 with L := o205 } : marigraphref11_Head)) (Or S289 (Blk v291)) w301 v0 (cs0.set 1 v291) fp0 := h302
      rw [h300] at h302
      obtain ⟨cs306, h307⟩ : ∃ cs, cs = cs0.set 1 v291 := ⟨_, rfl⟩
      rw [← h307] at h302
      have c304 := Cx.ofUp C.sb u303
      replace h200 := h200.cf c304 h305 p294
      replace C := C.ofc c304 hs0
      refine W.e (k298 _ _ ?_)
      refine cw_seq fun K308 k309 => ?_
      refine cw_region (sv (mvv v199 rfl) (sv (asv v199 rfl) (W.e (k309 _ _ (cw_ret ?_)))))
      obtain rfl := Option.some.inj h
      replace h302 := h302.or (ap_symm p294)
      replace C := C.sealO h200
      replace h200 := h200.sealed
      exact ⟨_, rfl, _, _, _, _, rfl, C, h200, h302, hs0⟩

noncomputable def marigraphref11_Head_Drop.b2 (a0 : marigraphref11_Head) (a1 : Int) (x18 : List marigraphref11_Item) (x19 : Int) : Option (((List marigraphref11_Item) × Int) ⊕ ((List marigraphref11_Item))) :=
  (bif (decide (x19 < (a0.L.length : Int))) then (((at_ a0.L x19).bind fun y39 => (bif (y39.Id != a1) then ((at_ a0.L x19).bind fun y48 => ((app_ 24 x18 ([y48] : List marigraphref11_Item)).bind fun y60 => some y60)) else some x18)).bind fun o30 => (pur (IntKind.i64.wrap (x19 + (1 : Int))) fun y75 => some (.inl (o30, y75)))) else some (.inr x18))
noncomputable def marigraphref11_Head_Drop (a0 : marigraphref11_Head) (a1 : Int) : Option (Int × marigraphref11_Head) :=
  ((iter (fun s : (List marigraphref11_Item) × Int => marigraphref11_Head_Drop.b2 a0 a1 s.1 s.2) (([] : List marigraphref11_Item), (0 : Int))).bind fun o5 => (pur (IntKind.i64.wrap ((a0.L.length : Int) - (o5.length : Int))) fun y89 => (pur ({ a0 with L := o5 } : marigraphref11_Head) fun y93 => some (y89, y93))))
set_option maxRecDepth 100000 in
set_option maxHeartbeats 4000000 in
theorem marigraphref11_Head_Drop_w {S : Nat → Prop} {w : World} {a0 : marigraphref11_Head} {a1 : Int} {v0 : Value} {cs0 : List Value} {fp0 : List Nat} {r : Int × marigraphref11_Head} (hS : Sb S w) (h0 : Ob 62 (marigraphref11_Head.fs a0) S w v0 cs0 fp0) (h : marigraphref11_Head_Drop a0 a1 = some r) :
    Calls Try.prog 25 (List.toArray [v0, .int .i64 a1]) w fun e w1 => ∃ S1 us_0 up_0, e = .returned (.int .i64 r.1) ∧ Cx (fun b => b ∈ fp0) S w S1 w1 ∧ Ob 62 (marigraphref11_Head.fs r.2) S1 w1 v0 us_0 up_0 ∧ (∀ b, b ∈ up_0 → b ∈ fp0 ∨ w.heap.size ≤ b) := by
  refine enter Try.func25 rfl (by kernel_rfl) rfl ?_
  have C := Cx.refl (F := (fun b => b ∈ fp0)) hS
  unfold marigraphref11_Head_Drop at h
  have hs0 : ∀ b, b ∈ fp0 → b ∈ fp0 ∨ w.heap.size ≤ b := fun b hb => .inl hb
  have hl0 : ∀ b ∈ fp0, b < w.heap.size := fun b hb => (h0.lt b hb).1
  refine cw_seq fun K1 k2 => ?_
  refine cw_region (sv (asv (.int .i64 0) rfl) (W.e (k2 _ _ ?_)))
  refine cw_seq fun K3 k4 => ?_
  refine cw_region (sv (asv (.slice none 0 0) rfl) (W.e (k4 _ _ ?_)))
  obtain ⟨o5, h8, h⟩ := bnd_some h
  refine cw_seq' (fun ρ w1 => ∃ S1 v80, Cx (fun b => b ∈ fp0) S w S1 w1 ∧ Has ρ [(0, v0), (5, v80)] ∧ Ow marigraphref11_Item.k 44 S1 w.heap.size w1 v80 o5 ∧ Ob 62 (marigraphref11_Head.fs a0) S1 w1 v0 cs0 fp0 ∧ (∀ b, Blk v80 b → ¬ b ∈ fp0)) ?_ ?_
  · refine cw_seq fun K9 k10 => ?_
    refine cw_region (sv (asv (.int .i64 0) rfl) (W.e (k10 _ _ (cw_block ?_))))
    refine cw_iter h8 (fun s ρ w1 => ∃ S1 v14, Cx (fun b => b ∈ fp0) S w S1 w1 ∧ Has ρ [(0, v0), (1, .int .i64 a1), (5, v14), (6, .int .i64 s.2)] ∧ Ow marigraphref11_Item.k 44 S1 w.heap.size w1 v14 s.1 ∧ Ob 62 (marigraphref11_Head.fs a0) S1 w1 v0 cs0 fp0 ∧ (∀ b, Blk v14 b → ¬ b ∈ fp0)) ⟨_, _, C, ⟨rfl, rfl, rfl, rfl, trivial⟩, Ow.nil _ _ _ _ _, h0, ap_nil⟩ ?_
    rintro ⟨x18, x19⟩ q11 ρ w13 ⟨S12, v14, C, h17, h15, h0, p16⟩ h21 h20
    refine h17.cw fun ρ => ?_
    clear h17
    replace h21 : marigraphref11_Head_Drop.b2 a0 a1 x18 x19 = some q11 := h21
    unfold marigraphref11_Head_Drop.b2 at h21
    refine cw_seq fun K22 k23 => ?_
    refine cw_seq fun K24 k25 => ?_
    refine cw_region (sv (mvv (.int .i64 x19) rfl) (sv (mvv v0 rfl) (sv (rv_nilcheck rfl h0.ptr) (sv (rv_fieldAddr (b := pb v0) (o := 0) st62 rfl h0.ptr) ?_))))
    obtain ⟨c26, h27, h28⟩ := h0.sl (i := 1) rfl
    refine sr (rw_ofield (i := 1) (c := c26) h0 ag38 h27 rfl) (sv (rv_lenS el38 h28 rfl) (sv (rv_lss rfl rfl) (W.e (k25 _ _ ?_))))
    rcases bif_some h21 with ⟨b29, h21⟩ | ⟨b29, h21⟩
    · refine cw_t rfl b29 (cw_skip (k23 _ _ ?_))
      obtain ⟨o30, h33, h21⟩ := bnd_some h21
      refine cw_seq' (fun ρ w1 => ∃ S1 v71, Cx (fun b => b ∈ fp0) S w S1 w1 ∧ Has ρ [(0, v0), (1, .int .i64 a1), (5, v71), (6, .int .i64 x19)] ∧ Ow marigraphref11_Item.k 44 S1 w.heap.size w1 v71 o30 ∧ Ob 62 (marigraphref11_Head.fs a0) S1 w1 v0 cs0 fp0 ∧ (∀ b, Blk v71 b → ¬ b ∈ fp0)) ?_ ?_
      · refine cw_block ?_
        refine cw_seq fun K34 k35 => ?_
        refine cw_region (sv (mvv v0 rfl) (sv (rv_nilcheck rfl h0.ptr) (sv (rv_fieldAddr (b := pb v0) (o := 0) st62 rfl h0.ptr) ?_)))
        obtain ⟨c36, h37, h38⟩ := h0.sl (i := 1) rfl
        refine sr (rw_ofield (i := 1) (c := c36) h0 ag38 h37 rfl) (sv (mvv (.int .i64 x19) rfl) ?_)
        obtain ⟨y39, h40, h33⟩ := bnd_some h33
        refine sv (rv_index el38 h38 rfl rfl h40) (sv (rv_fieldAddr st44 rfl rfl) ?_)
        obtain ⟨cs41, h42, h43⟩ := Sl.cells h38 h40
        obtain rfl := marigraphref11_Item.r.1 h42
        refine sr (rw_el1 (off := 0) ag3 (h43 _ (Sm.refl _ _)) rfl rfl) (sv (mvv (.int .i64 a1) rfl) (sv (rv_neq rfl rfl) (W.e (k35 _ _ ?_))))
        rcases bif_some h33 with ⟨b44, h33⟩ | ⟨b44, h33⟩
        · refine cw_t rfl b44 (cw_region (sv (mvv v14 rfl) (sv (mvv v0 rfl) (sv (rv_nilcheck rfl h0.ptr) (sv (rv_fieldAddr (b := pb v0) (o := 0) st62 rfl h0.ptr) ?_)))))
          obtain ⟨c45, h46, h47⟩ := h0.sl (i := 1) rfl
          refine sr (rw_ofield (i := 1) (c := c45) h0 ag38 h46 rfl) (sv (mvv (.int .i64 x19) rfl) ?_)
          obtain ⟨y48, h49, h33⟩ := bnd_some h33
          refine sv (rv_index el38 h47 rfl rfl h49) ?_
          obtain ⟨v50, h51, h52⟩ := rw_loadA (P := Try.prog) el38 h47 h49
          obtain rfl := marigraphref11_Item.o.1 h51
          refine sr (h52 _ (Sm.refl _ _) rfl) ?_
          refine sc (dc_lit (vs := [.agg (List.toArray [.int .i64 y48.Id, .int .i64 y48.P.T, .int .i64 y48.P.V])]) (xs := ([y48] : List marigraphref11_Item)) (base := w.heap.size) el38 rfl rfl (.cons ((marigraphref11_Item.o (x := y48)).2 rfl) (.nil)) (Nat.le_of_ble_eq_true rfl) C.up.size C.sb fun v53 w54 h55 h56 u57 => ?_)
          have p58 := ap_fresh h56 (fun b hb => (h0.lt b hb).1)
          have p59 := ap_fresh h56 (fun b hb => (h15.lt b hb).2)
          replace h0 := h0.nw u57
          replace h15 := h15.nw u57
          replace C := C.new u57
          obtain ⟨y60, h61, h33⟩ := bnd_some h33
          have h67 := h15
          refine sc (dc_append el38 (by decide) h67 h55.src rfl rfl h61 C.up.size C.sb fun v62 w63 h64 u65 h66 => ?_)
          have p68 := ap_grow p16 h66 (fun b hb => (h0.lt b hb).1)
          replace h0 := h0.wr u65 h67.not (ap_symm p16)
          replace C := C.ow h67 u65
          refine sv (asv v62 rfl) (W.e ?_)
          obtain rfl := Option.some.inj h33
          exact ⟨_, _, C, ⟨rfl, rfl, rfl, rfl, trivial⟩, h64, h0, p68⟩
        · refine cw_f rfl b44 (cw_skip ?_)
          obtain rfl := Option.some.inj h33
          exact ⟨_, _, C, ⟨rfl, rfl, rfl, rfl, trivial⟩, h15, h0, p16⟩
      · rintro ρ w70 ⟨S69, v71, C, h74, h72, h0, p73⟩
        refine h74.cw fun ρ => ?_
        clear h74
        refine cw_region (sv (mvv (.int .i64 x19) rfl) ?_)
        obtain ⟨y75, h76, h21⟩ := pur_some h21
        refine sv (rv_add rfl rfl h76) (sv (asv (.int .i64 y75) rfl) (W.e ?_))
        obtain rfl := Option.some.inj h21
        exact ⟨_, rfl, ⟨_, _, C, ⟨rfl, rfl, rfl, rfl, trivial⟩, h72, h0, p73⟩⟩
    · refine cw_f rfl b29 (cw_exit ?_)
      obtain rfl := Option.some.inj h21
      have h77 := congrArg some h20
      obtain rfl := Option.some.inj h77
      exact ⟨_, _, C, ⟨rfl, rfl, trivial⟩, h15, h0, p16⟩
  · rintro ρ w79 ⟨S78, v80, C, h83, h81, h0, p82⟩
    refine h83.cw fun ρ => ?_
    clear h83
    refine cw_seq fun K84 k85 => ?_
    refine cw_region (sv (mvv v0 rfl) (sv (rv_nilcheck rfl h0.ptr) (sv (rv_fieldAddr (b := pb v0) (o := 0) st62 rfl h0.ptr) ?_)))
    obtain ⟨c86, h87, h88⟩ := h0.sl (i := 1) rfl
    refine sr (rw_ofield (i := 1) (c := c86) h0 ag38 h87 rfl) (sv (rv_lenS el38 h88 rfl) (sv (mvv v80 rfl) (sv (rv_lenS el38 h81.sealed rfl) ?_)))
    obtain ⟨y89, h90, h⟩ := pur_some h
    refine sv (rv_sub rfl rfl h90) (sv (asv (.int .i64 y89) rfl) (W.e (k85 _ _ ?_)))
    refine cw_seq fun K91 k92 => ?_
    refine cw_region (sv (mvv v0 rfl) (sv (mvv v80 rfl) (sv (rv_nilcheck rfl h0.ptr) (sv (rv_fieldAddr (b := pb v0) (o := 0) st62 rfl h0.ptr) ?_))))
    replace h0 := h0.or (ap_symm p82)
    replace C := C.sealO h81
    replace h81 := h81.sealed
    obtain ⟨y93, h94, h⟩ := pur_some h
    have h99 : ∀ b, b ∈ fp0 → ¬ (Or S78 (Blk v80)) b := fun b hb => (h0.lt b hb).2
    refine sc (dc_ofield (i := 1) (k := (kSl marigraphref11_Item.k)) (h1 := rfl) (a' := o5) h0 rfl ag38 rfl rfl (rep_sl.2 ⟨_, rfl, h81⟩) fun w95 h96 u97 => ?_)
    replace h96 : Ob 62 (marigraphref11_Head.fs ({ a0 with L := o5 } : marigraphref11_Head)) (Or S78 (Blk v80)) w95 v0 (cs0.set 1 v80) fp0 := h96
    rw [h94] at h96
    obtain ⟨cs100, h101⟩ : ∃ cs, cs = cs0.set 1 v80 := ⟨_, rfl⟩
    rw [← h101] at h96
    have c98 := Cx.ofUp C.sb u97
    replace C := C.ofc c98 hs0
    refine W.e (k92 _ _ ?_)
    refine cw_seq fun K102 k103 => ?_
    refine cw_region (sv (mvv (.int .i64 y89) rfl) (sv (asv (.int .i64 y89) rfl) (W.e (k103 _ _ (cw_ret ?_)))))
    obtain rfl := Option.some.inj h
    exact ⟨_, rfl, _, _, _, rfl, C, h96, hs0⟩

noncomputable def marigraphref11_Head_Add.b4 (a0 : marigraphref11_Head) (a1 : Int) (a2 : api_Point) (x49 : Int) : Option ((Int) ⊕ ((Unit) ⊕ (Int × marigraphref11_Head))) :=
  (bif (decide (x49 < (a0.L.length : Int))) then ((((at_ a0.L x49).bind fun y74 => (bif (y74.Id == a1) then ((at_ a0.L x49).bind fun y83 => some (y83.P.T == a2.T)) else some false)).bind fun o64 => (bif o64 then some (.inr (.inr (.inr ((111 : Int), a0)))) else some (.inl ()))).bind (Sum.elim (fun o60n => (pur (IntKind.i64.wrap (x49 + (1 : Int))) fun y98 => some (.inl y98))) (fun q => some q))) else some (.inr (.inl ())))
noncomputable def marigraphref11_Head_Add (a0 : marigraphref11_Head) (a1 : Int) (a2 : api_Point) : Option (Int × marigraphref11_Head) :=
  (((bif (decide (a1 < (0 : Int))) then some true else some (decide ((4096 : Int) ≤ a1))).bind fun o13 => (bif o13 then some (.inr ((1 : Int), a0)) else some (.inl ()))).bind (Sum.elim (fun o9n => ((marigraphref11_Head_Far a0 a2.T).bind fun y31 => (bif y31 then some ((110 : Int), a0) else ((iter (fun s : Int => marigraphref11_Head_Add.b4 a0 a1 a2 s) (0 : Int)).bind (Sum.elim (fun o39n => (bif (decide ((2048 : Int) ≤ (a0.L.length : Int))) then some ((4 : Int), a0) else (((app_ 24 ([] : List marigraphref11_Item) a0.L).bind fun y12_6_1 => ((app_ 24 y12_6_1 ([(marigraphref11_Item.mk a1 (api_Point.mk a2.T a2.V))] : List marigraphref11_Item)).bind fun y12_11_1 => (pur ({ a0 with L := y12_11_1 } : marigraphref11_Head) fun y12_14_1 => some y12_14_1))).bind fun o114 => (((bif (!o114.Any) then some true else some (decide (o114.Last < a2.T))).bind fun o282 => (bif o282 then (pur ({ o114 with Last := a2.T } : marigraphref11_Head) fun y294 => some y294) else some o114)).bind fun o278 => (pur ({ o278 with Any := true } : marigraphref11_Head) fun y312 => some ((0 : Int), y312)))))) (fun q => some q)))))) (fun q => some q)))
set_option maxRecDepth 100000 in
set_option maxHeartbeats 4000000 in
theorem marigraphref11_Head_Add_w {S : Nat → Prop} {w : World} {a0 : marigraphref11_Head} {a1 : Int} {a2 : api_Point} {v0 v2 : Value} {cs0 : List Value} {fp0 : List Nat} {r : Int × marigraphref11_Head} (hS : Sb S w) (h0 : Ob 62 (marigraphref11_Head.fs a0) S w v0 cs0 fp0) (h2 : Sl api_Point.k S w v2 a2) (h : marigraphref11_Head_Add a0 a1 a2 = some r) :
    Calls Try.prog 26 (List.toArray [v0, .int .i64 a1, v2]) w fun e w1 => ∃ S1 us_0 up_0, e = .returned (.int .i64 r.1) ∧ Cx (fun b => b ∈ fp0) S w S1 w1 ∧ Ob 62 (marigraphref11_Head.fs r.2) S1 w1 v0 us_0 up_0 ∧ (∀ b, b ∈ up_0 → b ∈ fp0 ∨ w.heap.size ≤ b) := by
  refine enter Try.func26 rfl (by kernel_rfl) rfl ?_
  have C := Cx.refl (F := (fun b => b ∈ fp0)) hS
  unfold marigraphref11_Head_Add at h
  have hs0 : ∀ b, b ∈ fp0 → b ∈ fp0 ∨ w.heap.size ≤ b := fun b hb => .inl hb
  have hl0 : ∀ b ∈ fp0, b < w.heap.size := fun b hb => (h0.lt b hb).1
  obtain rfl := api_Point.o.1 h2
  refine cw_seq fun K1 k2 => ?_
  refine cw_region ?_
  refine sc (dc_boxS C.sb rfl fun b3 S4 w5 c6 h7 => ?_)
  replace h0 := h0.cx c6
  replace C := C.trans c6
  refine sv (asv (.int .i64 0) rfl) (W.e (k2 _ _ ?_))
  obtain ⟨o9, h12, h⟩ := bnds_some h
  refine cw_seq' (fun ρ w1 => ∃ o9n, o9 = (.inl o9n) ∧ ∃ S1, Cx (fun b => b ∈ fp0) S w S1 w1 ∧ Has ρ [(0, v0), (1, .int .i64 a1), (5, .pointer (some ⟨b3, 0, none⟩))] ∧ Bs S1 w1 b3 [.int .i64 a2.T, .int .i64 a2.V] 29 ∧ Ob 62 (marigraphref11_Head.fs a0) S1 w1 v0 cs0 fp0) ?_ ?_
  · obtain ⟨o13, h16, h12⟩ := bnd_some h12
    refine cw_seq' (fun ρ w1 => ∃ S1, Cx (fun b => b ∈ fp0) S w S1 w1 ∧ Has ρ [(0, v0), (1, .int .i64 a1), (5, .pointer (some ⟨b3, 0, none⟩)), (13, .bool o13)] ∧ Bs S1 w1 b3 [.int .i64 a2.T, .int .i64 a2.V] 29 ∧ Ob 62 (marigraphref11_Head.fs a0) S1 w1 v0 cs0 fp0) ?_ ?_
    · refine cw_region (sv (mvv (.int .i64 a1) rfl) (sv (rv_lss rfl rfl) (sv (mvv (.bool (decide (a1 < (0 : Int)))) rfl) ?_)))
      rcases bif_some h16 with ⟨b17, h16⟩ | ⟨b17, h16⟩
      · refine W.n (gn rfl rfl rfl b17) (W.n (gn rfl rfl rfl b17) (sv (ptk (.bool true) rfl b17 rfl) (W.e ?_)))
        obtain rfl := Option.some.inj h16
        exact ⟨_, C, ⟨rfl, rfl, rfl, rfl, trivial⟩, h7, h0⟩
      · refine W.v (gy rfl rfl rfl b17) (mvv (.int .i64 a1) rfl) (W.v (gy rfl rfl rfl b17) (rv_geq rfl rfl) (sv (pfk (.bool (decide ((4096 : Int) ≤ a1))) rfl b17 rfl) (W.e ?_)))
        obtain rfl := Option.some.inj h16
        exact ⟨_, C, ⟨rfl, rfl, rfl, rfl, trivial⟩, h7, h0⟩
    · rintro ρ w19 ⟨S18, C, h20, h7, h0⟩
      refine h20.cw fun ρ => ?_
      clear h20
      rcases bif_some h12 with ⟨b21, h12⟩ | ⟨b21, h12⟩
      · refine cw_t rfl b21 ?_
        refine cw_seq fun K22 k23 => ?_
        refine cw_region (sv (asv (.int .i64 1) rfl) (W.e (k23 _ _ (cw_ret ?_))))
        obtain rfl := Option.some.inj h12
        replace h := h.2 _ rfl
        obtain rfl := Option.some.inj h
        exact ⟨_, rfl, _, _, _, rfl, C, h0, hs0⟩
      · refine cw_f rfl b21 (cw_skip ?_)
        obtain rfl := Option.some.inj h12
        exact ⟨_, rfl, ⟨_, C, ⟨rfl, rfl, rfl, trivial⟩, h7, h0⟩⟩
  · rintro ρ w25 ⟨o9n, rfl, ⟨S24, C, h26, h7, h0⟩⟩
    replace h := h.1 _ rfl
    refine h26.cw fun ρ => ?_
    clear h26
    refine cw_seq fun K27 k28 => ?_
    refine cw_seq fun K29 k30 => ?_
    refine cw_region (sv (mvv v0 rfl) (sv (rv_fieldAddr st29 rfl rfl) (sr (rw_bk ag3 h7.2 rfl rfl) ?_)))
    obtain ⟨y31, h32, h⟩ := bnd_some h
    refine sc (dc_call (vs := [v0, .int .i64 a2.T]) can40 rfl ?_)
    refine (marigraphref11_Head_Far_w C.sb h0 h32).mono ?_
    rintro _ w33 ⟨S34, rfl, c35⟩
    refine ⟨_, rfl, ?_⟩
    replace h0 := h0.cx c35
    replace h7 := h7.cx c35
    replace C := C.trans c35
    refine W.e (k30 _ _ ?_)
    rcases bif_some h with ⟨b36, h⟩ | ⟨b36, h⟩
    · refine cw_t rfl b36 ?_
      refine cw_seq fun K37 k38 => ?_
      refine cw_region (sv (asv (.int .i64 110) rfl) (W.e (k38 _ _ (cw_ret ?_))))
      obtain rfl := Option.some.inj h
      exact ⟨_, rfl, _, _, _, rfl, C, h0, hs0⟩
    · refine cw_f rfl b36 (cw_skip (k28 _ _ ?_))
      obtain ⟨o39, h42, h⟩ := bnds_some h
      refine cw_seq' (fun ρ w1 => ∃ o39n, o39 = (.inl o39n) ∧ ∃ S1, Cx (fun b => b ∈ fp0) S w S1 w1 ∧ Has ρ [(0, v0), (1, .int .i64 a1), (5, .pointer (some ⟨b3, 0, none⟩))] ∧ Bs S1 w1 b3 [.int .i64 a2.T, .int .i64 a2.V] 29 ∧ Ob 62 (marigraphref11_Head.fs a0) S1 w1 v0 cs0 fp0) ?_ ?_
      · refine cw_seq fun K43 k44 => ?_
        refine cw_region (sv (asv (.int .i64 0) rfl) (W.e (k44 _ _ (cw_block ?_))))
        refine cw_iter h42 (fun s ρ w1 => ∃ S1, Cx (fun b => b ∈ fp0) S w S1 w1 ∧ Has ρ [(0, v0), (1, .int .i64 a1), (5, .pointer (some ⟨b3, 0, none⟩)), (7, .int .i64 s)] ∧ Bs S1 w1 b3 [.int .i64 a2.T, .int .i64 a2.V] 29 ∧ Ob 62 (marigraphref11_Head.fs a0) S1 w1 v0 cs0 fp0) ⟨_, C, ⟨rfl, rfl, rfl, rfl, trivial⟩, h7, h0⟩ ?_
        rintro x49 q45 ρ w47 ⟨S46, C, h48, h7, h0⟩ h51 h50
        refine h48.cw fun ρ => ?_
        clear h48
        replace h51 : marigraphref11_Head_Add.b4 a0 a1 a2 x49 = some q45 := h51
        unfold marigraphref11_Head_Add.b4 at h51
        refine cw_seq fun K52 k53 => ?_
        refine cw_seq fun K54 k55 => ?_
        refine cw_region (sv (mvv (.int .i64 x49) rfl) (sv (mvv v0 rfl) (sv (rv_nilcheck rfl h0.ptr) (sv (rv_fieldAddr (b := pb v0) (o := 0) st62 rfl h0.ptr) ?_))))
        obtain ⟨c56, h57, h58⟩ := h0.sl (i := 1) rfl
        refine sr (rw_ofield (i := 1) (c := c56) h0 ag38 h57 rfl) (sv (rv_lenS el38 h58 rfl) (sv (rv_lss rfl rfl) (W.e (k55 _ _ ?_))))
        rcases bif_some h51 with ⟨b59, h51⟩ | ⟨b59, h51⟩
        · refine cw_t rfl b59 (cw_skip (k53 _ _ ?_))
          obtain ⟨o60, h63, h51⟩ := bnds_some h51
          refine cw_seq' (fun ρ w1 => ∃ o60n, o60 = (.inl o60n) ∧ ∃ S1, Cx (fun b => b ∈ fp0) S w S1 w1 ∧ Has ρ [(0, v0), (1, .int .i64 a1), (5, .pointer (some ⟨b3, 0, none⟩)), (7, .int .i64 x49)] ∧ Bs S1 w1 b3 [.int .i64 a2.T, .int .i64 a2.V] 29 ∧ Ob 62 (marigraphref11_Head.fs a0) S1 w1 v0 cs0 fp0) ?_ ?_
          · refine cw_block ?_
            obtain ⟨o64, h67, h63⟩ := bnd_some h63
            refine cw_seq' (fun ρ w1 => ∃ S1, Cx (fun b => b ∈ fp0) S w S1 w1 ∧ Has ρ [(0, v0), (1, .int .i64 a1), (5, .pointer (some ⟨b3, 0, none⟩)), (7, .int .i64 x49), (50, .bool o64)] ∧ Bs S1 w1 b3 [.int .i64 a2.T, .int .i64 a2.V] 29 ∧ Ob 62 (marigraphref11_Head.fs a0) S1 w1 v0 cs0 fp0) ?_ ?_
            · refine cw_drawU (.one 0 true (.one 1 true (.one 2 true (.one 3 true (.one 4 true (.one 5 true (.one 6 true (.one 7 true (.one 8 true (.one 9 true (.one 10 true (.one 11 true (.one 12 true (.one 13 true (.one 14 true (.one 15 true (.one 16 true (.one 17 true (.one 18 true (.one 19 true (.one 20 true (.one 21 true (.one 22 true (.one 23 true .done)))))))))))))))))))))))) [(3, [9]), (7, [9]), (14, [9]), (19, [9]), (21, [9])] [] (fun c => bif Nat.beq c 9 then (fun _ => True) else No) fol (by kernel_rfl) fun w68 u69 => ?_
              replace h0 := h0.nw u69
              replace h7 := h7.nw u69
              replace C := C.new u69
              have m70 := Sm.refl (fun _ => True) w68
              refine mtv rfl rfl (mvv v0 rfl) (mtv rfl rfl (rv_nilcheck rfl h0.ptr) (mtv rfl rfl (rv_fieldAddr (b := pb v0) (o := 0) st62 rfl h0.ptr) ?_))
              obtain ⟨c71, h72, h73⟩ := h0.sl (i := 1) rfl
              refine mtr rfl rfl ⟨m70, trivial⟩ (fun w' hq => rw_ofieldU (i := 1) (c := c71) h0 (hq.1.mono fun _ _ => trivial) ag38 h72 rfl) (mtv rfl rfl (mvv (.int .i64 x49) rfl) ?_)
              obtain ⟨y74, h75, h67⟩ := bnd_some h67
              refine mtv rfl rfl (rv_index el38 h73 rfl rfl h75) (mtv rfl rfl (rv_fieldAddr st44 rfl rfl) ?_)
              obtain ⟨cs76, h77, h78⟩ := Sl.cells h73 h75
              obtain rfl := marigraphref11_Item.r.1 h77
              refine mtr rfl rfl ⟨m70, trivial⟩ (fun w' hq => rw_el1 (off := 0) ag3 (h78 w' (hq.1.mono fun _ _ => trivial)) rfl rfl) (mtv rfl rfl (mvv (.int .i64 a1) rfl) (mtv rfl rfl (rv_eql rfl rfl) (mtv rfl rfl (mvv (.bool (y74.Id == a1)) rfl) ?_)))
              rcases bif_some h67 with ⟨b79, h67⟩ | ⟨b79, h67⟩
              · refine MT.vv rfl rfl (gy rfl rfl rfl b79) (mvv v0 rfl) (MT.vv rfl rfl (gy rfl rfl rfl b79) (rv_nilcheck rfl h0.ptr) (MT.vv rfl rfl (gy rfl rfl rfl b79) (rv_fieldAddr (b := pb v0) (o := 0) st62 rfl h0.ptr) ?_))
                obtain ⟨c80, h81, h82⟩ := h0.sl (i := 1) rfl
                refine MT.r rfl rfl (gy rfl rfl rfl b79) ⟨m70, trivial⟩ (fun w' hq => rw_ofieldU (i := 1) (c := c80) h0 (hq.1.mono fun _ _ => trivial) ag38 h81 rfl) (MT.vv rfl rfl (gy rfl rfl rfl b79) (mvv (.int .i64 x49) rfl) ?_)
                obtain ⟨y83, h84, h67⟩ := bnd_some h67
                refine MT.vv rfl rfl (gy rfl rfl rfl b79) (rv_index el38 h82 rfl rfl h84) (MT.vv rfl rfl (gy rfl rfl rfl b79) (rv_fieldAddr st44 rfl rfl) (MT.vv rfl rfl (gy rfl rfl rfl b79) (rv_fieldAddr st29 rfl rfl) ?_))
                obtain ⟨cs85, h86, h87⟩ := Sl.cells h82 h84
                obtain rfl := marigraphref11_Item.r.1 h86
                refine MT.r rfl rfl (gy rfl rfl rfl b79) ⟨m70, trivial⟩ (fun w' hq => rw_el1 (off := 1) ag3 (h87 w' (hq.1.mono fun _ _ => trivial)) rfl rfl) (MT.vv rfl rfl (gy rfl rfl rfl b79) (rv_fieldAddr st29 rfl rfl) (MT.r rfl rfl (gy rfl rfl rfl b79) ⟨m70, trivial⟩ (fun w' hq => rw_bk ag3 (h7.sm (hq.1.mono fun _ _ => trivial)) rfl rfl) (MT.vv rfl rfl (gy rfl rfl rfl b79) (rv_eql rfl rfl) (mtv rfl rfl (ptk (.bool (y83.P.T == a2.T)) rfl b79 rfl) (MT.e ?_)))))
                obtain rfl := Option.some.inj h67
                exact ⟨_, C, ⟨rfl, rfl, rfl, rfl, rfl, trivial⟩, h7, h0⟩
              · refine MT.n rfl rfl (gn rfl rfl rfl b79) trivial (MT.n rfl rfl (gn rfl rfl rfl b79) trivial (MT.n rfl rfl (gn rfl rfl rfl b79) trivial (MT.n rfl rfl (gn rfl rfl rfl b79) ⟨m70, trivial⟩ (MT.n rfl rfl (gn rfl rfl rfl b79) trivial (MT.n rfl rfl (gn rfl rfl rfl b79) trivial (MT.n rfl rfl (gn rfl rfl rfl b79) trivial (MT.n rfl rfl (gn rfl rfl rfl b79) trivial (MT.n rfl rfl (gn rfl rfl rfl b79) ⟨m70, trivial⟩ (MT.n rfl rfl (gn rfl rfl rfl b79) trivial (MT.n rfl rfl (gn rfl rfl rfl b79) ⟨m70, trivial⟩ (MT.n rfl rfl (gn rfl rfl rfl b79) trivial ?_)))))))))))
                refine mtv rfl rfl (pfk (.bool false) rfl b79 rfl) (MT.e ?_)
                obtain rfl := Option.some.inj h67
                exact ⟨_, C, ⟨rfl, rfl, rfl, rfl, rfl, trivial⟩, h7, h0⟩
            · rintro ρ w89 ⟨S88, C, h90, h7, h0⟩
              refine h90.cw fun ρ => ?_
              clear h90
              rcases bif_some h63 with ⟨b91, h63⟩ | ⟨b91, h63⟩
              · refine cw_t rfl b91 ?_
                refine cw_seq fun K92 k93 => ?_
                refine cw_region (sv (asv (.int .i64 111) rfl) (W.e (k93 _ _ (cw_ret ?_))))
                obtain rfl := Option.some.inj h63
                replace h51 := h51.2 _ rfl
                obtain rfl := Option.some.inj h51
                have h94 := congrArg some h50
                obtain rfl := Option.some.inj h94
                replace h := h.2 _ rfl
                obtain rfl := Option.some.inj h
                exact ⟨_, rfl, _, _, _, rfl, C, h0, hs0⟩
              · refine cw_f rfl b91 (cw_skip ?_)
                obtain rfl := Option.some.inj h63
                exact ⟨_, rfl, ⟨_, C, ⟨rfl, rfl, rfl, rfl, trivial⟩, h7, h0⟩⟩
          · rintro ρ w96 ⟨o60n, rfl, ⟨S95, C, h97, h7, h0⟩⟩
            replace h51 := h51.1 _ rfl
            refine h97.cw fun ρ => ?_
            clear h97
            refine cw_region (sv (mvv (.int .i64 x49) rfl) ?_)
            obtain ⟨y98, h99, h51⟩ := pur_some h51
            refine sv (rv_add rfl rfl h99) (sv (asv (.int .i64 y98) rfl) (W.e ?_))
            obtain rfl := Option.some.inj h51
            exact ⟨_, rfl, ⟨_, C, ⟨rfl, rfl, rfl, rfl, trivial⟩, h7, h0⟩⟩
        · refine cw_f rfl b59 (cw_exit ?_)
          obtain rfl := Option.some.inj h51
          have h100 := congrArg some h50
          obtain rfl := Option.some.inj h100
          exact ⟨_, rfl, ⟨_, C, ⟨rfl, rfl, rfl, trivial⟩, h7, h0⟩⟩
      · rintro ρ w102 ⟨o39n, rfl, ⟨S101, C, h103, h7, h0⟩⟩
        replace h := h.1 _ rfl
        refine h103.cw fun ρ => ?_
        clear h103
        refine cw_seq fun K104 k105 => ?_
        refine cw_seq fun K106 k107 => ?_
        refine cw_region (sv (mvv v0 rfl) (sv (rv_nilcheck rfl h0.ptr) (sv (rv_fieldAddr (b := pb v0) (o := 0) st62 rfl h0.ptr) ?_)))
        obtain ⟨c108, h109, h110⟩ := h0.sl (i := 1) rfl
        refine sr (rw_ofield (i := 1) (c := c108) h0 ag38 h109 rfl) (sv (rv_lenS el38 h110 rfl) (sv (rv_geq rfl rfl) (W.e (k107 _ _ ?_))))
        rcases bif_some h with ⟨b111, h⟩ | ⟨b111, h⟩
        · refine cw_t rfl b111 ?_
          refine cw_seq fun K112 k113 => ?_
          refine cw_region (sv (asv (.int .i64 4) rfl) (W.e (k113 _ _ (cw_ret ?_))))
          obtain rfl := Option.some.inj h
          exact ⟨_, rfl, _, _, _, rfl, C, h0, hs0⟩
        · refine cw_f rfl b111 (cw_skip (k105 _ _ ?_))
          obtain ⟨o114, h117, h⟩ := bnd_some h
          refine cw_seq' (fun ρ w1 => ∃ S1 fp274 cs276, Cx (fun b => b ∈ fp0) S w S1 w1 ∧ Has ρ [(0, v0), (5, .pointer (some ⟨b3, 0, none⟩))] ∧ Bs S1 w1 b3 [.int .i64 a2.T, .int .i64 a2.V] 29 ∧ Ob 62 (marigraphref11_Head.fs o114) S1 w1 v0 cs276 fp274 ∧ (∀ b, b ∈ fp274 → b ∈ fp0 ∨ w.heap.size ≤ b)) ?_ ?_
          · refine cw_drawU (.one 0 true (.one 2 true (.one 3 true (.one 4 true (.one 5 true (.one 7 true (.one 8 true (.one 9 true (.two 1 10 (.two 6 10 (.one 10 false (.one 11 false (.one 12 true (.one 13 true (.one 14 false .done))))) (.one 6 false (.one 11 false (.one 12 true (.one 13 true (.one 14 false .done)))))) (.one 1 false (.one 6 false (.one 11 false (.one 12 true (.one 13 true (.one 14 false .done))))))))))))))) [(5, [10]), (8, [0])] [(1, [0, 10]), (6, [0]), (10, [0, 10]), (11, [0, 10]), (14, [])] (fun c => bif Nat.beq c 0 then S101 else bif Nat.beq c 10 then (One (pb v0)) else No) fol (by kernel_rfl) fun w118 u119 => ?_
            replace h0 := h0.nw u119
            replace h7 := h7.nw u119
            replace C := C.new u119
            have h0d := h0
            have h7d := h7
            have m120 := Sm.refl S101 w118
            have m121 := Sm.refl (One (pb v0)) w118
            refine mtv rfl rfl (mvv v0 rfl) (mtv rfl rfl (mvv v0 rfl) (mtv rfl rfl (rv_nilcheck rfl h0.ptr) (mtv rfl rfl (rv_fieldAddr (b := pb v0) (o := 0) st62 rfl h0.ptr) ?_)))
            obtain ⟨c122, h123, h124⟩ := h0.sl (i := 1) rfl
            refine mtr rfl rfl ⟨m121, trivial⟩ (fun w' hq => rw_ofieldU (i := 1) (c := c122) h0 hq.1 ag38 h123 rfl) (mtv rfl rfl (mvv (.int .i64 a1) rfl) (mtr rfl rfl ⟨m120, trivial⟩ (fun w' hq => rw_bkA ag29 (h7.sm hq.1) rfl rfl rfl) (mtv rfl rfl (rv_build (r := [.int .i64 a1, .int .i64 a2.T, .int .i64 a2.V]) st44 zr44 rfl) ?_)))
            refine MT.two ?_ ?_
            · refine mtc rfl rfl (dc_lit (vs := []) (xs := ([] : List marigraphref11_Item)) (base := w.heap.size) el38 rfl rfl (.nil) (Nat.le_of_ble_eq_true rfl) C.up.size C.sb fun v125 w126 h127 h128 u129 => ?_)
              have p130 := ap_fresh h128 (fun b hb => (h0.lt b hb).1)
              replace h0 := h0.nw u129
              replace h7 := h7.nw u129
              replace h124 := h124.nw u129
              replace C := C.new u129
              have z131 := (u129).size
              have m132 := m120.nx u129 (by omega)
              have m133 := m121.nx u129 (by omega)
              refine ⟨⟨m132, m133, trivial⟩, ?_⟩
              refine MT.two ?_ ?_
              · obtain ⟨y12_6_1, h134, h117⟩ := bnd_some h117
                have h140 := h127
                refine mtc rfl rfl (dc_append el38 (by decide) h140 (h124.src fun _ h => h) rfl rfl h134 C.up.size C.sb fun v135 w136 h137 u138 h139 => ?_)
                have p141 := ap_grow p130 h139 (fun b hb => (h0.lt b hb).1)
                replace h0 := h0.wr u138 h140.not (ap_symm p130)
                replace h7 := h7.wr u138 h140.not
                replace C := C.ow h140 u138
                have z142 := (u138).size
                have m143 := m132.wrC u138 (by omega) h140.not
                have m144 := m133.wrC u138 (by omega) (ap_one p130 h0.hd)
                refine ⟨⟨m143, trivial⟩, ?_⟩
                refine mtc rfl rfl (dc_lit (vs := [.agg (List.toArray [.int .i64 a1, .int .i64 a2.T, .int .i64 a2.V])]) (xs := ([(marigraphref11_Item.mk a1 (api_Point.mk a2.T a2.V))] : List marigraphref11_Item)) (base := w.heap.size) el38 rfl rfl (.cons ((marigraphref11_Item.o (x := (marigraphref11_Item.mk a1 (api_Point.mk a2.T a2.V)))).2 rfl) (.nil)) (Nat.le_of_ble_eq_true rfl) C.up.size C.sb fun v145 w146 h147 h148 u149 => ?_)
                have p150 := ap_fresh h148 (fun b hb => (h0.lt b hb).1)
                have p151 := ap_fresh h148 (fun b hb => (h137.lt b hb).2)
                replace h0 := h0.nw u149
                replace h7 := h7.nw u149
                replace h137 := h137.nw u149
                replace C := C.new u149
                have z152 := (u149).size
                have m153 := m143.nx u149 (by omega)
                have m154 := m144.nx u149 (by omega)
                refine ⟨⟨m153, m154, trivial⟩, ?_⟩
                obtain ⟨y12_11_1, h155, h117⟩ := bnd_some h117
                have h161 := h137
                refine mtc rfl rfl (dc_append el38 (by decide) h161 h147.src rfl rfl h155 C.up.size C.sb fun v156 w157 h158 u159 h160 => ?_)
                have p162 := ap_grow p141 h160 (fun b hb => (h0.lt b hb).1)
                replace h0 := h0.wr u159 h161.not (ap_symm p141)
                replace h7 := h7.wr u159 h161.not
                replace C := C.ow h161 u159
                have z163 := (u159).size
                have m164 := m153.wrC u159 (by omega) h161.not
                have m165 := m154.wrC u159 (by omega) (ap_one p141 h0.hd)
                refine ⟨⟨m164, m165, trivial⟩, ?_⟩
                refine mtv rfl rfl (rv_nilcheck rfl h0.ptr) (mtv rfl rfl (rv_fieldAddr (b := pb v0) (o := 0) st62 rfl h0.ptr) ?_)
                replace h0 := h0.or (ap_symm p162)
                replace h7 := h7.or (T := Blk v156)
                replace C := C.sealO h158
                replace h158 := h158.sealed
                obtain ⟨y12_14_1, h166, h117⟩ := pur_some h117
                have h171 : ∀ b, b ∈ fp0 → ¬ (Or S101 (Blk v156)) b := fun b hb => (h0.lt b hb).2
                refine mtc rfl rfl (dc_ofield (i := 1) (k := (kSl marigraphref11_Item.k)) (h1 := rfl) (a' := y12_11_1) h0 rfl ag38 rfl rfl (rep_sl.2 ⟨_, rfl, h158⟩) fun w167 h168 u169 => ?_)
                replace h168 : Ob 62 (marigraphref11_Head.fs ({ a0 with L := y12_11_1 } : marigraphref11_Head)) (Or S101 (Blk v156)) w167 v0 (cs0.set 1 v156) fp0 := h168
                rw [h166] at h168
                obtain ⟨cs172, h173⟩ : ∃ cs, cs = cs0.set 1 v156 := ⟨_, rfl⟩
                rw [← h173] at h168
                have c170 := Cx.ofUp C.sb u169
                replace h7 := h7.cf c170 h171
                replace C := C.ofc c170 hs0
                have z174 := (u169).size
                have m175 := m164.wrC u169 (by omega) (fun b hb hs => h171 b hb ((fun _ h => Or.inl h) b hs))
                refine ⟨trivial, ?_⟩
                refine MT.e ?_
                obtain rfl := Option.some.inj h117
                exact ⟨_, _, _, C, ⟨rfl, rfl, trivial⟩, h7, h168, hs0⟩
              · refine mtc rfl rfl (dc_lit (vs := [.agg (List.toArray [.int .i64 a1, .int .i64 a2.T, .int .i64 a2.V])]) (xs := ([(marigraphref11_Item.mk a1 (api_Point.mk a2.T a2.V))] : List marigraphref11_Item)) (base := w.heap.size) el38 rfl rfl (.cons ((marigraphref11_Item.o (x := (marigraphref11_Item.mk a1 (api_Point.mk a2.T a2.V)))).2 rfl) (.nil)) (Nat.le_of_ble_eq_true rfl) C.up.size C.sb fun v176 w177 h178 h179 u180 => ?_)
                have p181 := ap_fresh h179 (fun b hb => (h0.lt b hb).1)
                have p182 := ap_fresh h179 (fun b hb => (h127.lt b hb).2)
                replace h0 := h0.nw u180
                replace h7 := h7.nw u180
                replace h127 := h127.nw u180
                replace h124 := h124.nw u180
                replace C := C.new u180
                have z183 := (u180).size
                have m184 := m132.nx u180 (by omega)
                have m185 := m133.nx u180 (by omega)
                refine ⟨⟨m184, m185, trivial⟩, ?_⟩
                obtain ⟨y12_6_1, h186, h117⟩ := bnd_some h117
                have h192 := h127
                refine mtc rfl rfl (dc_append el38 (by decide) h192 (h124.src fun _ h => h) rfl rfl h186 C.up.size C.sb fun v187 w188 h189 u190 h191 => ?_)
                have p193 := ap_grow p130 h191 (fun b hb => (h0.lt b hb).1)
                have p194 := ap_grow (ap_symm p182) h191 (fun b hb => (h178.lt b hb).2)
                replace h0 := h0.wr u190 h192.not (ap_symm p130)
                replace h178 := h178.wr u190 h192.not p182
                replace h7 := h7.wr u190 h192.not
                replace C := C.ow h192 u190
                have z195 := (u190).size
                have m196 := m184.wrC u190 (by omega) h192.not
                have m197 := m185.wrC u190 (by omega) (ap_one p130 h0.hd)
                refine ⟨⟨m196, trivial⟩, ?_⟩
                obtain ⟨y12_11_1, h198, h117⟩ := bnd_some h117
                have h204 := h189
                refine mtc rfl rfl (dc_append el38 (by decide) h204 h178.src rfl rfl h198 C.up.size C.sb fun v199 w200 h201 u202 h203 => ?_)
                have p205 := ap_grow p193 h203 (fun b hb => (h0.lt b hb).1)
                replace h0 := h0.wr u202 h204.not (ap_symm p193)
                replace h7 := h7.wr u202 h204.not
                replace C := C.ow h204 u202
                have z206 := (u202).size
                have m207 := m196.wrC u202 (by omega) h204.not
                have m208 := m197.wrC u202 (by omega) (ap_one p193 h0.hd)
                refine ⟨⟨m207, m208, trivial⟩, ?_⟩
                refine mtv rfl rfl (rv_nilcheck rfl h0.ptr) (mtv rfl rfl (rv_fieldAddr (b := pb v0) (o := 0) st62 rfl h0.ptr) ?_)
                replace h0 := h0.or (ap_symm p205)
                replace h7 := h7.or (T := Blk v199)
                replace C := C.sealO h201
                replace h201 := h201.sealed
                obtain ⟨y12_14_1, h209, h117⟩ := pur_some h117
                have h214 : ∀ b, b ∈ fp0 → ¬ (Or S101 (Blk v199)) b := fun b hb => (h0.lt b hb).2
                refine mtc rfl rfl (dc_ofield (i := 1) (k := (kSl marigraphref11_Item.k)) (h1 := rfl) (a' := y12_11_1) h0 rfl ag38 rfl rfl (rep_sl.2 ⟨_, rfl, h201⟩) fun w210 h211 u212 => ?_)
                replace h211 : Ob 62 (marigraphref11_Head.fs ({ a0 with L := y12_11_1 } : marigraphref11_Head)) (Or S101 (Blk v199)) w210 v0 (cs0.set 1 v199) fp0 := h211
                rw [h209] at h211
                obtain ⟨cs215, h216⟩ : ∃ cs, cs = cs0.set 1 v199 := ⟨_, rfl⟩
                rw [← h216] at h211
                have c213 := Cx.ofUp C.sb u212
                replace h7 := h7.cf c213 h214
                replace C := C.ofc c213 hs0
                have z217 := (u212).size
                have m218 := m207.wrC u212 (by omega) (fun b hb hs => h214 b hb ((fun _ h => Or.inl h) b hs))
                refine ⟨trivial, ?_⟩
                refine MT.e ?_
                obtain rfl := Option.some.inj h117
                exact ⟨_, _, _, C, ⟨rfl, rfl, trivial⟩, h7, h211, hs0⟩
            · refine mtc rfl rfl (dc_lit (vs := [.agg (List.toArray [.int .i64 a1, .int .i64 a2.T, .int .i64 a2.V])]) (xs := ([(marigraphref11_Item.mk a1 (api_Point.mk a2.T a2.V))] : List marigraphref11_Item)) (base := w.heap.size) el38 rfl rfl (.cons ((marigraphref11_Item.o (x := (marigraphref11_Item.mk a1 (api_Point.mk a2.T a2.V)))).2 rfl) (.nil)) (Nat.le_of_ble_eq_true rfl) C.up.size C.sb fun v219 w220 h221 h222 u223 => ?_)
              have p224 := ap_fresh h222 (fun b hb => (h0.lt b hb).1)
              replace h0 := h0.nw u223
              replace h7 := h7.nw u223
              replace h124 := h124.nw u223
              replace C := C.new u223
              have z225 := (u223).size
              have m226 := m120.nx u223 (by omega)
              have m227 := m121.nx u223 (by omega)
              refine ⟨⟨m226, m227, trivial⟩, ?_⟩
              refine mtc rfl rfl (dc_lit (vs := []) (xs := ([] : List marigraphref11_Item)) (base := w.heap.size) el38 rfl rfl (.nil) (Nat.le_of_ble_eq_true rfl) C.up.size C.sb fun v228 w229 h230 h231 u232 => ?_)
              have p233 := ap_fresh h231 (fun b hb => (h0.lt b hb).1)
              have p234 := ap_fresh h231 (fun b hb => (h221.lt b hb).2)
              replace h0 := h0.nw u232
              replace h221 := h221.nw u232
              replace h7 := h7.nw u232
              replace h124 := h124.nw u232
              replace C := C.new u232
              have z235 := (u232).size
              have m236 := m226.nx u232 (by omega)
              have m237 := m227.nx u232 (by omega)
              refine ⟨⟨m236, m237, trivial⟩, ?_⟩
              obtain ⟨y12_6_1, h238, h117⟩ := bnd_some h117
              have h244 := h230
              refine mtc rfl rfl (dc_append el38 (by decide) h244 (h124.src fun _ h => h) rfl rfl h238 C.up.size C.sb fun v239 w240 h241 u242 h243 => ?_)
              have p245 := ap_grow p233 h243 (fun b hb => (h0.lt b hb).1)
              have p246 := ap_grow p234 h243 (fun b hb => (h221.lt b hb).2)
              replace h0 := h0.wr u242 h244.not (ap_symm p233)
              replace h221 := h221.wr u242 h244.not (ap_symm p234)
              replace h7 := h7.wr u242 h244.not
              replace C := C.ow h244 u242
              have z247 := (u242).size
              have m248 := m236.wrC u242 (by omega) h244.not
              have m249 := m237.wrC u242 (by omega) (ap_one p233 h0.hd)
              refine ⟨⟨m248, trivial⟩, ?_⟩
              obtain ⟨y12_11_1, h250, h117⟩ := bnd_some h117
              have h256 := h241
              refine mtc rfl rfl (dc_append el38 (by decide) h256 h221.src rfl rfl h250 C.up.size C.sb fun v251 w252 h253 u254 h255 => ?_)
              have p257 := ap_grow p245 h255 (fun b hb => (h0.lt b hb).1)
              replace h0 := h0.wr u254 h256.not (ap_symm p245)
              replace h7 := h7.wr u254 h256.not
              replace C := C.ow h256 u254
              have z258 := (u254).size
              have m259 := m248.wrC u254 (by omega) h256.not
              have m260 := m249.wrC u254 (by omega) (ap_one p245 h0.hd)
              refine ⟨⟨m259, m260, trivial⟩, ?_⟩
              refine mtv rfl rfl (rv_nilcheck rfl h0.ptr) (mtv rfl rfl (rv_fieldAddr (b := pb v0) (o := 0) st62 rfl h0.ptr) ?_)
              replace h0 := h0.or (ap_symm p257)
              replace h7 := h7.or (T := Blk v251)
              replace C := C.sealO h253
              replace h253 := h253.sealed
              obtain ⟨y12_14_1, h261, h117⟩ := pur_some h117
              have h266 : ∀ b, b ∈ fp0 → ¬ (Or S101 (Blk v251)) b := fun b hb => (h0.lt b hb).2
              refine mtc rfl rfl (dc_ofield (i := 1) (k := (kSl marigraphref11_Item.k)) (h1 := rfl) (a' := y12_11_1) h0 rfl ag38 rfl rfl (rep_sl.2 ⟨_, rfl, h253⟩) fun w262 h263 u264 => ?_)
              replace h263 : Ob 62 (marigraphref11_Head.fs ({ a0 with L := y12_11_1 } : marigraphref11_Head)) (Or S101 (Blk v251)) w262 v0 (cs0.set 1 v251) fp0 := h263
              rw [h261] at h263
              obtain ⟨cs267, h268⟩ : ∃ cs, cs = cs0.set 1 v251 := ⟨_, rfl⟩
              rw [← h268] at h263
              have c265 := Cx.ofUp C.sb u264
              replace h7 := h7.cf c265 h266
              replace C := C.ofc c265 hs0
              have z269 := (u264).size
              have m270 := m259.wrC u264 (by omega) (fun b hb hs => h266 b hb ((fun _ h => Or.inl h) b hs))
              refine ⟨trivial, ?_⟩
              refine MT.e ?_
              obtain rfl := Option.some.inj h117
              exact ⟨_, _, _, C, ⟨rfl, rfl, trivial⟩, h7, h263, hs0⟩
          · rintro ρ w272 ⟨S271, fp274, cs276, C, h277, h7, h273, h275⟩
            refine h277.cw fun ρ => ?_
            clear h277
            obtain ⟨o278, h281, h⟩ := bnd_some h
            refine cw_seq' (fun ρ w1 => ∃ S1 fp306 cs308, Cx (fun b => b ∈ fp0) S w S1 w1 ∧ Has ρ [(0, v0)] ∧ Ob 62 (marigraphref11_Head.fs o278) S1 w1 v0 cs308 fp306 ∧ (∀ b, b ∈ fp306 → b ∈ fp0 ∨ w.heap.size ≤ b)) ?_ ?_
            · obtain ⟨o282, h285, h281⟩ := bnd_some h281
              refine cw_seq' (fun ρ w1 => ∃ S1, Cx (fun b => b ∈ fp0) S w S1 w1 ∧ Has ρ [(0, v0), (5, .pointer (some ⟨b3, 0, none⟩)), (84, .bool o282)] ∧ Bs S1 w1 b3 [.int .i64 a2.T, .int .i64 a2.V] 29 ∧ Ob 62 (marigraphref11_Head.fs o114) S1 w1 v0 cs276 fp274) ?_ ?_
              · refine cw_drawU (.one 0 true (.one 1 true (.one 2 true (.one 3 true (.one 4 true (.one 5 true (.one 6 true (.one 7 true (.one 8 true (.one 9 true (.one 10 true (.one 11 true (.one 12 true (.one 13 true .done)))))))))))))) [(3, [9]), (7, [9]), (11, [9])] [] (fun c => bif Nat.beq c 9 then (fun _ => True) else No) fol (by kernel_rfl) fun w286 u287 => ?_
                replace h273 := h273.nw u287
                replace h7 := h7.nw u287
                replace C := C.new u287
                have m288 := Sm.refl (fun _ => True) w286
                refine mtv rfl rfl (mvv v0 rfl) (mtv rfl rfl (rv_nilcheck rfl h273.ptr) (mtv rfl rfl (rv_fieldAddr (b := pb v0) (o := 0) st62 rfl h273.ptr) (mtr rfl rfl ⟨m288, trivial⟩ (fun w' hq => rw_ofieldU (i := 3) (c := .bool o114.Any) h273 (hq.1.mono fun _ _ => trivial) ag4 (h273.sc (i := 3) rfl) rfl) (mtv rfl rfl (rv_not rfl) (mtv rfl rfl (mvv (.bool (!o114.Any)) rfl) ?_)))))
                rcases bif_some h285 with ⟨b289, h285⟩ | ⟨b289, h285⟩
                · refine MT.n rfl rfl (gn rfl rfl rfl b289) trivial (MT.n rfl rfl (gn rfl rfl rfl b289) ⟨m288, trivial⟩ (MT.n rfl rfl (gn rfl rfl rfl b289) trivial (MT.n rfl rfl (gn rfl rfl rfl b289) trivial (MT.n rfl rfl (gn rfl rfl rfl b289) trivial (MT.n rfl rfl (gn rfl rfl rfl b289) ⟨m288, trivial⟩ (MT.n rfl rfl (gn rfl rfl rfl b289) trivial (mtv rfl rfl (ptk (.bool true) rfl b289 rfl) (MT.e ?_))))))))
                  obtain rfl := Option.some.inj h285
                  exact ⟨_, C, ⟨rfl, rfl, rfl, trivial⟩, h7, h273⟩
                · refine MT.vv rfl rfl (gy rfl rfl rfl b289) (rv_fieldAddr st29 rfl rfl) (MT.r rfl rfl (gy rfl rfl rfl b289) ⟨m288, trivial⟩ (fun w' hq => rw_bk ag3 (h7.sm (hq.1.mono fun _ _ => trivial)) rfl rfl) (MT.vv rfl rfl (gy rfl rfl rfl b289) (mvv v0 rfl) (MT.vv rfl rfl (gy rfl rfl rfl b289) (rv_nilcheck rfl h273.ptr) (MT.vv rfl rfl (gy rfl rfl rfl b289) (rv_fieldAddr (b := pb v0) (o := 0) st62 rfl h273.ptr) (MT.r rfl rfl (gy rfl rfl rfl b289) ⟨m288, trivial⟩ (fun w' hq => rw_ofieldU (i := 2) (c := .int .i64 o114.Last) h273 (hq.1.mono fun _ _ => trivial) ag3 (h273.sc (i := 2) rfl) rfl) (MT.vv rfl rfl (gy rfl rfl rfl b289) (rv_gtr rfl rfl) (mtv rfl rfl (pfk (.bool (decide (o114.Last < a2.T))) rfl b289 rfl) (MT.e ?_))))))))
                  obtain rfl := Option.some.inj h285
                  exact ⟨_, C, ⟨rfl, rfl, rfl, trivial⟩, h7, h273⟩
              · rintro ρ w291 ⟨S290, C, h292, h7, h273⟩
                refine h292.cw fun ρ => ?_
                clear h292
                rcases bif_some h281 with ⟨b293, h281⟩ | ⟨b293, h281⟩
                · refine cw_t rfl b293 (cw_region (sv (mvv v0 rfl) (sv (rv_fieldAddr st29 rfl rfl) (sr (rw_bk ag3 h7.2 rfl rfl) (sv (rv_nilcheck rfl h273.ptr) (sv (rv_fieldAddr (b := pb v0) (o := 0) st62 rfl h273.ptr) ?_))))))
                  obtain ⟨y294, h295, h281⟩ := pur_some h281
                  have h300 : ∀ b, b ∈ fp274 → ¬ S290 b := fun b hb => (h273.lt b hb).2
                  refine sc (dc_ofield (i := 2) (k := (kI .i64)) (h1 := rfl) (a' := a2.T) h273 rfl ag3 rfl rfl (rep_sc.2 rfl) fun w296 h297 u298 => ?_)
                  replace h297 : Ob 62 (marigraphref11_Head.fs ({ o114 with Last := a2.T } : marigraphref11_Head)) S290 w296 v0 (cs276.set 2 (.int .i64 a2.T)) fp274 := h297
                  rw [h295] at h297
                  obtain ⟨cs301, h302⟩ : ∃ cs, cs = cs276.set 2 (.int .i64 a2.T) := ⟨_, rfl⟩
                  rw [← h302] at h297
                  have c299 := Cx.ofUp C.sb u298
                  replace C := C.ofc c299 h275
                  refine W.e ?_
                  obtain rfl := Option.some.inj h281
                  exact ⟨_, _, _, C, ⟨rfl, trivial⟩, h297, h275⟩
                · refine cw_f rfl b293 (cw_skip ?_)
                  obtain rfl := Option.some.inj h281
                  exact ⟨_, _, _, C, ⟨rfl, trivial⟩, h273, h275⟩
            · rintro ρ w304 ⟨S303, fp306, cs308, C, h309, h305, h307⟩
              refine h309.cw fun ρ => ?_
              clear h309
              refine cw_seq fun K310 k311 => ?_
              refine cw_region (sv (mvv v0 rfl) (sv (rv_nilcheck rfl h305.ptr) (sv (rv_fieldAddr (b := pb v0) (o := 0) st62 rfl h305.ptr) ?_)))
              obtain ⟨y312, h313, h⟩ := pur_some h
              have h318 : ∀ b, b ∈ fp306 → ¬ S303 b := fun b hb => (h305.lt b hb).2
              refine sc (dc_ofield (i := 3) (k := kB) (h1 := rfl) (a' := true) h305 rfl ag4 rfl rfl (rep_sc.2 rfl) fun w314 h315 u316 => ?_)
              replace h315 : Ob 62 (marigraphref11_Head.fs ({ o278 with Any := true } : marigraphref11_Head)) S303 w314 v0 (cs308.set 3 (.bool true)) fp306 := h315
              rw [h313] at h315
              obtain ⟨cs319, h320⟩ : ∃ cs, cs = cs308.set 3 (.bool true) := ⟨_, rfl⟩
              rw [← h320] at h315
              have c317 := Cx.ofUp C.sb u316
              replace C := C.ofc c317 h307
              refine W.e (k311 _ _ ?_)
              refine cw_seq fun K321 k322 => ?_
              refine cw_region (sv (asv (.int .i64 0) rfl) (W.e (k322 _ _ (cw_ret ?_))))
              obtain rfl := Option.some.inj h
              exact ⟨_, rfl, _, _, _, rfl, C, h315, h307⟩

end Go.Proofs.Ytconkjamlhfneaa
