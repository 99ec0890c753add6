/- What each function computes, and that the program computes it (part 1). Printed by gen.py, a program of this session. -/
import Derived.Test.YtconkjamlhfneaaW0
set_option linter.unusedVariables false
namespace Go.Proofs.Ytconkjamlhfneaa
open Go Go.Mg
noncomputable def marigraphref04_Same.b2 (a0 : List api_Point) (a1 : List api_Point) (x20 : Int) : Option ((Int) ⊕ ((Unit) ⊕ (Bool))) :=
  (bif (decide (x20 < (a0.length : Int))) then ((at_ a0 x20).bind fun y35 => ((at_ a1 x20).bind fun y40 => (bif (!((y35.T == y40.T) && ((y35.V == y40.V) && true))) then some (.inr (.inr false)) else (pur (IntKind.i64.wrap (x20 + (1 : Int))) fun y49 => some (.inl y49))))) else some (.inr (.inl ())))
noncomputable def marigraphref04_Same (a0 : List api_Point) (a1 : List api_Point) : Option Bool :=
  (bif ((a0.length : Int) != (a1.length : Int)) then some false else ((iter (fun s : Int => marigraphref04_Same.b2 a0 a1 s) (0 : Int)).bind (Sum.elim (fun o10n => some true) (fun q => some q))))
set_option maxRecDepth 100000 in
set_option maxHeartbeats 4000000 in
theorem marigraphref04_Same_w {S : Nat → Prop} {w : World} {a0 : List api_Point} {a1 : List api_Point} {v0 v1 : Value} {r : Bool} (hS : Sb S w) (h0 : Sl (kSl api_Point.k) S w v0 a0) (h1 : Sl (kSl api_Point.k) S w v1 a1) (h : marigraphref04_Same a0 a1 = some r) :
    Calls Try.prog 15 (List.toArray [v0, v1]) w fun e w1 => ∃ S1, e = .returned (.bool r) ∧ Cx No S w S1 w1 := by
  refine enter Try.func15 rfl (by kernel_rfl) rfl ?_
  have C := Cx.refl (F := No) hS
  unfold marigraphref04_Same at h
  refine cw_seq fun K1 k2 => ?_
  refine cw_region (sv (asv (.bool false) rfl) (W.e (k2 _ _ ?_)))
  refine cw_seq fun K3 k4 => ?_
  refine cw_seq fun K5 k6 => ?_
  refine cw_region (sv (mvv v0 rfl) (sv (rv_lenS el33 h0 rfl) (sv (mvv v1 rfl) (sv (rv_lenS el33 h1 rfl) (sv (rv_neq rfl rfl) (W.e (k6 _ _ ?_)))))))
  rcases bif_some h with ⟨b7, h⟩ | ⟨b7, h⟩
  · refine cw_t rfl b7 ?_
    refine cw_seq fun K8 k9 => ?_
    refine cw_region (sv (asv (.bool false) rfl) (W.e (k9 _ _ (cw_ret ?_))))
    obtain rfl := Option.some.inj h
    exact ⟨_, rfl, _, rfl, C⟩
  · refine cw_f rfl b7 (cw_skip (k4 _ _ ?_))
    obtain ⟨o10, h13, h⟩ := bnds_some h
    refine cw_seq' (fun ρ w1 => ∃ o10n, o10 = (.inl o10n) ∧ ∃ S1, Cx No S w S1 w1 ∧ Has ρ []) ?_ ?_
    · refine cw_seq fun K14 k15 => ?_
      refine cw_region (sv (asv (.int .i64 0) rfl) (W.e (k15 _ _ (cw_block ?_))))
      refine cw_iter h13 (fun s ρ w1 => ∃ S1, Cx No S w S1 w1 ∧ Has ρ [(0, v0), (1, v1), (5, .int .i64 s)] ∧ Sl (kSl api_Point.k) S1 w1 v0 a0 ∧ Sl (kSl api_Point.k) S1 w1 v1 a1) ⟨_, C, ⟨rfl, rfl, rfl, trivial⟩, h0, h1⟩ ?_
      rintro x20 q16 ρ w18 ⟨S17, C, h19, h0, h1⟩ h22 h21
      refine h19.cw fun ρ => ?_
      clear h19
      replace h22 : marigraphref04_Same.b2 a0 a1 x20 = some q16 := h22
      unfold marigraphref04_Same.b2 at h22
      refine cw_seq fun K23 k24 => ?_
      refine cw_seq fun K25 k26 => ?_
      refine cw_region (sv (mvv (.int .i64 x20) rfl) (sv (mvv v0 rfl) (sv (rv_lenS el33 h0 rfl) (sv (rv_lss rfl rfl) (W.e (k26 _ _ ?_))))))
      rcases bif_some h22 with ⟨b27, h22⟩ | ⟨b27, h22⟩
      · refine cw_t rfl b27 (cw_skip (k24 _ _ ?_))
        refine cw_seq fun K28 k29 => ?_
        refine cw_block ?_
        refine cw_seq fun K30 k31 => ?_
        refine cw_drawU (.one 0 true (.one 1 true (.one 2 true (.one 3 true (.one 4 true (.one 5 true (.one 6 true (.one 7 true (.one 8 true .done))))))))) [(3, [9]), (7, [9])] [] (fun c => bif Nat.beq c 9 then (fun _ => True) else No) fol (by kernel_rfl) fun w32 u33 => ?_
        replace h0 := h0.nw u33
        replace h1 := h1.nw u33
        replace C := C.new u33
        have m34 := Sm.refl (fun _ => True) w32
        refine mtv rfl rfl (mvv v0 rfl) (mtv rfl rfl (mvv (.int .i64 x20) rfl) ?_)
        obtain ⟨y35, h36, h22⟩ := bnd_some h22
        refine mtv rfl rfl (rv_index el33 h0 rfl rfl h36) ?_
        obtain ⟨v37, h38, h39⟩ := rw_loadA (P := Try.prog) el33 h0 h36
        obtain rfl := api_Point.o.1 h38
        refine mtr rfl rfl ⟨m34, trivial⟩ (fun w' hq => h39 w' (hq.1.mono fun _ _ => trivial) rfl) (mtv rfl rfl (mvv v1 rfl) (mtv rfl rfl (mvv (.int .i64 x20) rfl) ?_))
        obtain ⟨y40, h41, h22⟩ := bnd_some h22
        refine mtv rfl rfl (rv_index el33 h1 rfl rfl h41) ?_
        obtain ⟨v42, h43, h44⟩ := rw_loadA (P := Try.prog) el33 h1 h41
        obtain rfl := api_Point.o.1 h43
        refine mtr rfl rfl ⟨m34, trivial⟩ (fun w' hq => h44 w' (hq.1.mono fun _ _ => trivial) rfl) (mtv rfl rfl (rv_aneq eqg29 rfl rfl (eqs29 y35.T y35.V y40.T y40.V)) (MT.e (k31 _ _ ?_)))
        rcases bif_some h22 with ⟨b45, h22⟩ | ⟨b45, h22⟩
        · refine cw_t rfl b45 ?_
          refine cw_seq fun K46 k47 => ?_
          refine cw_region (sv (asv (.bool false) rfl) (W.e (k47 _ _ (cw_ret ?_))))
          obtain rfl := Option.some.inj h22
          have h48 := congrArg some h21
          obtain rfl := Option.some.inj h48
          replace h := h.2 _ rfl
          obtain rfl := Option.some.inj h
          exact ⟨_, rfl, _, rfl, C⟩
        · refine cw_f rfl b45 (cw_skip (k29 _ _ (cw_region (sv (mvv (.int .i64 x20) rfl) ?_))))
          obtain ⟨y49, h50, h22⟩ := pur_some h22
          refine sv (rv_add rfl rfl h50) (sv (asv (.int .i64 y49) rfl) (W.e ?_))
          obtain rfl := Option.some.inj h22
          exact ⟨_, rfl, ⟨_, C, ⟨rfl, rfl, rfl, trivial⟩, h0, h1⟩⟩
      · refine cw_f rfl b27 (cw_exit ?_)
        obtain rfl := Option.some.inj h22
        have h51 := congrArg some h21
        obtain rfl := Option.some.inj h51
        exact ⟨_, rfl, ⟨_, C, trivial⟩⟩
    · rintro ρ w53 ⟨o10n, rfl, ⟨S52, C, h54⟩⟩
      replace h := h.1 _ rfl
      refine h54.cw fun ρ => ?_
      clear h54
      refine cw_seq fun K55 k56 => ?_
      refine cw_region (sv (asv (.bool true) rfl) (W.e (k56 _ _ (cw_ret ?_))))
      obtain rfl := Option.some.inj h
      exact ⟨_, rfl, _, rfl, C⟩

noncomputable def marigraphref09_Same.b2 (a0 : List api_Chunk) (a1 : List api_Chunk) (x20 : Int) : Option ((Int) ⊕ ((Unit) ⊕ (Bool))) :=
  (bif (decide (x20 < (a0.length : Int))) then ((((at_ a0 x20).bind fun y39 => ((at_ a1 x20).bind fun y46 => (bif (y39.Id != y46.Id) then some true else ((at_ a0 x20).bind fun y54 => ((at_ a1 x20).bind fun y61 => ((marigraphref04_Same y54.Points y61.Points).bind fun y68 => some (!y68))))))).bind fun o32 => (bif o32 then some (.inr (.inr (.inr false))) else some (.inl ()))).bind (Sum.elim (fun o28n => (pur (IntKind.i64.wrap (x20 + (1 : Int))) fun y85 => some (.inl y85))) (fun q => some q))) else some (.inr (.inl ())))
noncomputable def marigraphref09_Same (a0 : List api_Chunk) (a1 : List api_Chunk) : Option Bool :=
  (bif ((a0.length : Int) != (a1.length : Int)) then some false else ((iter (fun s : Int => marigraphref09_Same.b2 a0 a1 s) (0 : Int)).bind (Sum.elim (fun o10n => some true) (fun q => some q))))
set_option maxRecDepth 100000 in
set_option maxHeartbeats 4000000 in
theorem marigraphref09_Same_w {S : Nat → Prop} {w : World} {a0 : List api_Chunk} {a1 : List api_Chunk} {v0 v1 : Value} {r : Bool} (hS : Sb S w) (h0 : Sl (kSl api_Chunk.k) S w v0 a0) (h1 : Sl (kSl api_Chunk.k) S w v1 a1) (h : marigraphref09_Same a0 a1 = some r) :
    Calls Try.prog 23 (List.toArray [v0, v1]) w fun e w1 => ∃ S1, e = .returned (.bool r) ∧ Cx No S w S1 w1 := by
  refine enter Try.func23 rfl (by kernel_rfl) rfl ?_
  have C := Cx.refl (F := No) hS
  unfold marigraphref09_Same at h
  refine cw_seq fun K1 k2 => ?_
  refine cw_region (sv (asv (.bool false) rfl) (W.e (k2 _ _ ?_)))
  refine cw_seq fun K3 k4 => ?_
  refine cw_seq fun K5 k6 => ?_
  refine cw_region (sv (mvv v0 rfl) (sv (rv_lenS el31 h0 rfl) (sv (mvv v1 rfl) (sv (rv_lenS el31 h1 rfl) (sv (rv_neq rfl rfl) (W.e (k6 _ _ ?_)))))))
  rcases bif_some h with ⟨b7, h⟩ | ⟨b7, h⟩
  · refine cw_t rfl b7 ?_
    refine cw_seq fun K8 k9 => ?_
    refine cw_region (sv (asv (.bool false) rfl) (W.e (k9 _ _ (cw_ret ?_))))
    obtain rfl := Option.some.inj h
    exact ⟨_, rfl, _, rfl, C⟩
  · refine cw_f rfl b7 (cw_skip (k4 _ _ ?_))
    obtain ⟨o10, h13, h⟩ := bnds_some h
    refine cw_seq' (fun ρ w1 => ∃ o10n, o10 = (.inl o10n) ∧ ∃ S1, Cx No S w S1 w1 ∧ Has ρ []) ?_ ?_
    · refine cw_seq fun K14 k15 => ?_
      refine cw_region (sv (asv (.int .i64 0) rfl) (W.e (k15 _ _ (cw_block ?_))))
      refine cw_iter h13 (fun s ρ w1 => ∃ S1, Cx No S w S1 w1 ∧ Has ρ [(0, v0), (1, v1), (5, .int .i64 s)] ∧ Sl (kSl api_Chunk.k) S1 w1 v0 a0 ∧ Sl (kSl api_Chunk.k) S1 w1 v1 a1) ⟨_, C, ⟨rfl, rfl, rfl, trivial⟩, h0, h1⟩ ?_
      rintro x20 q16 ρ w18 ⟨S17, C, h19, h0, h1⟩ h22 h21
      refine h19.cw fun ρ => ?_
      clear h19
      replace h22 : marigraphref09_Same.b2 a0 a1 x20 = some q16 := h22
      unfold marigraphref09_Same.b2 at h22
      refine cw_seq fun K23 k24 => ?_
      refine cw_seq fun K25 k26 => ?_
      refine cw_region (sv (mvv (.int .i64 x20) rfl) (sv (mvv v0 rfl) (sv (rv_lenS el31 h0 rfl) (sv (rv_lss rfl rfl) (W.e (k26 _ _ ?_))))))
      rcases bif_some h22 with ⟨b27, h22⟩ | ⟨b27, h22⟩
      · refine cw_t rfl b27 (cw_skip (k24 _ _ ?_))
        obtain ⟨o28, h31, h22⟩ := bnds_some h22
        refine cw_seq' (fun ρ w1 => ∃ o28n, o28 = (.inl o28n) ∧ ∃ S1, Cx No S w S1 w1 ∧ Has ρ [(0, v0), (1, v1), (5, .int .i64 x20)] ∧ Sl (kSl api_Chunk.k) S1 w1 v0 a0 ∧ Sl (kSl api_Chunk.k) S1 w1 v1 a1) ?_ ?_
        · refine cw_block ?_
          obtain ⟨o32, h35, h31⟩ := bnd_some h31
          refine cw_seq' (fun ρ w1 => ∃ S1, Cx No S w S1 w1 ∧ Has ρ [(0, v0), (1, v1), (5, .int .i64 x20), (41, .bool o32)] ∧ Sl (kSl api_Chunk.k) S1 w1 v0 a0 ∧ Sl (kSl api_Chunk.k) S1 w1 v1 a1) ?_ ?_
          · refine cw_drawU (.one 0 true (.one 1 true (.one 2 true (.one 3 true (.one 4 true (.one 5 true (.one 6 true (.one 7 true (.one 8 true (.one 9 true (.one 10 true (.one 11 true (.one 12 true (.one 13 true (.one 14 true (.one 15 true (.one 16 true (.one 17 true (.one 18 true (.one 19 true (.one 20 true (.one 21 true (.one 22 false (.one 23 true (.one 24 true .done))))))))))))))))))))))))) [(4, [9]), (9, [9]), (16, [9]), (21, [9])] [(22, [9])] (fun c => bif Nat.beq c 9 then (fun _ => True) else No) fol (by kernel_rfl) fun w36 u37 => ?_
            replace h0 := h0.nw u37
            replace h1 := h1.nw u37
            replace C := C.new u37
            have h0d := h0
            have h1d := h1
            have m38 := Sm.refl (fun _ => True) w36
            refine mtv rfl rfl (mvv v0 rfl) (mtv rfl rfl (mvv (.int .i64 x20) rfl) ?_)
            obtain ⟨y39, h40, h35⟩ := bnd_some h35
            refine mtv rfl rfl (rv_index el31 h0 rfl rfl h40) (mtv rfl rfl (rv_fieldAddr st35 rfl rfl) ?_)
            obtain ⟨cs41, h42, h43⟩ := Sl.cells h0 h40
            obtain ⟨c44, rfl, g45⟩ := api_Chunk.r.1 h42
            refine mtr rfl rfl ⟨m38, trivial⟩ (fun w' hq => rw_el1 (off := 0) ag3 (h43 w' (hq.1.mono fun _ _ => trivial)) rfl rfl) (mtv rfl rfl (mvv v1 rfl) (mtv rfl rfl (mvv (.int .i64 x20) rfl) ?_))
            obtain ⟨y46, h47, h35⟩ := bnd_some h35
            refine mtv rfl rfl (rv_index el31 h1 rfl rfl h47) (mtv rfl rfl (rv_fieldAddr st35 rfl rfl) ?_)
            obtain ⟨cs48, h49, h50⟩ := Sl.cells h1 h47
            obtain ⟨c51, rfl, g52⟩ := api_Chunk.r.1 h49
            refine mtr rfl rfl ⟨m38, trivial⟩ (fun w' hq => rw_el1 (off := 0) ag3 (h50 w' (hq.1.mono fun _ _ => trivial)) rfl rfl) (mtv rfl rfl (rv_neq rfl rfl) (mtv rfl rfl (mvv (.bool (y39.Id != y46.Id)) rfl) ?_))
            rcases bif_some h35 with ⟨b53, h35⟩ | ⟨b53, h35⟩
            · refine MT.n rfl rfl (gn rfl rfl rfl b53) trivial (MT.n rfl rfl (gn rfl rfl rfl b53) trivial (MT.n rfl rfl (gn rfl rfl rfl b53) trivial (MT.n rfl rfl (gn rfl rfl rfl b53) trivial (MT.n rfl rfl (gn rfl rfl rfl b53) ⟨m38, trivial⟩ (MT.n rfl rfl (gn rfl rfl rfl b53) trivial (MT.n rfl rfl (gn rfl rfl rfl b53) trivial (MT.n rfl rfl (gn rfl rfl rfl b53) trivial (MT.n rfl rfl (gn rfl rfl rfl b53) trivial (MT.n rfl rfl (gn rfl rfl rfl b53) ⟨m38, trivial⟩ (MT.m rfl rfl (gn rfl rfl rfl b53) ⟨m38, trivial⟩ (MT.n rfl rfl (gn rfl rfl rfl b53) trivial ?_)))))))))))
              refine mtv rfl rfl (ptk (.bool true) rfl b53 rfl) (MT.e ?_)
              obtain rfl := Option.some.inj h35
              exact ⟨_, C, ⟨rfl, rfl, rfl, rfl, trivial⟩, h0, h1⟩
            · refine MT.vv rfl rfl (gy rfl rfl rfl b53) (mvv v0 rfl) (MT.vv rfl rfl (gy rfl rfl rfl b53) (mvv (.int .i64 x20) rfl) ?_)
              obtain ⟨y54, h55, h35⟩ := bnd_some h35
              refine MT.vv rfl rfl (gy rfl rfl rfl b53) (rv_index el31 h0 rfl rfl h55) (MT.vv rfl rfl (gy rfl rfl rfl b53) (rv_fieldAddr st35 rfl rfl) ?_)
              obtain ⟨cs56, h57, h58⟩ := Sl.cells h0 h55
              obtain ⟨c59, rfl, g60⟩ := api_Chunk.r.1 h57
              refine MT.r rfl rfl (gy rfl rfl rfl b53) ⟨m38, trivial⟩ (fun w' hq => rw_el1 (off := 1) ag33 (h58 w' (hq.1.mono fun _ _ => trivial)) rfl rfl) (MT.vv rfl rfl (gy rfl rfl rfl b53) (mvv v1 rfl) (MT.vv rfl rfl (gy rfl rfl rfl b53) (mvv (.int .i64 x20) rfl) ?_))
              obtain ⟨y61, h62, h35⟩ := bnd_some h35
              refine MT.vv rfl rfl (gy rfl rfl rfl b53) (rv_index el31 h1 rfl rfl h62) (MT.vv rfl rfl (gy rfl rfl rfl b53) (rv_fieldAddr st35 rfl rfl) ?_)
              obtain ⟨cs63, h64, h65⟩ := Sl.cells h1 h62
              obtain ⟨c66, rfl, g67⟩ := api_Chunk.r.1 h64
              refine MT.r rfl rfl (gy rfl rfl rfl b53) ⟨m38, trivial⟩ (fun w' hq => rw_el1 (off := 1) ag33 (h65 w' (hq.1.mono fun _ _ => trivial)) rfl rfl) ?_
              obtain ⟨y68, h69, h35⟩ := bnd_some h35
              refine MT.c rfl rfl (gy rfl rfl rfl b53) (dc_call (vs := [c59, c66]) can15 rfl ?_)
              refine (marigraphref04_Same_w C.sb g60 g67 h69).mono ?_
              rintro _ w70 ⟨S71, rfl, c72⟩
              refine ⟨_, rfl, ?_⟩
              replace h0 := h0.cx c72
              replace h1 := h1.cx c72
              replace C := C.trans c72
              have z73 := (c72.up).size
              have m74 := m38.nx c72.up (by omega)
              refine ⟨⟨m74, trivial⟩, ?_⟩
              refine MT.vv rfl rfl (gy rfl rfl rfl b53) (rv_not rfl) (mtv rfl rfl (pfk (.bool (!y68)) rfl b53 rfl) (MT.e ?_))
              obtain rfl := Option.some.inj h35
              exact ⟨_, C, ⟨rfl, rfl, rfl, rfl, trivial⟩, h0, h1⟩
          · rintro ρ w76 ⟨S75, C, h77, h0, h1⟩
            refine h77.cw fun ρ => ?_
            clear h77
            rcases bif_some h31 with ⟨b78, h31⟩ | ⟨b78, h31⟩
            · refine cw_t rfl b78 ?_
              refine cw_seq fun K79 k80 => ?_
              refine cw_region (sv (asv (.bool false) rfl) (W.e (k80 _ _ (cw_ret ?_))))
              obtain rfl := Option.some.inj h31
              replace h22 := h22.2 _ rfl
              obtain rfl := Option.some.inj h22
              have h81 := congrArg some h21
              obtain rfl := Option.some.inj h81
              replace h := h.2 _ rfl
              obtain rfl := Option.some.inj h
              exact ⟨_, rfl, _, rfl, C⟩
            · refine cw_f rfl b78 (cw_skip ?_)
              obtain rfl := Option.some.inj h31
              exact ⟨_, rfl, ⟨_, C, ⟨rfl, rfl, rfl, trivial⟩, h0, h1⟩⟩
        · rintro ρ w83 ⟨o28n, rfl, ⟨S82, C, h84, h0, h1⟩⟩
          replace h22 := h22.1 _ rfl
          refine h84.cw fun ρ => ?_
          clear h84
          refine cw_region (sv (mvv (.int .i64 x20) rfl) ?_)
          obtain ⟨y85, h86, h22⟩ := pur_some h22
          refine sv (rv_add rfl rfl h86) (sv (asv (.int .i64 y85) rfl) (W.e ?_))
          obtain rfl := Option.some.inj h22
          exact ⟨_, rfl, ⟨_, C, ⟨rfl, rfl, rfl, trivial⟩, h0, h1⟩⟩
      · refine cw_f rfl b27 (cw_exit ?_)
        obtain rfl := Option.some.inj h22
        have h87 := congrArg some h21
        obtain rfl := Option.some.inj h87
        exact ⟨_, rfl, ⟨_, C, trivial⟩⟩
    · rintro ρ w89 ⟨o10n, rfl, ⟨S88, C, h90⟩⟩
      replace h := h.1 _ rfl
      refine h90.cw fun ρ => ?_
      clear h90
      refine cw_seq fun K91 k92 => ?_
      refine cw_region (sv (asv (.bool true) rfl) (W.e (k92 _ _ (cw_ret ?_))))
      obtain rfl := Option.some.inj h
      exact ⟨_, rfl, _, rfl, C⟩

noncomputable def marigraphlaw11_shown  : Option Bool :=
  ((head_New (10 : Int)).bind fun y5 => (((bif y5.1.isNone then some true else some (y5.2 != (0 : Int))).bind fun o20 => (bif o20 then some (.inr false) else some (.inl ()))).bind (Sum.elim (fun o16n => ((head_Head_Add y5.1 (0 : Int) (api_Point.mk (20 : Int) (0 : Int))).bind fun y36 => ((head_Head_Add y36.2 (0 : Int) (api_Point.mk (12 : Int) (0 : Int))).bind fun y47 => ((head_Head_Add y47.2 (0 : Int) (api_Point.mk (9 : Int) (0 : Int))).bind fun y58 => ((head_Head_Add y58.2 (0 : Int) (api_Point.mk (30 : Int) (0 : Int))).bind fun y69 => ((head_Head_Seal y69.2).bind fun y82 => ((bif (y36.1 == (0 : Int)) then (bif (y47.1 == (0 : Int)) then (bif (y58.1 == (110 : Int)) then (bif (y69.1 == (0 : Int)) then ((marigraphref09_Same y82.1 ([(api_Chunk.mk (0 : Int) ([(api_Point.mk (12 : Int) (0 : Int))] : List api_Point))] : List api_Chunk)).bind fun y115 => (bif y115 then ((head_Head_Add y82.2 (0 : Int) (api_Point.mk (19 : Int) (0 : Int))).bind fun y121 => some ((y121.1 == (110 : Int)), y121.2)) else some (false, y82.2))) else some (false, y82.2)) else some (false, y82.2)) else some (false, y82.2)) else some (false, y82.2)).bind fun o95 => some o95.1))))))) (fun q => some q))))
set_option maxRecDepth 100000 in
set_option maxHeartbeats 4000000 in
theorem marigraphlaw11_shown_w {S : Nat → Prop} {w : World}  {r : Bool} (hS : Sb S w)  (h : marigraphlaw11_shown = some r) :
    Calls Try.prog 10 (List.toArray []) w fun e w1 => ∃ S1, e = .returned (.bool r) ∧ Cx No S w S1 w1 := by
  refine enter Try.func10 rfl (by kernel_rfl) rfl ?_
  have C := Cx.refl (F := No) hS
  unfold marigraphlaw11_shown at h
  refine cw_seq fun K1 k2 => ?_
  refine cw_region (sv (asv (.bool false) rfl) (W.e (k2 _ _ ?_)))
  refine cw_seq fun K3 k4 => ?_
  refine cw_region ?_
  obtain ⟨y5, h6, h⟩ := bnd_some h
  refine sc (dc_call (vs := [.int .i64 10]) can11 rfl ?_)
  refine (head_New_w C.sb  h6).mono ?_
  rintro _ w7 ⟨S8, v10, cs11, fp12, rfl, c9, h13, h14⟩
  refine ⟨_, rfl, ?_⟩
  have h15 : ∀ b, b ∈ fp12 → w.heap.size ≤ b := fun b hb => Nat.le_trans C.up.size (h14 b hb)
  replace C := C.trans c9
  refine sv (mvv (.tuple (List.toArray [v10, .int .i64 y5.2])) rfl) (sv (rv_extract rfl rfl) (sv (rv_extract rfl rfl) (sv (asv v10 rfl) (sv (asv (.int .i64 y5.2) rfl) (W.e (k4 _ _ ?_))))))
  obtain ⟨o16, h19, h⟩ := bnds_some h
  refine cw_seq' (fun ρ w1 => ∃ o16n, o16 = (.inl o16n) ∧ ∃ S1, Cx No S w S1 w1 ∧ Has ρ [(1, v10)] ∧ Obo 67 head_Head.fs S1 w1 v10 y5.1 cs11 fp12) ?_ ?_
  · obtain ⟨o20, h23, h19⟩ := bnd_some h19
    refine cw_seq' (fun ρ w1 => ∃ S1, Cx No S w S1 w1 ∧ Has ρ [(1, v10), (17, .bool o20)] ∧ Obo 67 head_Head.fs S1 w1 v10 y5.1 cs11 fp12) ?_ ?_
    · refine cw_region (sv (mvv v10 rfl) (sv (rv_nileq Try.underlying23 rfl rfl h13.ne) (sv (mvv (.bool y5.1.isNone) rfl) ?_)))
      rcases bif_some h23 with ⟨b24, h23⟩ | ⟨b24, h23⟩
      · refine W.n (gn rfl rfl rfl b24) (W.n (gn rfl rfl rfl b24) (sv (ptk (.bool true) rfl b24 rfl) (W.e ?_)))
        obtain rfl := Option.some.inj h23
        exact ⟨_, C, ⟨rfl, rfl, trivial⟩, h13⟩
      · refine W.v (gy rfl rfl rfl b24) (mvv (.int .i64 y5.2) rfl) (W.v (gy rfl rfl rfl b24) (rv_neq rfl rfl) (sv (pfk (.bool (y5.2 != (0 : Int))) rfl b24 rfl) (W.e ?_)))
        obtain rfl := Option.some.inj h23
        exact ⟨_, C, ⟨rfl, rfl, trivial⟩, h13⟩
    · rintro ρ w26 ⟨S25, C, h27, h13⟩
      refine h27.cw fun ρ => ?_
      clear h27
      rcases bif_some h19 with ⟨b28, h19⟩ | ⟨b28, h19⟩
      · refine cw_t rfl b28 ?_
        refine cw_seq fun K29 k30 => ?_
        refine cw_region (sv (asv (.bool false) rfl) (W.e (k30 _ _ (cw_ret ?_))))
        obtain rfl := Option.some.inj h19
        replace h := h.2 _ rfl
        obtain rfl := Option.some.inj h
        exact ⟨_, rfl, _, rfl, C⟩
      · refine cw_f rfl b28 (cw_skip ?_)
        obtain rfl := Option.some.inj h19
        exact ⟨_, rfl, ⟨_, C, ⟨rfl, trivial⟩, h13⟩⟩
  · rintro ρ w32 ⟨o16n, rfl, ⟨S31, C, h33, h13⟩⟩
    replace h := h.1 _ rfl
    refine h33.cw fun ρ => ?_
    clear h33
    refine cw_seq fun K34 k35 => ?_
    refine cw_region (sv (mvv v10 rfl) (sv (rv_build (r := [.int .i64 20, .int .i64 0]) st29 zr29 rfl) ?_))
    obtain ⟨y36, h37, h⟩ := bnd_some h
    refine sc (dc_call (vs := [v10, .int .i64 0, .agg (List.toArray [.int .i64 20, .int .i64 0])]) can12 rfl ?_)
    refine (head_Head_Add_w C.sb h13 ((api_Point.o (x := (api_Point.mk (20 : Int) (0 : Int)))).2 rfl) h37).mono ?_
    rintro _ w38 ⟨S39, cs41, fp42, rfl, c40, h43, h44⟩
    refine ⟨_, rfl, ?_⟩
    have h45 : ∀ b, b ∈ fp12 → ¬ S31 b := fun b hb => (h13.lt b hb).2
    have h46 : ∀ b, b ∈ fp42 → w.heap.size ≤ b := fun b hb => (h44 b hb).elim (h15 b) (fun hl => Nat.le_trans C.up.size hl)
    replace C := C.ofc c40 (fun b hb => .inr (h15 b hb))
    refine sv (mvv v10 rfl) (sv (rv_build (r := [.int .i64 12, .int .i64 0]) st29 zr29 rfl) ?_)
    obtain ⟨y47, h48, h⟩ := bnd_some h
    refine sc (dc_call (vs := [v10, .int .i64 0, .agg (List.toArray [.int .i64 12, .int .i64 0])]) can12 rfl ?_)
    refine (head_Head_Add_w C.sb h43 ((api_Point.o (x := (api_Point.mk (12 : Int) (0 : Int)))).2 rfl) h48).mono ?_
    rintro _ w49 ⟨S50, cs52, fp53, rfl, c51, h54, h55⟩
    refine ⟨_, rfl, ?_⟩
    have h56 : ∀ b, b ∈ fp42 → ¬ S39 b := fun b hb => (h43.lt b hb).2
    have h57 : ∀ b, b ∈ fp53 → w.heap.size ≤ b := fun b hb => (h55 b hb).elim (h46 b) (fun hl => Nat.le_trans C.up.size hl)
    replace C := C.ofc c51 (fun b hb => .inr (h46 b hb))
    refine sv (mvv v10 rfl) (sv (rv_build (r := [.int .i64 9, .int .i64 0]) st29 zr29 rfl) ?_)
    obtain ⟨y58, h59, h⟩ := bnd_some h
    refine sc (dc_call (vs := [v10, .int .i64 0, .agg (List.toArray [.int .i64 9, .int .i64 0])]) can12 rfl ?_)
    refine (head_Head_Add_w C.sb h54 ((api_Point.o (x := (api_Point.mk (9 : Int) (0 : Int)))).2 rfl) h59).mono ?_
    rintro _ w60 ⟨S61, cs63, fp64, rfl, c62, h65, h66⟩
    refine ⟨_, rfl, ?_⟩
    have h67 : ∀ b, b ∈ fp53 → ¬ S50 b := fun b hb => (h54.lt b hb).2
    have h68 : ∀ b, b ∈ fp64 → w.heap.size ≤ b := fun b hb => (h66 b hb).elim (h57 b) (fun hl => Nat.le_trans C.up.size hl)
    replace C := C.ofc c62 (fun b hb => .inr (h57 b hb))
    refine sv (mvv v10 rfl) (sv (rv_build (r := [.int .i64 30, .int .i64 0]) st29 zr29 rfl) ?_)
    obtain ⟨y69, h70, h⟩ := bnd_some h
    refine sc (dc_call (vs := [v10, .int .i64 0, .agg (List.toArray [.int .i64 30, .int .i64 0])]) can12 rfl ?_)
    refine (head_Head_Add_w C.sb h65 ((api_Point.o (x := (api_Point.mk (30 : Int) (0 : Int)))).2 rfl) h70).mono ?_
    rintro _ w71 ⟨S72, cs74, fp75, rfl, c73, h76, h77⟩
    refine ⟨_, rfl, ?_⟩
    have h78 : ∀ b, b ∈ fp64 → ¬ S61 b := fun b hb => (h65.lt b hb).2
    have h79 : ∀ b, b ∈ fp75 → w.heap.size ≤ b := fun b hb => (h77 b hb).elim (h68 b) (fun hl => Nat.le_trans C.up.size hl)
    replace C := C.ofc c73 (fun b hb => .inr (h68 b hb))
    refine sv (asv (.int .i64 y36.1) rfl) (sv (asv (.int .i64 y47.1) rfl) (sv (asv (.int .i64 y58.1) rfl) (sv (asv (.int .i64 y69.1) rfl) (W.e (k35 _ _ ?_)))))
    refine cw_seq fun K80 k81 => ?_
    refine cw_region (sv (mvv v10 rfl) ?_)
    obtain ⟨y82, h83, h⟩ := bnd_some h
    refine sc (dc_call (vs := [v10]) can14 rfl ?_)
    refine (head_Head_Seal_w C.sb h76 h83).mono ?_
    rintro _ w84 ⟨S85, v87, cs89, fp90, rfl, c86, h88, h91, h92⟩
    refine ⟨_, rfl, ?_⟩
    have h93 : ∀ b, b ∈ fp75 → ¬ S72 b := fun b hb => (h76.lt b hb).2
    have h94 : ∀ b, b ∈ fp90 → w.heap.size ≤ b := fun b hb => (h92 b hb).elim (h79 b) (fun hl => Nat.le_trans C.up.size hl)
    replace C := C.ofc c86 (fun b hb => .inr (h79 b hb))
    refine sv (asv v87 rfl) (W.e (k81 _ _ ?_))
    obtain ⟨o95, h98, h⟩ := bnd_some h
    refine cw_seq' (fun ρ w1 => ∃ S1, Cx No S w S1 w1 ∧ Has ρ [(0, .bool o95.1)]) ?_ ?_
    · refine cw_region (sv (mvv (.int .i64 y36.1) rfl) (sv (rv_eql rfl rfl) (sv (mvv (.bool (y36.1 == (0 : Int))) rfl) ?_)))
      rcases bif_some h98 with ⟨b99, h98⟩ | ⟨b99, h98⟩
      · refine W.v (gy rfl rfl rfl b99) (mvv (.int .i64 y47.1) rfl) (W.v (gy rfl rfl rfl b99) (rv_eql rfl rfl) (sv (ptk (.bool (y47.1 == (0 : Int))) rfl b99 rfl) (sv (mvv (.bool (y47.1 == (0 : Int))) rfl) ?_)))
        rcases bif_some h98 with ⟨b100, h98⟩ | ⟨b100, h98⟩
        · refine W.v (gy rfl rfl rfl b100) (mvv (.int .i64 y58.1) rfl) (W.v (gy rfl rfl rfl b100) (rv_eql rfl rfl) (sv (ptk (.bool (y58.1 == (110 : Int))) rfl b100 rfl) (sv (mvv (.bool (y58.1 == (110 : Int))) rfl) ?_)))
          rcases bif_some h98 with ⟨b101, h98⟩ | ⟨b101, h98⟩
          · refine W.v (gy rfl rfl rfl b101) (mvv (.int .i64 y69.1) rfl) (W.v (gy rfl rfl rfl b101) (rv_eql rfl rfl) (sv (ptk (.bool (y69.1 == (0 : Int))) rfl b101 rfl) (sv (mvv (.bool (y69.1 == (0 : Int))) rfl) ?_)))
            rcases bif_some h98 with ⟨b102, h98⟩ | ⟨b102, h98⟩
            · refine W.v (gy rfl rfl rfl b102) (mvv v87 rfl) (W.v (gy rfl rfl rfl b102) (rv_build (r := [.int .i64 12, .int .i64 0]) st29 zr29 rfl) ?_)
              refine W.c (gy rfl rfl rfl b102) (dc_lit (vs := [.agg (List.toArray [.int .i64 12, .int .i64 0])]) (xs := ([(api_Point.mk (12 : Int) (0 : Int))] : List api_Point)) (base := w.heap.size) el33 rfl rfl (.cons ((api_Point.o (x := (api_Point.mk (12 : Int) (0 : Int)))).2 rfl) (.nil)) (Nat.le_of_ble_eq_true rfl) C.up.size C.sb fun v103 w104 h105 h106 u107 => ?_)
              have p108 := ap_fresh h106 (fun b hb => (h91.lt b hb).1)
              replace h91 := h91.nw u107
              replace h88 := h88.nw u107
              replace C := C.new u107
              replace h91 := h91.or (ap_symm p108)
              replace h88 := h88.or (T := Blk v103)
              replace C := C.sealO h105
              replace h105 := h105.sealed
              refine W.v (gy rfl rfl rfl b102) (rv_build (r := [.int .i64 0, v103]) st35 zr35 (by obtain ⟨_, _, rfl⟩ := h105.len; rfl)) ?_
              refine W.c (gy rfl rfl rfl b102) (dc_lit (vs := [.agg (List.toArray [.int .i64 0, v103])]) (xs := ([(api_Chunk.mk (0 : Int) ([(api_Point.mk (12 : Int) (0 : Int))] : List api_Point))] : List api_Chunk)) (base := w.heap.size) el31 rfl rfl (.cons (api_Chunk.o.2 ⟨_, rfl, h105⟩) (.nil)) (Nat.le_of_ble_eq_true rfl) C.up.size C.sb fun v109 w110 h111 h112 u113 => ?_)
              have p114 := ap_fresh h112 (fun b hb => (h91.lt b hb).1)
              replace h91 := h91.nw u113
              replace h88 := h88.nw u113
              replace C := C.new u113
              replace h91 := h91.or (ap_symm p114)
              replace h88 := h88.or (T := Blk v109)
              replace C := C.sealO h111
              replace h111 := h111.sealed
              obtain ⟨y115, h116, h98⟩ := bnd_some h98
              refine W.c (gy rfl rfl rfl b102) (dc_call (vs := [v87, v109]) can23 rfl ?_)
              refine (marigraphref09_Same_w C.sb h88 h111 h116).mono ?_
              rintro _ w117 ⟨S118, rfl, c119⟩
              refine ⟨_, rfl, ?_⟩
              replace h91 := h91.cx c119
              replace C := C.trans c119
              refine sv (ptk (.bool y115) rfl b102 rfl) (sv (mvv (.bool y115) rfl) ?_)
              rcases bif_some h98 with ⟨b120, h98⟩ | ⟨b120, h98⟩
              · refine W.v (gy rfl rfl rfl b120) (mvv v10 rfl) (W.v (gy rfl rfl rfl b120) (rv_build (r := [.int .i64 19, .int .i64 0]) st29 zr29 rfl) ?_)
                obtain ⟨y121, h122, h98⟩ := bnd_some h98
                refine W.c (gy rfl rfl rfl b120) (dc_call (vs := [v10, .int .i64 0, .agg (List.toArray [.int .i64 19, .int .i64 0])]) can12 rfl ?_)
                refine (head_Head_Add_w C.sb h91 ((api_Point.o (x := (api_Point.mk (19 : Int) (0 : Int)))).2 rfl) h122).mono ?_
                rintro _ w123 ⟨S124, cs126, fp127, rfl, c125, h128, h129⟩
                refine ⟨_, rfl, ?_⟩
                have h130 : ∀ b, b ∈ fp90 → ¬ S118 b := fun b hb => (h91.lt b hb).2
                have h131 : ∀ b, b ∈ fp127 → w.heap.size ≤ b := fun b hb => (h129 b hb).elim (h94 b) (fun hl => Nat.le_trans C.up.size hl)
                replace C := C.ofc c125 (fun b hb => .inr (h94 b hb))
                refine W.v (gy rfl rfl rfl b120) (rv_eql rfl rfl) (sv (ptk (.bool (y121.1 == (110 : Int))) rfl b120 rfl) (sv (asv (.bool (y121.1 == (110 : Int))) rfl) (W.e ?_)))
                obtain rfl := Option.some.inj h98
                exact ⟨_, C, ⟨rfl, trivial⟩⟩
              · refine W.n (gn rfl rfl rfl b120) (W.n (gn rfl rfl rfl b120) (W.n (gn rfl rfl rfl b120) (W.n (gn rfl rfl rfl b120) (sv (pfk (.bool false) rfl b120 rfl) (sv (asv (.bool false) rfl) (W.e ?_))))))
                obtain rfl := Option.some.inj h98
                exact ⟨_, C, ⟨rfl, trivial⟩⟩
            · refine W.n (gn rfl rfl rfl b102) (W.n (gn rfl rfl rfl b102) (W.n (gn rfl rfl rfl b102) (W.n (gn rfl rfl rfl b102) (W.n (gn rfl rfl rfl b102) (W.n (gn rfl rfl rfl b102) (sv (pfk (.bool false) rfl b102 rfl) (sv (mvv (.bool false) rfl) (W.n (gn rfl rfl rfl rfl) (W.n (gn rfl rfl rfl rfl) (W.n (gn rfl rfl rfl rfl) (W.n (gn rfl rfl rfl rfl) ?_)))))))))))
              refine sv (pfk (.bool false) rfl rfl rfl) (sv (asv (.bool false) rfl) (W.e ?_))
              obtain rfl := Option.some.inj h98
              exact ⟨_, C, ⟨rfl, trivial⟩⟩
          · refine W.n (gn rfl rfl rfl b101) (W.n (gn rfl rfl rfl b101) (sv (pfk (.bool false) rfl b101 rfl) (sv (mvv (.bool false) rfl) (W.n (gn rfl rfl rfl rfl) (W.n (gn rfl rfl rfl rfl) (W.n (gn rfl rfl rfl rfl) (W.n (gn rfl rfl rfl rfl) (W.n (gn rfl rfl rfl rfl) (W.n (gn rfl rfl rfl rfl) (sv (pfk (.bool false) rfl rfl rfl) (sv (mvv (.bool false) rfl) ?_)))))))))))
            refine W.n (gn rfl rfl rfl rfl) (W.n (gn rfl rfl rfl rfl) (W.n (gn rfl rfl rfl rfl) (W.n (gn rfl rfl rfl rfl) (sv (pfk (.bool false) rfl rfl rfl) (sv (asv (.bool false) rfl) (W.e ?_))))))
            obtain rfl := Option.some.inj h98
            exact ⟨_, C, ⟨rfl, trivial⟩⟩
        · refine W.n (gn rfl rfl rfl b100) (W.n (gn rfl rfl rfl b100) (sv (pfk (.bool false) rfl b100 rfl) (sv (mvv (.bool false) rfl) (W.n (gn rfl rfl rfl rfl) (W.n (gn rfl rfl rfl rfl) (sv (pfk (.bool false) rfl rfl rfl) (sv (mvv (.bool false) rfl) (W.n (gn rfl rfl rfl rfl) (W.n (gn rfl rfl rfl rfl) (W.n (gn rfl rfl rfl rfl) (W.n (gn rfl rfl rfl rfl) ?_)))))))))))
          refine W.n (gn rfl rfl rfl rfl) (W.n (gn rfl rfl rfl rfl) (sv (pfk (.bool false) rfl rfl rfl) (sv (mvv (.bool false) rfl) (W.n (gn rfl rfl rfl rfl) (W.n (gn rfl rfl rfl rfl) (W.n (gn rfl rfl rfl rfl) (W.n (gn rfl rfl rfl rfl) (sv (pfk (.bool false) rfl rfl rfl) (sv (asv (.bool false) rfl) (W.e ?_))))))))))
          obtain rfl := Option.some.inj h98
          exact ⟨_, C, ⟨rfl, trivial⟩⟩
      · refine W.n (gn rfl rfl rfl b99) (W.n (gn rfl rfl rfl b99) (sv (pfk (.bool false) rfl b99 rfl) (sv (mvv (.bool false) rfl) (W.n (gn rfl rfl rfl rfl) (W.n (gn rfl rfl rfl rfl) (sv (pfk (.bool false) rfl rfl rfl) (sv (mvv (.bool false) rfl) (W.n (gn rfl rfl rfl rfl) (W.n (gn rfl rfl rfl rfl) (sv (pfk (.bool false) rfl rfl rfl) (sv (mvv (.bool false) rfl) ?_)))))))))))
        refine W.n (gn rfl rfl rfl rfl) (W.n (gn rfl rfl rfl rfl) (W.n (gn rfl rfl rfl rfl) (W.n (gn rfl rfl rfl rfl) (W.n (gn rfl rfl rfl rfl) (W.n (gn rfl rfl rfl rfl) (sv (pfk (.bool false) rfl rfl rfl) (sv (mvv (.bool false) rfl) (W.n (gn rfl rfl rfl rfl) (W.n (gn rfl rfl rfl rfl) (W.n (gn rfl rfl rfl rfl) (W.n (gn rfl rfl rfl rfl) ?_)))))))))))
        refine sv (pfk (.bool false) rfl rfl rfl) (sv (asv (.bool false) rfl) (W.e ?_))
        obtain rfl := Option.some.inj h98
        exact ⟨_, C, ⟨rfl, trivial⟩⟩
    · rintro ρ w133 ⟨S132, C, h134⟩
      refine h134.cw fun ρ => ?_
      clear h134
      refine cw_ret ?_
      obtain rfl := Option.some.inj h
      exact ⟨_, rfl, _, rfl, C⟩

noncomputable def head_Head_Len (a0 : Option head_Head) : Option Int :=
  (bif a0.isNone then some (0 : Int) else ((a0).bind fun y12 => some y12.many))
set_option maxRecDepth 100000 in
set_option maxHeartbeats 4000000 in
theorem head_Head_Len_w {S : Nat → Prop} {w : World} {a0 : Option head_Head} {v0 : Value} {cs0 : List Value} {fp0 : List Nat} {r : Int} (hS : Sb S w) (h0 : Obo 67 head_Head.fs S w v0 a0 cs0 fp0) (h : head_Head_Len a0 = some r) :
    Calls Try.prog 13 (List.toArray [v0]) w fun e w1 => ∃ S1, e = .returned (.int .i64 r) ∧ Cx No S w S1 w1 := by
  refine enter Try.func13 rfl (by kernel_rfl) rfl ?_
  have C := Cx.refl (F := No) hS
  unfold head_Head_Len at h
  have hl0 : ∀ b ∈ fp0, b < w.heap.size := fun b hb => (h0.lt b hb).1
  refine cw_seq fun K1 k2 => ?_
  refine cw_region (sv (asv (.int .i64 0) rfl) (W.e (k2 _ _ ?_)))
  refine cw_seq fun K3 k4 => ?_
  refine cw_seq fun K5 k6 => ?_
  refine cw_region (sv (mvv v0 rfl) (sv (rv_nileq Try.underlying23 rfl rfl h0.ne) (W.e (k6 _ _ ?_))))
  rcases bif_some h with ⟨b7, h⟩ | ⟨b7, h⟩
  · refine cw_t rfl b7 ?_
    refine cw_seq fun K8 k9 => ?_
    refine cw_region (sv (asv (.int .i64 0) rfl) (W.e (k9 _ _ (cw_ret ?_))))
    obtain rfl := Option.some.inj h
    exact ⟨_, rfl, _, rfl, C⟩
  · refine cw_f rfl b7 (cw_skip (k4 _ _ ?_))
    refine cw_seq fun K10 k11 => ?_
    refine cw_region (sv (mvv v0 rfl) ?_)
    obtain ⟨y12, h13, h⟩ := bnd_some h
    have h14 := h0
    rw [h13] at h14
    replace h14 : Ob 67 (head_Head.fs y12) _ _ _ _ _ := h14
    refine sv (rv_nilcheck rfl h14.ptr) (sv (rv_fieldAddr (b := pb v0) (o := 0) st67 rfl h14.ptr) (sr (rw_ofield (i := 2) (c := .int .i64 y12.many) h14 ag3 (h14.sc (i := 2) rfl) rfl) (sv (asv (.int .i64 y12.many) rfl) (W.e (k11 _ _ (cw_ret ?_))))))
    obtain rfl := Option.some.inj h
    exact ⟨_, rfl, _, rfl, C⟩

noncomputable def marigraphlaw11_HeadFull.b4 (y45 : Int) (x61 : Int) (x62 : Option head_Head) : Option ((Int × (Option head_Head)) ⊕ (((Option head_Head)) ⊕ (Bool))) :=
  (bif (decide (x61 < (2048 : Int))) then (((bif (decide (x61 < y45)) then (pur (IntKind.i64.wrap (x61 - (4000 : Int))) fun y85 => some y85) else some x61).bind fun o78 => (pur (Int.tmod x61 (3 : Int)) fun y92 => ((head_Head_Add x62 y92 (api_Point.mk o78 (0 : Int))).bind fun y94 => (bif (y94.1 != (0 : Int)) then some (.inr (.inr (.inr false))) else some (.inl y94.2))))).bind (Sum.elim (fun o70n => (pur (IntKind.i64.wrap (x61 + (1 : Int))) fun y116 => some (.inl (y116, o70n)))) (fun q => some q))) else some (.inr (.inl x62)))
noncomputable def marigraphlaw11_HeadFull.b10 (y176 : (List api_Chunk) × (Option head_Head)) (x193 : Int) (x194 : Int) : Option ((Int × Int) ⊕ (Int × (Option head_Head))) :=
  (bif (decide (x194 < (y176.1.length : Int))) then ((at_ y176.1 x194).bind fun y206 => (pur y206 fun y219 => (pur (IntKind.i64.wrap (x193 + (y219.Points.length : Int))) fun y230 => (pur (IntKind.i64.wrap (x194 + (1 : Int))) fun y232 => some (.inl (y230, y232)))))) else some (.inr (x193, y176.2)))
noncomputable def marigraphlaw11_HeadFull (a0 : Int) : Option Bool :=
  ((marigraphlaw11_shown).bind fun y5 => ((head_New (5000 : Int)).bind fun y12 => (((bif y12.1.isNone then some true else some (y12.2 != (0 : Int))).bind fun o27 => (bif o27 then some (.inr false) else some (.inl ()))).bind (Sum.elim (fun o23n => (pur (Int.tmod a0 (21 : Int)) fun y43 => (pur (IntKind.i64.wrap y43) fun y45 => ((iter (fun s : Int × (Option head_Head) => marigraphlaw11_HeadFull.b4 y45 s.1 s.2) ((0 : Int), y12.1)).bind (Sum.elim (fun o47n => ((((head_Head_Add o47n (9 : Int) (api_Point.mk (2500 : Int) (0 : Int))).bind fun y134 => (bif (y134.1 != (4 : Int)) then some (true, y134.2) else ((head_Head_Len y134.2).bind fun y146 => some ((y146 != (2048 : Int)), y134.2)))).bind fun o130 => (bif o130.1 then some (.inr false) else some (.inl o130.2))).bind (Sum.elim (fun o126n => (((head_Head_Seal o126n).bind fun y176 => (iter (fun s : Int × Int => marigraphlaw11_HeadFull.b10 y176 s.1 s.2) ((0 : Int), (0 : Int)))).bind fun o170 => ((bif y5 then (bif (o170.1 == y45) then ((head_Head_Add o170.2 (9 : Int) (api_Point.mk (2500 : Int) (0 : Int))).bind fun y248 => some (((y248.1 == (0 : Int)) == (decide ((0 : Int) < y45))), y248.2)) else some (false, o170.2)) else some (false, o170.2)).bind fun o242 => some o242.1))) (fun q => some q)))) (fun q => some q)))))) (fun q => some q)))))
set_option maxRecDepth 100000 in
set_option maxHeartbeats 4000000 in
theorem marigraphlaw11_HeadFull_w {S : Nat → Prop} {w : World} {a0 : Int} {r : Bool} (hS : Sb S w)  (h : marigraphlaw11_HeadFull a0 = some r) :
    Calls Try.prog 3 (List.toArray [.int .u8 a0]) w fun e w1 => ∃ S1, e = .returned (.bool r) ∧ Cx No S w S1 w1 := by
  refine enter Try.func3 rfl (by kernel_rfl) rfl ?_
  have C := Cx.refl (F := No) hS
  unfold marigraphlaw11_HeadFull at h
  refine cw_seq fun K1 k2 => ?_
  refine cw_region (sv (asv (.bool false) rfl) (W.e (k2 _ _ ?_)))
  refine cw_seq fun K3 k4 => ?_
  refine cw_region ?_
  obtain ⟨y5, h6, h⟩ := bnd_some h
  refine sc (dc_call (vs := []) can10 rfl ?_)
  refine (marigraphlaw11_shown_w C.sb  h6).mono ?_
  rintro _ w7 ⟨S8, rfl, c9⟩
  refine ⟨_, rfl, ?_⟩
  replace C := C.trans c9
  refine sv (asv (.bool y5) rfl) (W.e (k4 _ _ ?_))
  refine cw_seq fun K10 k11 => ?_
  refine cw_region ?_
  obtain ⟨y12, h13, h⟩ := bnd_some h
  refine sc (dc_call (vs := [.int .i64 5000]) can11 rfl ?_)
  refine (head_New_w C.sb  h13).mono ?_
  rintro _ w14 ⟨S15, v17, cs18, fp19, rfl, c16, h20, h21⟩
  refine ⟨_, rfl, ?_⟩
  have h22 : ∀ b, b ∈ fp19 → w.heap.size ≤ b := fun b hb => Nat.le_trans C.up.size (h21 b hb)
  replace C := C.trans c16
  refine sv (mvv (.tuple (List.toArray [v17, .int .i64 y12.2])) rfl) (sv (rv_extract rfl rfl) (sv (rv_extract rfl rfl) (sv (asv v17 rfl) (sv (asv (.int .i64 y12.2) rfl) (W.e (k11 _ _ ?_))))))
  obtain ⟨o23, h26, h⟩ := bnds_some h
  refine cw_seq' (fun ρ w1 => ∃ o23n, o23 = (.inl o23n) ∧ ∃ S1, Cx No S w S1 w1 ∧ Has ρ [(0, .int .u8 a0), (3, .bool y5), (4, v17)] ∧ Obo 67 head_Head.fs S1 w1 v17 y12.1 cs18 fp19) ?_ ?_
  · obtain ⟨o27, h30, h26⟩ := bnd_some h26
    refine cw_seq' (fun ρ w1 => ∃ S1, Cx No S w S1 w1 ∧ Has ρ [(0, .int .u8 a0), (3, .bool y5), (4, v17), (22, .bool o27)] ∧ Obo 67 head_Head.fs S1 w1 v17 y12.1 cs18 fp19) ?_ ?_
    · refine cw_region (sv (mvv v17 rfl) (sv (rv_nileq Try.underlying23 rfl rfl h20.ne) (sv (mvv (.bool y12.1.isNone) rfl) ?_)))
      rcases bif_some h30 with ⟨b31, h30⟩ | ⟨b31, h30⟩
      · refine W.n (gn rfl rfl rfl b31) (W.n (gn rfl rfl rfl b31) (sv (ptk (.bool true) rfl b31 rfl) (W.e ?_)))
        obtain rfl := Option.some.inj h30
        exact ⟨_, C, ⟨rfl, rfl, rfl, rfl, trivial⟩, h20⟩
      · refine W.v (gy rfl rfl rfl b31) (mvv (.int .i64 y12.2) rfl) (W.v (gy rfl rfl rfl b31) (rv_neq rfl rfl) (sv (pfk (.bool (y12.2 != (0 : Int))) rfl b31 rfl) (W.e ?_)))
        obtain rfl := Option.some.inj h30
        exact ⟨_, C, ⟨rfl, rfl, rfl, rfl, trivial⟩, h20⟩
    · rintro ρ w33 ⟨S32, C, h34, h20⟩
      refine h34.cw fun ρ => ?_
      clear h34
      rcases bif_some h26 with ⟨b35, h26⟩ | ⟨b35, h26⟩
      · refine cw_t rfl b35 ?_
        refine cw_seq fun K36 k37 => ?_
        refine cw_region (sv (asv (.bool false) rfl) (W.e (k37 _ _ (cw_ret ?_))))
        obtain rfl := Option.some.inj h26
        replace h := h.2 _ rfl
        obtain rfl := Option.some.inj h
        exact ⟨_, rfl, _, rfl, C⟩
      · refine cw_f rfl b35 (cw_skip ?_)
        obtain rfl := Option.some.inj h26
        exact ⟨_, rfl, ⟨_, C, ⟨rfl, rfl, rfl, trivial⟩, h20⟩⟩
  · rintro ρ w39 ⟨o23n, rfl, ⟨S38, C, h40, h20⟩⟩
    replace h := h.1 _ rfl
    refine h40.cw fun ρ => ?_
    clear h40
    refine cw_seq fun K41 k42 => ?_
    refine cw_region (sv (mvv (.int .u8 a0) rfl) ?_)
    obtain ⟨y43, h44, h⟩ := pur_some h
    refine sv (rv_rem rfl rfl (by decide) h44) ?_
    obtain ⟨y45, h46, h⟩ := pur_some h
    refine sv (rv_conv Try.underlying5 Try.underlying3 rfl h46) (sv (asv (.int .i64 y45) rfl) (W.e (k42 _ _ ?_)))
    obtain ⟨o47, h50, h⟩ := bnds_some h
    refine cw_seq' (fun ρ w1 => ∃ o47n, o47 = (.inl o47n) ∧ ∃ S1 fp122 cs124, Cx No S w S1 w1 ∧ Has ρ [(3, .bool y5), (4, v17), (6, .int .i64 y45)] ∧ Obo 67 head_Head.fs S1 w1 v17 o47n cs124 fp122 ∧ (∀ b, b ∈ fp122 → w.heap.size ≤ b)) ?_ ?_
    · refine cw_seq fun K51 k52 => ?_
      refine cw_region (sv (mvv (.int .i64 0) rfl) (W.e (k52 _ _ (cw_block ?_))))
      refine cw_iter h50 (fun s ρ w1 => ∃ S1 fp57 cs59, Cx No S w S1 w1 ∧ Has ρ [(3, .bool y5), (4, v17), (6, .int .i64 y45), (26, .int .i64 s.1)] ∧ Obo 67 head_Head.fs S1 w1 v17 s.2 cs59 fp57 ∧ (∀ b, b ∈ fp57 → w.heap.size ≤ b)) ⟨_, _, _, C, ⟨rfl, rfl, rfl, rfl, trivial⟩, h20, h22⟩ ?_
      rintro ⟨x61, x62⟩ q53 ρ w55 ⟨S54, fp57, cs59, C, h60, h56, h58⟩ h64 h63
      refine h60.cw fun ρ => ?_
      clear h60
      replace h64 : marigraphlaw11_HeadFull.b4 y45 x61 x62 = some q53 := h64
      unfold marigraphlaw11_HeadFull.b4 at h64
      refine cw_seq fun K65 k66 => ?_
      refine cw_region (sv (rv_lss rfl rfl) (W.e (k66 _ _ ?_)))
      refine cw_seq fun K67 k68 => ?_
      rcases bif_some h64 with ⟨b69, h64⟩ | ⟨b69, h64⟩
      · refine cw_t rfl b69 (cw_skip (k68 _ _ ?_))
        obtain ⟨o70, h73, h64⟩ := bnds_some h64
        refine cw_seq' (fun ρ w1 => ∃ o70n, o70 = (.inl o70n) ∧ ∃ S1 fp112 cs114, Cx No S w S1 w1 ∧ Has ρ [(3, .bool y5), (4, v17), (6, .int .i64 y45), (26, .int .i64 x61)] ∧ Obo 67 head_Head.fs S1 w1 v17 o70n cs114 fp112 ∧ (∀ b, b ∈ fp112 → w.heap.size ≤ b)) ?_ ?_
        · refine cw_block ?_
          refine cw_seq fun K74 k75 => ?_
          refine cw_region (sv (mvv (.int .i64 x61) rfl) (sv (asv (.int .i64 x61) rfl) (W.e (k75 _ _ ?_))))
          refine cw_seq fun K76 k77 => ?_
          refine cw_region (sv (mvv (.int .i64 x61) rfl) (sv (asv (.int .i64 x61) rfl) (W.e (k77 _ _ ?_))))
          obtain ⟨o78, h81, h73⟩ := bnd_some h73
          refine cw_seq' (fun ρ w1 => ∃ S1, Cx No S w S1 w1 ∧ Has ρ [(3, .bool y5), (4, v17), (6, .int .i64 y45), (7, .int .i64 x61), (8, .int .i64 o78), (26, .int .i64 x61)] ∧ Obo 67 head_Head.fs S1 w1 v17 x62 cs59 fp57) ?_ ?_
          · refine cw_seq fun K82 k83 => ?_
            refine cw_region (sv (mvv (.int .i64 x61) rfl) (sv (mvv (.int .i64 y45) rfl) (sv (rv_lss rfl rfl) (W.e (k83 _ _ ?_)))))
            rcases bif_some h81 with ⟨b84, h81⟩ | ⟨b84, h81⟩
            · refine cw_t rfl b84 (cw_region (sv (mvv (.int .i64 x61) rfl) ?_))
              obtain ⟨y85, h86, h81⟩ := pur_some h81
              refine sv (rv_sub rfl rfl h86) (sv (asv (.int .i64 y85) rfl) (W.e ?_))
              obtain rfl := Option.some.inj h81
              exact ⟨_, C, ⟨rfl, rfl, rfl, rfl, rfl, rfl, trivial⟩, h56⟩
            · refine cw_f rfl b84 (cw_skip ?_)
              obtain rfl := Option.some.inj h81
              exact ⟨_, C, ⟨rfl, rfl, rfl, rfl, rfl, rfl, trivial⟩, h56⟩
          · rintro ρ w88 ⟨S87, C, h89, h56⟩
            refine h89.cw fun ρ => ?_
            clear h89
            refine cw_seq fun K90 k91 => ?_
            refine cw_region (sv (mvv v17 rfl) (sv (mvv (.int .i64 x61) rfl) ?_))
            obtain ⟨y92, h93, h73⟩ := pur_some h73
            refine sv (rv_rem rfl rfl (by decide) h93) (sv (mvv (.int .i64 o78) rfl) (sv (rv_build (r := [.int .i64 o78, .int .i64 0]) st29 zr29 rfl) ?_))
            obtain ⟨y94, h95, h73⟩ := bnd_some h73
            refine sc (dc_call (vs := [v17, .int .i64 y92, .agg (List.toArray [.int .i64 o78, .int .i64 0])]) can12 rfl ?_)
            refine (head_Head_Add_w C.sb h56 ((api_Point.o (x := (api_Point.mk o78 (0 : Int)))).2 rfl) h95).mono ?_
            rintro _ w96 ⟨S97, cs99, fp100, rfl, c98, h101, h102⟩
            refine ⟨_, rfl, ?_⟩
            have h103 : ∀ b, b ∈ fp57 → ¬ S87 b := fun b hb => (h56.lt b hb).2
            have h104 : ∀ b, b ∈ fp100 → w.heap.size ≤ b := fun b hb => (h102 b hb).elim (h58 b) (fun hl => Nat.le_trans C.up.size hl)
            replace C := C.ofc c98 (fun b hb => .inr (h58 b hb))
            refine sv (rv_neq rfl rfl) (W.e (k91 _ _ ?_))
            rcases bif_some h73 with ⟨b105, h73⟩ | ⟨b105, h73⟩
            · refine cw_t rfl b105 ?_
              refine cw_seq fun K106 k107 => ?_
              refine cw_region (sv (asv (.bool false) rfl) (W.e (k107 _ _ (cw_ret ?_))))
              obtain rfl := Option.some.inj h73
              replace h64 := h64.2 _ rfl
              obtain rfl := Option.some.inj h64
              have h108 := congrArg some h63
              obtain rfl := Option.some.inj h108
              replace h := h.2 _ rfl
              obtain rfl := Option.some.inj h
              exact ⟨_, rfl, _, rfl, C⟩
            · refine cw_f rfl b105 (cw_skip ?_)
              obtain rfl := Option.some.inj h73
              exact ⟨_, rfl, ⟨_, _, _, C, ⟨rfl, rfl, rfl, rfl, trivial⟩, h101, h104⟩⟩
        · rintro ρ w110 ⟨o70n, rfl, ⟨S109, fp112, cs114, C, h115, h111, h113⟩⟩
          replace h64 := h64.1 _ rfl
          refine h115.cw fun ρ => ?_
          clear h115
          refine cw_region ?_
          obtain ⟨y116, h117, h64⟩ := pur_some h64
          refine sv (rv_add rfl rfl h117) (sv (mvv (.int .i64 y116) rfl) (W.e ?_))
          obtain rfl := Option.some.inj h64
          exact ⟨_, rfl, ⟨_, _, _, C, ⟨rfl, rfl, rfl, rfl, trivial⟩, h111, h113⟩⟩
      · refine cw_f rfl b69 (cw_exit ?_)
        obtain rfl := Option.some.inj h64
        have h118 := congrArg some h63
        obtain rfl := Option.some.inj h118
        exact ⟨_, rfl, ⟨_, _, _, C, ⟨rfl, rfl, rfl, trivial⟩, h56, h58⟩⟩
    · rintro ρ w120 ⟨o47n, rfl, ⟨S119, fp122, cs124, C, h125, h121, h123⟩⟩
      replace h := h.1 _ rfl
      refine h125.cw fun ρ => ?_
      clear h125
      obtain ⟨o126, h129, h⟩ := bnds_some h
      refine cw_seq' (fun ρ w1 => ∃ o126n, o126 = (.inl o126n) ∧ ∃ S1 fp164 cs166, Cx No S w S1 w1 ∧ Has ρ [(3, .bool y5), (4, v17), (6, .int .i64 y45)] ∧ Obo 67 head_Head.fs S1 w1 v17 o126n cs166 fp164 ∧ (∀ b, b ∈ fp164 → w.heap.size ≤ b)) ?_ ?_
      · obtain ⟨o130, h133, h129⟩ := bnd_some h129
        refine cw_seq' (fun ρ w1 => ∃ S1 fp154 cs156, Cx No S w S1 w1 ∧ Has ρ [(3, .bool y5), (4, v17), (6, .int .i64 y45), (51, .bool o130.1)] ∧ Obo 67 head_Head.fs S1 w1 v17 o130.2 cs156 fp154 ∧ (∀ b, b ∈ fp154 → w.heap.size ≤ b)) ?_ ?_
        · refine cw_region (sv (mvv v17 rfl) (sv (rv_build (r := [.int .i64 2500, .int .i64 0]) st29 zr29 rfl) ?_))
          obtain ⟨y134, h135, h133⟩ := bnd_some h133
          refine sc (dc_call (vs := [v17, .int .i64 9, .agg (List.toArray [.int .i64 2500, .int .i64 0])]) can12 rfl ?_)
          refine (head_Head_Add_w C.sb h121 ((api_Point.o (x := (api_Point.mk (2500 : Int) (0 : Int)))).2 rfl) h135).mono ?_
          rintro _ w136 ⟨S137, cs139, fp140, rfl, c138, h141, h142⟩
          refine ⟨_, rfl, ?_⟩
          have h143 : ∀ b, b ∈ fp122 → ¬ S119 b := fun b hb => (h121.lt b hb).2
          have h144 : ∀ b, b ∈ fp140 → w.heap.size ≤ b := fun b hb => (h142 b hb).elim (h123 b) (fun hl => Nat.le_trans C.up.size hl)
          replace C := C.ofc c138 (fun b hb => .inr (h123 b hb))
          refine sv (rv_neq rfl rfl) (sv (mvv (.bool (y134.1 != (4 : Int))) rfl) ?_)
          rcases bif_some h133 with ⟨b145, h133⟩ | ⟨b145, h133⟩
          · refine W.n (gn rfl rfl rfl b145) (W.n (gn rfl rfl rfl b145) (W.n (gn rfl rfl rfl b145) (sv (ptk (.bool true) rfl b145 rfl) (W.e ?_))))
            obtain rfl := Option.some.inj h133
            exact ⟨_, _, _, C, ⟨rfl, rfl, rfl, rfl, trivial⟩, h141, h144⟩
          · refine W.v (gy rfl rfl rfl b145) (mvv v17 rfl) ?_
            obtain ⟨y146, h147, h133⟩ := bnd_some h133
            refine W.c (gy rfl rfl rfl b145) (dc_call (vs := [v17]) can13 rfl ?_)
            refine (head_Head_Len_w C.sb h141 h147).mono ?_
            rintro _ w148 ⟨S149, rfl, c150⟩
            refine ⟨_, rfl, ?_⟩
            replace h141 := h141.cx c150
            replace C := C.trans c150
            refine W.v (gy rfl rfl rfl b145) (rv_neq rfl rfl) (sv (pfk (.bool (y146 != (2048 : Int))) rfl b145 rfl) (W.e ?_))
            obtain rfl := Option.some.inj h133
            exact ⟨_, _, _, C, ⟨rfl, rfl, rfl, rfl, trivial⟩, h141, h144⟩
        · rintro ρ w152 ⟨S151, fp154, cs156, C, h157, h153, h155⟩
          refine h157.cw fun ρ => ?_
          clear h157
          rcases bif_some h129 with ⟨b158, h129⟩ | ⟨b158, h129⟩
          · refine cw_t rfl b158 ?_
            refine cw_seq fun K159 k160 => ?_
            refine cw_region (sv (asv (.bool false) rfl) (W.e (k160 _ _ (cw_ret ?_))))
            obtain rfl := Option.some.inj h129
            replace h := h.2 _ rfl
            obtain rfl := Option.some.inj h
            exact ⟨_, rfl, _, rfl, C⟩
          · refine cw_f rfl b158 (cw_skip ?_)
            obtain rfl := Option.some.inj h129
            exact ⟨_, rfl, ⟨_, _, _, C, ⟨rfl, rfl, rfl, trivial⟩, h153, h155⟩⟩
      · rintro ρ w162 ⟨o126n, rfl, ⟨S161, fp164, cs166, C, h167, h163, h165⟩⟩
        replace h := h.1 _ rfl
        refine h167.cw fun ρ => ?_
        clear h167
        refine cw_seq fun K168 k169 => ?_
        refine cw_region (sv (asv (.int .i64 0) rfl) (W.e (k169 _ _ ?_)))
        obtain ⟨o170, h173, h⟩ := bnd_some h
        refine cw_seq' (fun ρ w1 => ∃ S1 fp238 cs240, Cx No S w S1 w1 ∧ Has ρ [(3, .bool y5), (4, v17), (6, .int .i64 y45), (9, .int .i64 o170.1)] ∧ Obo 67 head_Head.fs S1 w1 v17 o170.2 cs240 fp238 ∧ (∀ b, b ∈ fp238 → w.heap.size ≤ b)) ?_ ?_
        · refine cw_seq fun K174 k175 => ?_
          refine cw_region (sv (mvv v17 rfl) ?_)
          obtain ⟨y176, h177, h173⟩ := bnd_some h173
          refine sc (dc_call (vs := [v17]) can14 rfl ?_)
          refine (head_Head_Seal_w C.sb h163 h177).mono ?_
          rintro _ w178 ⟨S179, v181, cs183, fp184, rfl, c180, h182, h185, h186⟩
          refine ⟨_, rfl, ?_⟩
          have h187 : ∀ b, b ∈ fp164 → ¬ S161 b := fun b hb => (h163.lt b hb).2
          have h188 : ∀ b, b ∈ fp184 → w.heap.size ≤ b := fun b hb => (h186 b hb).elim (h165 b) (fun hl => Nat.le_trans C.up.size hl)
          replace C := C.ofc c180 (fun b hb => .inr (h165 b hb))
          refine sv (rv_lenS el31 h182 rfl) (sv (mvv (.int .i64 0) rfl) (W.e (k175 _ _ (cw_block ?_))))
          refine cw_iter h173 (fun s ρ w1 => ∃ S1, Cx No S w S1 w1 ∧ Has ρ [(3, .bool y5), (4, v17), (6, .int .i64 y45), (9, .int .i64 s.1), (53, v181), (54, .int .i64 (y176.1.length : Int)), (55, .int .i64 s.2)] ∧ Sl (kSl api_Chunk.k) S1 w1 v181 y176.1 ∧ Obo 67 head_Head.fs S1 w1 v17 y176.2 cs183 fp184) ⟨_, C, ⟨rfl, rfl, rfl, rfl, rfl, rfl, rfl, trivial⟩, h182, h185⟩ ?_
          rintro ⟨x193, x194⟩ q189 ρ w191 ⟨S190, C, h192, h182, h185⟩ h196 h195
          refine h192.cw fun ρ => ?_
          clear h192
          replace h196 : marigraphlaw11_HeadFull.b10 y176 x193 x194 = some q189 := h196
          unfold marigraphlaw11_HeadFull.b10 at h196
          refine cw_seq fun K197 k198 => ?_
          refine cw_region (sv (rv_lss rfl rfl) (W.e (k198 _ _ ?_)))
          refine cw_seq fun K199 k200 => ?_
          rcases bif_some h196 with ⟨b201, h196⟩ | ⟨b201, h196⟩
          · refine cw_t rfl b201 (cw_skip (k200 _ _ ?_))
            refine cw_seq fun K202 k203 => ?_
            refine cw_block ?_
            refine cw_seq fun K204 k205 => ?_
            refine cw_region ?_
            obtain ⟨y206, h207, h196⟩ := bnd_some h196
            refine sv (rv_index el31 h182 rfl rfl h207) ?_
            obtain ⟨v208, h209, h210⟩ := rw_loadA (P := Try.prog) el31 h182 h207
            obtain ⟨c211, rfl, g212⟩ := api_Chunk.o.1 h209
            refine sr (h210 _ (Sm.refl _ _) rfl) ?_
            refine sc (dc_allocO (x0 := (api_Chunk.mk (0 : Int) ([] : List api_Point))) (base := w.heap.size) el31 zr35 (fun _ => api_Chunk.r.2 ⟨_, rfl, sl_nil _ _ _⟩) C.up.size C.sb fun b213 w214 h215 h216 u217 => ?_)
            have p218 := ap_fresh h216 (fun b hb => (h185.lt b hb).1)
            replace h185 := h185.nw u217
            replace h182 := h182.nw u217
            replace g212 := g212.nw u217
            replace C := C.new u217
            obtain ⟨y219, h220, h196⟩ := pur_some h196
            have h224 := h215
            refine sc (dc_storeO el31 h224 (show at_ [(api_Chunk.mk (0 : Int) ([] : List api_Point))] (0 : Int) = some (api_Chunk.mk (0 : Int) ([] : List api_Point)) from rfl) rfl rfl ((api_Chunk.o.2 ⟨_, rfl, g212⟩)) fun w221 h222 u223 => ?_)
            replace h222 : Ow api_Chunk.k 35 S190 w.heap.size w221 (.slice (some ⟨b213, 0, none⟩) 1 1) [y206] := h222
            rw [h220] at h222
            replace h185 := h185.wr u223 h224.not (ap_symm p218)
            replace h182 := h182.wr u223 h224.not
            replace C := C.ow h224 u223
            refine W.e (k205 _ _ (cw_region (sv (mvv (.int .i64 x193) rfl) (sv (rv_fieldAddr st35 rfl rfl) ?_))))
            obtain ⟨cs225, h226, h227⟩ := Ow.cellsO h222 (show at_ [y219] (0 : Int) = some y219 from rfl)
            obtain ⟨c228, rfl, g229⟩ := api_Chunk.r.1 h226
            refine sr (rw_el1 (off := 1) ag33 (h227 _ (Sm.refl _ _)) rfl rfl) (sv (rv_lenS el33 g229 rfl) ?_)
            obtain ⟨y230, h231, h196⟩ := pur_some h196
            refine sv (rv_add rfl rfl h231) (sv (asv (.int .i64 y230) rfl) (W.e (k203 _ _ (cw_region ?_))))
            obtain ⟨y232, h233, h196⟩ := pur_some h196
            refine sv (rv_add rfl rfl h233) (sv (mvv (.int .i64 y232) rfl) (W.e ?_))
            obtain rfl := Option.some.inj h196
            exact ⟨_, rfl, ⟨_, C, ⟨rfl, rfl, rfl, rfl, rfl, rfl, rfl, trivial⟩, h182, h185⟩⟩
          · refine cw_f rfl b201 (cw_exit ?_)
            obtain rfl := Option.some.inj h196
            have h234 := congrArg some h195
            obtain rfl := Option.some.inj h234
            exact ⟨_, _, _, C, ⟨rfl, rfl, rfl, rfl, trivial⟩, h185, h188⟩
        · rintro ρ w236 ⟨S235, fp238, cs240, C, h241, h237, h239⟩
          refine h241.cw fun ρ => ?_
          clear h241
          obtain ⟨o242, h245, h⟩ := bnd_some h
          refine cw_seq' (fun ρ w1 => ∃ S1, Cx No S w S1 w1 ∧ Has ρ [(2, .bool o242.1)]) ?_ ?_
          · refine cw_region (sv (mvv (.bool y5) rfl) (sv (mvv (.bool y5) rfl) ?_))
            rcases bif_some h245 with ⟨b246, h245⟩ | ⟨b246, h245⟩
            · refine W.v (gy rfl rfl rfl b246) (mvv (.int .i64 o170.1) rfl) (W.v (gy rfl rfl rfl b246) (mvv (.int .i64 y45) rfl) (W.v (gy rfl rfl rfl b246) (rv_eql rfl rfl) (sv (ptk (.bool (o170.1 == y45)) rfl b246 rfl) (sv (mvv (.bool (o170.1 == y45)) rfl) ?_))))
              rcases bif_some h245 with ⟨b247, h245⟩ | ⟨b247, h245⟩
              · refine W.v (gy rfl rfl rfl b247) (mvv v17 rfl) (W.v (gy rfl rfl rfl b247) (rv_build (r := [.int .i64 2500, .int .i64 0]) st29 zr29 rfl) ?_)
                obtain ⟨y248, h249, h245⟩ := bnd_some h245
                refine W.c (gy rfl rfl rfl b247) (dc_call (vs := [v17, .int .i64 9, .agg (List.toArray [.int .i64 2500, .int .i64 0])]) can12 rfl ?_)
                refine (head_Head_Add_w C.sb h237 ((api_Point.o (x := (api_Point.mk (2500 : Int) (0 : Int)))).2 rfl) h249).mono ?_
                rintro _ w250 ⟨S251, cs253, fp254, rfl, c252, h255, h256⟩
                refine ⟨_, rfl, ?_⟩
                have h257 : ∀ b, b ∈ fp238 → ¬ S235 b := fun b hb => (h237.lt b hb).2
                have h258 : ∀ b, b ∈ fp254 → w.heap.size ≤ b := fun b hb => (h256 b hb).elim (h239 b) (fun hl => Nat.le_trans C.up.size hl)
                replace C := C.ofc c252 (fun b hb => .inr (h239 b hb))
                refine W.v (gy rfl rfl rfl b247) (rv_eql rfl rfl) (W.v (gy rfl rfl rfl b247) (mvv (.int .i64 y45) rfl) (W.v (gy rfl rfl rfl b247) (rv_gtr rfl rfl) (W.v (gy rfl rfl rfl b247) (rv_beql Try.underlying4 rfl rfl) (sv (ptk (.bool ((y248.1 == (0 : Int)) == (decide ((0 : Int) < y45)))) rfl b247 rfl) (sv (asv (.bool ((y248.1 == (0 : Int)) == (decide ((0 : Int) < y45)))) rfl) (W.e ?_))))))
                obtain rfl := Option.some.inj h245
                exact ⟨_, C, ⟨rfl, trivial⟩⟩
              · refine W.n (gn rfl rfl rfl b247) (W.n (gn rfl rfl rfl b247) (W.n (gn rfl rfl rfl b247) (W.n (gn rfl rfl rfl b247) (W.n (gn rfl rfl rfl b247) (W.n (gn rfl rfl rfl b247) (W.n (gn rfl rfl rfl b247) (sv (pfk (.bool false) rfl b247 rfl) (sv (asv (.bool false) rfl) (W.e ?_)))))))))
                obtain rfl := Option.some.inj h245
                exact ⟨_, C, ⟨rfl, trivial⟩⟩
            · refine W.n (gn rfl rfl rfl b246) (W.n (gn rfl rfl rfl b246) (W.n (gn rfl rfl rfl b246) (sv (pfk (.bool false) rfl b246 rfl) (sv (mvv (.bool false) rfl) (W.n (gn rfl rfl rfl rfl) (W.n (gn rfl rfl rfl rfl) (W.n (gn rfl rfl rfl rfl) (W.n (gn rfl rfl rfl rfl) (W.n (gn rfl rfl rfl rfl) (W.n (gn rfl rfl rfl rfl) (W.n (gn rfl rfl rfl rfl) ?_)))))))))))
              refine sv (pfk (.bool false) rfl rfl rfl) (sv (asv (.bool false) rfl) (W.e ?_))
              obtain rfl := Option.some.inj h245
              exact ⟨_, C, ⟨rfl, trivial⟩⟩
          · rintro ρ w260 ⟨S259, C, h261⟩
            refine h261.cw fun ρ => ?_
            clear h261
            refine cw_ret ?_
            obtain rfl := Option.some.inj h
            exact ⟨_, rfl, _, rfl, C⟩

noncomputable def head_Head_Points (a0 : Option head_Head) (a1 : Int) : Option (List api_Point) :=
  (bif a0.isNone then some ([] : List api_Point) else ((a0).bind fun y12 => ((slices_Clone_api_Point_api_Point ((mget a1 y12.series).getD [])).bind fun y22 => some y22)))
set_option maxRecDepth 100000 in
set_option maxHeartbeats 4000000 in
theorem head_Head_Points_w {S : Nat → Prop} {w : World} {a0 : Option head_Head} {a1 : Int} {v0 : Value} {cs0 : List Value} {fp0 : List Nat} {r : (List api_Point)} (hS : Sb S w) (h0 : Obo 67 head_Head.fs S w v0 a0 cs0 fp0) (h : head_Head_Points a0 a1 = some r) :
    Calls Try.prog 16 (List.toArray [v0, .int .i64 a1]) w fun e w1 => ∃ S1 u0, e = .returned (u0) ∧ Cx No S w S1 w1 ∧ Ow api_Point.k 29 S1 w.heap.size w1 u0 r := by
  refine enter Try.func16 rfl (by kernel_rfl) rfl ?_
  have C := Cx.refl (F := No) hS
  unfold head_Head_Points at h
  have hl0 : ∀ b ∈ fp0, b < w.heap.size := fun b hb => (h0.lt b hb).1
  refine cw_seq fun K1 k2 => ?_
  refine cw_region (sv (asv (.slice none 0 0) rfl) (W.e (k2 _ _ ?_)))
  refine cw_seq fun K3 k4 => ?_
  refine cw_seq fun K5 k6 => ?_
  refine cw_region (sv (mvv v0 rfl) (sv (rv_nileq Try.underlying23 rfl rfl h0.ne) (W.e (k6 _ _ ?_))))
  rcases bif_some h with ⟨b7, h⟩ | ⟨b7, h⟩
  · refine cw_t rfl b7 ?_
    refine cw_seq fun K8 k9 => ?_
    refine cw_region (sv (asv (.slice none 0 0) rfl) (W.e (k9 _ _ (cw_ret ?_))))
    obtain rfl := Option.some.inj h
    exact ⟨_, rfl, _, _, rfl, C, Ow.nil _ _ _ _ _⟩
  · refine cw_f rfl b7 (cw_skip (k4 _ _ ?_))
    refine cw_seq fun K10 k11 => ?_
    refine cw_region (sv (mvv v0 rfl) ?_)
    obtain ⟨y12, h13, h⟩ := bnd_some h
    have h14 := h0
    rw [h13] at h14
    replace h14 : Ob 67 (head_Head.fs y12) _ _ _ _ _ := h14
    refine sv (rv_nilcheck rfl h14.ptr) (sv (rv_fieldAddr (b := pb v0) (o := 0) st67 rfl h14.ptr) ?_)
    obtain ⟨c15, h16⟩ := h14.at (i := 1) rfl
    refine sr (rw_ofield (i := 1) (c := c15) h14 ag65 h16 rfl) (sv (mvv (.int .i64 a1) rfl) ?_)
    obtain ⟨v17, h18, h19, h20, h21⟩ := Ob.lendU (P := Try.prog) (tm := 65) (te := 33) h14 (i := 1) rfl h16 Try.underlying65 zv33 a1
    refine sr (h20 (Sm.refl _ _) rfl rfl) ?_
    obtain ⟨y22, h23, h⟩ := bnd_some h
    refine sc (dc_call (vs := [v17]) can38 rfl ?_)
    refine (slices_Clone_api_Point_api_Point_w (h18.sbO C.sb) h18.sealed h23).mono ?_
    rintro _ w24 ⟨S25, v27, rfl, c26, h28⟩
    refine ⟨_, rfl, ?_⟩
    replace h28 := h28.flat api_Point_flat (S := S) fun b hb => c26.ge.le b (.inl hb)
    replace h28 := h28.base C.up.size
    replace C := C.new c26.up
    refine sv (asv v27 rfl) (W.e (k11 _ _ (cw_ret ?_)))
    obtain rfl := Option.some.inj h
    exact ⟨_, rfl, _, _, rfl, C, h28⟩

noncomputable def marigraphref04_Right.b2 (a0 : List api_Point) (x13 : Int) : Option ((Int) ⊕ ((Unit) ⊕ (Bool))) :=
  (bif (decide (x13 < (a0.length : Int))) then ((at_ a0 x13).bind fun y28 => (pur (IntKind.i64.wrap (x13 - (1 : Int))) fun y33 => ((at_ a0 y33).bind fun y35 => (bif (decide (y28.T ≤ y35.T)) then some (.inr (.inr false)) else (pur (IntKind.i64.wrap (x13 + (1 : Int))) fun y44 => some (.inl y44)))))) else some (.inr (.inl ())))
noncomputable def marigraphref04_Right (a0 : List api_Point) : Option Bool :=
  ((iter (fun s : Int => marigraphref04_Right.b2 a0 s) (1 : Int)).bind (Sum.elim (fun o3n => some true) (fun q => some q)))
set_option maxRecDepth 100000 in
set_option maxHeartbeats 4000000 in
theorem marigraphref04_Right_w {S : Nat → Prop} {w : World} {a0 : List api_Point} {v0 : Value} {r : Bool} (hS : Sb S w) (h0 : Sl (kSl api_Point.k) S w v0 a0) (h : marigraphref04_Right a0 = some r) :
    Calls Try.prog 17 (List.toArray [v0]) w fun e w1 => ∃ S1, e = .returned (.bool r) ∧ Cx No S w S1 w1 := by
  refine enter Try.func17 rfl (by kernel_rfl) rfl ?_
  have C := Cx.refl (F := No) hS
  unfold marigraphref04_Right at h
  refine cw_seq fun K1 k2 => ?_
  refine cw_region (sv (asv (.bool false) rfl) (W.e (k2 _ _ ?_)))
  obtain ⟨o3, h6, h⟩ := bnds_some h
  refine cw_seq' (fun ρ w1 => ∃ o3n, o3 = (.inl o3n) ∧ ∃ S1, Cx No S w S1 w1 ∧ Has ρ []) ?_ ?_
  · refine cw_seq fun K7 k8 => ?_
    refine cw_region (sv (asv (.int .i64 1) rfl) (W.e (k8 _ _ (cw_block ?_))))
    refine cw_iter h6 (fun s ρ w1 => ∃ S1, Cx No S w S1 w1 ∧ Has ρ [(0, v0), (3, .int .i64 s)] ∧ Sl (kSl api_Point.k) S1 w1 v0 a0) ⟨_, C, ⟨rfl, rfl, trivial⟩, h0⟩ ?_
    rintro x13 q9 ρ w11 ⟨S10, C, h12, h0⟩ h15 h14
    refine h12.cw fun ρ => ?_
    clear h12
    replace h15 : marigraphref04_Right.b2 a0 x13 = some q9 := h15
    unfold marigraphref04_Right.b2 at h15
    refine cw_seq fun K16 k17 => ?_
    refine cw_seq fun K18 k19 => ?_
    refine cw_region (sv (mvv (.int .i64 x13) rfl) (sv (mvv v0 rfl) (sv (rv_lenS el33 h0 rfl) (sv (rv_lss rfl rfl) (W.e (k19 _ _ ?_))))))
    rcases bif_some h15 with ⟨b20, h15⟩ | ⟨b20, h15⟩
    · refine cw_t rfl b20 (cw_skip (k17 _ _ ?_))
      refine cw_seq fun K21 k22 => ?_
      refine cw_block ?_
      refine cw_seq fun K23 k24 => ?_
      refine cw_drawU (.one 0 true (.one 1 true (.one 2 true (.one 3 true (.one 4 true (.one 5 true (.one 6 true (.one 7 true (.one 8 true (.one 9 true (.one 10 true (.one 11 true .done)))))))))))) [(4, [9]), (10, [9])] [] (fun c => bif Nat.beq c 9 then (fun _ => True) else No) fol (by kernel_rfl) fun w25 u26 => ?_
      replace h0 := h0.nw u26
      replace C := C.new u26
      have m27 := Sm.refl (fun _ => True) w25
      refine mtv rfl rfl (mvv v0 rfl) (mtv rfl rfl (mvv (.int .i64 x13) rfl) ?_)
      obtain ⟨y28, h29, h15⟩ := bnd_some h15
      refine mtv rfl rfl (rv_index el33 h0 rfl rfl h29) (mtv rfl rfl (rv_fieldAddr st29 rfl rfl) ?_)
      obtain ⟨cs30, h31, h32⟩ := Sl.cells h0 h29
      obtain rfl := api_Point.r.1 h31
      refine mtr rfl rfl ⟨m27, trivial⟩ (fun w' hq => rw_el1 (off := 0) ag3 (h32 w' (hq.1.mono fun _ _ => trivial)) rfl rfl) (mtv rfl rfl (mvv v0 rfl) (mtv rfl rfl (mvv (.int .i64 x13) rfl) ?_))
      obtain ⟨y33, h34, h15⟩ := pur_some h15
      refine mtv rfl rfl (rv_sub rfl rfl h34) ?_
      obtain ⟨y35, h36, h15⟩ := bnd_some h15
      refine mtv rfl rfl (rv_index el33 h0 rfl rfl h36) (mtv rfl rfl (rv_fieldAddr st29 rfl rfl) ?_)
      obtain ⟨cs37, h38, h39⟩ := Sl.cells h0 h36
      obtain rfl := api_Point.r.1 h38
      refine mtr rfl rfl ⟨m27, trivial⟩ (fun w' hq => rw_el1 (off := 0) ag3 (h39 w' (hq.1.mono fun _ _ => trivial)) rfl rfl) (mtv rfl rfl (rv_leq rfl rfl) (MT.e (k24 _ _ ?_)))
      rcases bif_some h15 with ⟨b40, h15⟩ | ⟨b40, h15⟩
      · refine cw_t rfl b40 ?_
        refine cw_seq fun K41 k42 => ?_
        refine cw_region (sv (asv (.bool false) rfl) (W.e (k42 _ _ (cw_ret ?_))))
        obtain rfl := Option.some.inj h15
        have h43 := congrArg some h14
        obtain rfl := Option.some.inj h43
        replace h := h.2 _ rfl
        obtain rfl := Option.some.inj h
        exact ⟨_, rfl, _, rfl, C⟩
      · refine cw_f rfl b40 (cw_skip (k22 _ _ (cw_region (sv (mvv (.int .i64 x13) rfl) ?_))))
        obtain ⟨y44, h45, h15⟩ := pur_some h15
        refine sv (rv_add rfl rfl h45) (sv (asv (.int .i64 y44) rfl) (W.e ?_))
        obtain rfl := Option.some.inj h15
        exact ⟨_, rfl, ⟨_, C, ⟨rfl, rfl, trivial⟩, h0⟩⟩
    · refine cw_f rfl b20 (cw_exit ?_)
      obtain rfl := Option.some.inj h15
      have h46 := congrArg some h14
      obtain rfl := Option.some.inj h46
      exact ⟨_, rfl, ⟨_, C, trivial⟩⟩
  · rintro ρ w48 ⟨o3n, rfl, ⟨S47, C, h49⟩⟩
    replace h := h.1 _ rfl
    refine h49.cw fun ρ => ?_
    clear h49
    refine cw_seq fun K50 k51 => ?_
    refine cw_region (sv (asv (.bool true) rfl) (W.e (k51 _ _ (cw_ret ?_))))
    obtain rfl := Option.some.inj h
    exact ⟨_, rfl, _, rfl, C⟩

noncomputable def marigraphlaw11_HeadOrder.b4 (a0 : List marigraphlaw11_Act) (x92 : List marigraphref11_Item) (x93 : Int) (x94 : List (arr42 × Bool)) : Option (((List marigraphref11_Item) × Int × (List (arr42 × Bool))) ⊕ ((List marigraphref11_Item) × (List (arr42 × Bool)))) :=
  (bif (decide (x93 < (a0.length : Int))) then (((at_ a0 x93).bind fun y108 => (pur y108 fun y122 => (pur (Int.tmod y122.Kind (5 : Int)) fun y133 => (pur (IntKind.i64.wrap y133) fun y135 => (pur (Int.tmod y122.P.T (1000 : Int)) fun y140 => (pur (IntKind.i64.wrap (y140 + (1000 : Int))) fun y142 => (pur (Int.tmod y142 (1000 : Int)) fun y144 => ((bif (decide (x93 < (100 : Int))) then some (!((mget (arr42.mk y135 y144) x94).getD false)) else some false).bind fun o160 => (bif o160 then (pur (mput (arr42.mk y135 y144) true x94) fun y184 => ((app_ 24 x92 ([(marigraphref11_Item.mk y135 (api_Point.mk y144 y122.P.V))] : List marigraphref11_Item)).bind fun y203 => some (y203, y184))) else some (x92, x94)))))))))).bind fun o102 => (pur (IntKind.i64.wrap (x93 + (1 : Int))) fun y228 => some (.inl (o102.1, y228, o102.2)))) else some (.inr (x92, x94)))
noncomputable def marigraphlaw11_HeadOrder.b8 (o71 : ((List marigraphref11_Item) × (List (arr42 × Bool)))) (x265 : Int) (x266 : Option head_Head) : Option ((Int × (Option head_Head)) ⊕ (((Option head_Head)) ⊕ (Bool))) :=
  (bif (decide (x265 < (o71.1.length : Int))) then ((at_ o71.1 x265).bind fun y278 => (pur y278 fun y291 => ((head_Head_Add x266 y291.Id y291.P).bind fun y305 => (bif (y305.1 != (0 : Int)) then some (.inr (.inr false)) else (pur (IntKind.i64.wrap (x265 + (1 : Int))) fun y322 => some (.inl (y322, y305.2))))))) else some (.inr (.inl x266)))
noncomputable def marigraphlaw11_HeadOrder.b10 (y372 : List marigraphref11_Item) (x394 : Int) (x395 : Option head_Head) : Option ((Int × (Option head_Head)) ⊕ (((Option head_Head)) ⊕ (Bool))) :=
  (bif (decide (x394 < (y372.length : Int))) then ((at_ y372 x394).bind fun y407 => (pur y407 fun y420 => ((head_Head_Add x395 y420.Id y420.P).bind fun y434 => (bif (y434.1 != (0 : Int)) then some (.inr (.inr false)) else (pur (IntKind.i64.wrap (x394 + (1 : Int))) fun y451 => some (.inl (y451, y434.2))))))) else some (.inr (.inl x395)))
noncomputable def marigraphlaw11_HeadOrder.b12 (o248n : ((Option head_Head))) (o335n : ((Option head_Head))) (x473 : Int) : Option ((Int) ⊕ ((Unit) ⊕ (Bool))) :=
  (bif (decide (x473 < (5 : Int))) then ((((head_Head_Points o248n x473).bind fun y491 => ((head_Head_Points o335n x473).bind fun y500 => ((marigraphref04_Same y491 y500).bind fun y510 => (bif (!y510) then some true else ((head_Head_Points o248n x473).bind fun y516 => ((marigraphref04_Right y516).bind fun y525 => some (!y525))))))).bind fun o487 => (bif o487 then some (.inr (.inr (.inr false))) else some (.inl ()))).bind (Sum.elim (fun o481n => (pur (IntKind.i64.wrap (x473 + (1 : Int))) fun y542 => some (.inl y542))) (fun q => some q))) else some (.inr (.inl ())))
noncomputable def marigraphlaw11_HeadOrder (a0 : List marigraphlaw11_Act) (a1 : Int) : Option Bool :=
  ((marigraphlaw11_shown).bind fun y5 => ((head_New (1000 : Int)).bind fun y12 => ((head_New (1000 : Int)).bind fun y25 => (((bif y12.1.isNone then some true else some y25.1.isNone).bind fun o41 => (bif o41 then some (.inr false) else some (.inl ()))).bind (Sum.elim (fun o37n => ((iter (fun s : (List marigraphref11_Item) × Int × (List (arr42 × Bool)) => marigraphlaw11_HeadOrder.b4 a0 s.1 s.2.1 s.2.2) (([] : List marigraphref11_Item), (0 : Int), ([] : List (arr42 × Bool)))).bind fun o71 => (pur (IntKind.i64.wrap a1) fun y241 => (pur (IntKind.i64.wrap ((o71.1.length : Int) + (1 : Int))) fun y243 => ((nz_ y243 (Int.tmod y241 y243)).bind fun y245 => ((iter (fun s : Int × (Option head_Head) => marigraphlaw11_HeadOrder.b8 o71 s.1 s.2) ((0 : Int), y12.1)).bind (Sum.elim (fun o248n => (((from_ o71.1 y245).bind fun y343 => ((upto_ o71.1 y245).bind fun y348 => ((app_ 24 ([] : List marigraphref11_Item) y343).bind fun y361 => ((app_ 24 y361 y348).bind fun y372 => (iter (fun s : Int × (Option head_Head) => marigraphlaw11_HeadOrder.b10 y372 s.1 s.2) ((0 : Int), y25.1)))))).bind (Sum.elim (fun o335n => ((iter (fun s : Int => marigraphlaw11_HeadOrder.b12 o248n o335n s) (0 : Int)).bind (Sum.elim (fun o462n => ((bif y5 then ((head_Head_Len o248n).bind fun y553 => some (y553 == (o71.1.length : Int))) else some false).bind fun o548 => some o548)) (fun q => some q)))) (fun q => some q)))) (fun q => some q)))))))) (fun q => some q))))))
set_option maxRecDepth 100000 in
set_option maxHeartbeats 4000000 in
theorem marigraphlaw11_HeadOrder_w {S : Nat → Prop} {w : World} {a0 : List marigraphlaw11_Act} {a1 : Int} {v0 : Value} {r : Bool} (hS : Sb S w) (h0 : Sl (kSl marigraphlaw11_Act.k) S w v0 a0) (h : marigraphlaw11_HeadOrder a0 a1 = some r) :
    Calls Try.prog 4 (List.toArray [v0, .int .u8 a1]) w fun e w1 => ∃ S1, e = .returned (.bool r) ∧ Cx No S w S1 w1 := by
  refine enter Try.func4 rfl (by kernel_rfl) rfl ?_
  have C := Cx.refl (F := No) hS
  unfold marigraphlaw11_HeadOrder at h
  refine cw_seq fun K1 k2 => ?_
  refine cw_region (sv (asv (.bool false) rfl) (W.e (k2 _ _ ?_)))
  refine cw_seq fun K3 k4 => ?_
  refine cw_region ?_
  obtain ⟨y5, h6, h⟩ := bnd_some h
  refine sc (dc_call (vs := []) can10 rfl ?_)
  refine (marigraphlaw11_shown_w C.sb  h6).mono ?_
  rintro _ w7 ⟨S8, rfl, c9⟩
  refine ⟨_, rfl, ?_⟩
  replace h0 := h0.cx c9
  replace C := C.trans c9
  refine sv (asv (.bool y5) rfl) (W.e (k4 _ _ ?_))
  refine cw_seq fun K10 k11 => ?_
  refine cw_region ?_
  obtain ⟨y12, h13, h⟩ := bnd_some h
  refine sc (dc_call (vs := [.int .i64 1000]) can11 rfl ?_)
  refine (head_New_w C.sb  h13).mono ?_
  rintro _ w14 ⟨S15, v17, cs18, fp19, rfl, c16, h20, h21⟩
  refine ⟨_, rfl, ?_⟩
  have h22 : ∀ b, b ∈ fp19 → w.heap.size ≤ b := fun b hb => Nat.le_trans C.up.size (h21 b hb)
  replace h0 := h0.cx c16
  replace C := C.trans c16
  refine sv (mvv (.tuple (List.toArray [v17, .int .i64 y12.2])) rfl) (sv (rv_extract rfl rfl) (sv (rv_extract rfl rfl) (sv (asv v17 rfl) (sv (asv (.int .i64 y12.2) rfl) (W.e (k11 _ _ ?_))))))
  refine cw_seq fun K23 k24 => ?_
  refine cw_region ?_
  obtain ⟨y25, h26, h⟩ := bnd_some h
  refine sc (dc_call (vs := [.int .i64 1000]) can11 rfl ?_)
  refine (head_New_w C.sb  h26).mono ?_
  rintro _ w27 ⟨S28, v30, cs31, fp32, rfl, c29, h33, h34⟩
  refine ⟨_, rfl, ?_⟩
  have p35 := ap_fresh h34 (fun b hb => (h20.lt b hb).1)
  have h36 : ∀ b, b ∈ fp32 → w.heap.size ≤ b := fun b hb => Nat.le_trans C.up.size (h34 b hb)
  replace h0 := h0.cx c29
  replace h20 := h20.cx c29
  replace C := C.trans c29
  refine sv (mvv (.tuple (List.toArray [v30, .int .i64 y25.2])) rfl) (sv (rv_extract rfl rfl) (sv (rv_extract rfl rfl) (sv (asv v30 rfl) (sv (asv (.int .i64 y25.2) rfl) (W.e (k24 _ _ ?_))))))
  obtain ⟨o37, h40, h⟩ := bnds_some h
  refine cw_seq' (fun ρ w1 => ∃ o37n, o37 = (.inl o37n) ∧ ∃ S1, Cx No S w S1 w1 ∧ Has ρ [(0, v0), (1, .int .u8 a1), (5, .bool y5), (6, v17), (8, v30)] ∧ Sl (kSl marigraphlaw11_Act.k) S1 w1 v0 a0 ∧ Obo 67 head_Head.fs S1 w1 v17 y12.1 cs18 fp19 ∧ Obo 67 head_Head.fs S1 w1 v30 y25.1 cs31 fp32 ∧ (∀ b, b ∈ fp19 → ¬ b ∈ fp32)) ?_ ?_
  · obtain ⟨o41, h44, h40⟩ := bnd_some h40
    refine cw_seq' (fun ρ w1 => ∃ S1, Cx No S w S1 w1 ∧ Has ρ [(0, v0), (1, .int .u8 a1), (5, .bool y5), (6, v17), (8, v30), (35, .bool o41)] ∧ Sl (kSl marigraphlaw11_Act.k) S1 w1 v0 a0 ∧ Obo 67 head_Head.fs S1 w1 v17 y12.1 cs18 fp19 ∧ Obo 67 head_Head.fs S1 w1 v30 y25.1 cs31 fp32 ∧ (∀ b, b ∈ fp19 → ¬ b ∈ fp32)) ?_ ?_
    · refine cw_region (sv (mvv v17 rfl) (sv (rv_nileq Try.underlying23 rfl rfl h20.ne) (sv (mvv (.bool y12.1.isNone) rfl) ?_)))
      rcases bif_some h44 with ⟨b45, h44⟩ | ⟨b45, h44⟩
      · refine W.n (gn rfl rfl rfl b45) (W.n (gn rfl rfl rfl b45) (sv (ptk (.bool true) rfl b45 rfl) (W.e ?_)))
        obtain rfl := Option.some.inj h44
        exact ⟨_, C, ⟨rfl, rfl, rfl, rfl, rfl, rfl, trivial⟩, h0, h20, h33, (ap_symm p35)⟩
      · refine W.v (gy rfl rfl rfl b45) (mvv v30 rfl) (W.v (gy rfl rfl rfl b45) (rv_nileq Try.underlying23 rfl rfl h33.ne) (sv (pfk (.bool y25.1.isNone) rfl b45 rfl) (W.e ?_)))
        obtain rfl := Option.some.inj h44
        exact ⟨_, C, ⟨rfl, rfl, rfl, rfl, rfl, rfl, trivial⟩, h0, h20, h33, (ap_symm p35)⟩
    · rintro ρ w47 ⟨S46, C, h49, h0, h20, h33, p48⟩
      refine h49.cw fun ρ => ?_
      clear h49
      rcases bif_some h40 with ⟨b50, h40⟩ | ⟨b50, h40⟩
      · refine cw_t rfl b50 ?_
        refine cw_seq fun K51 k52 => ?_
        refine cw_region (sv (asv (.bool false) rfl) (W.e (k52 _ _ (cw_ret ?_))))
        obtain rfl := Option.some.inj h40
        replace h := h.2 _ rfl
        obtain rfl := Option.some.inj h
        exact ⟨_, rfl, _, rfl, C⟩
      · refine cw_f rfl b50 (cw_skip ?_)
        obtain rfl := Option.some.inj h40
        exact ⟨_, rfl, ⟨_, C, ⟨rfl, rfl, rfl, rfl, rfl, trivial⟩, h0, h20, h33, p48⟩⟩
  · rintro ρ w54 ⟨o37n, rfl, ⟨S53, C, h56, h0, h20, h33, p55⟩⟩
    replace h := h.1 _ rfl
    refine h56.cw fun ρ => ?_
    clear h56
    refine cw_seq fun K57 k58 => ?_
    refine cw_region (sv (asv (.slice none 0 0) rfl) (W.e (k58 _ _ ?_)))
    refine cw_seq fun K59 k60 => ?_
    refine cw_region ?_
    refine sc (dc_mkmap ky_arr42 kB C.sb fun c61 b62 w63 h64 h65 u66 => ?_)
    have h67 : Mo (fMap ky_arr42 kB) S53 w63 c61 ([] : List (arr42 × Bool)) [b62] := ⟨h65, by simp⟩
    have h68p := C.up.size
    have h68q : ∀ q, q ∈ [b62] → w54.heap.size ≤ q := fun q hq => by simp at hq; omega
    have h68 : ∀ q, q ∈ [b62] → w.heap.size ≤ q := fun q hq => Nat.le_trans C.up.size (h68q q hq)
    have h68r : b62 < w63.heap.size := (h67.lt b62 (by simp)).1
    have p69 := ap_fresh h68q (fun b hb => (h20.lt b hb).1)
    have p70 := ap_fresh h68q (fun b hb => (h33.lt b hb).1)
    replace h0 := h0.nw u66
    replace h20 := h20.nw u66
    replace h33 := h33.nw u66
    replace C := C.new u66
    refine sv (asv c61 rfl) (W.e (k60 _ _ ?_))
    obtain ⟨o71, h74, h⟩ := bnd_some h
    refine cw_seq' (fun ρ w1 => ∃ S1 v233, Cx No S w S1 w1 ∧ Has ρ [(1, .int .u8 a1), (5, .bool y5), (6, v17), (8, v30), (10, v233)] ∧ Ow marigraphref11_Item.k 44 S1 w.heap.size w1 v233 o71.1 ∧ Obo 67 head_Head.fs S1 w1 v17 y12.1 cs18 fp19 ∧ Obo 67 head_Head.fs S1 w1 v30 y25.1 cs31 fp32 ∧ (∀ b, Blk v233 b → ¬ b ∈ fp19) ∧ (∀ b, Blk v233 b → ¬ b ∈ fp32) ∧ (∀ b, b ∈ fp19 → ¬ b ∈ fp32)) ?_ ?_
    · refine cw_seq fun K75 k76 => ?_
      refine cw_region (sv (mvv v0 rfl) (sv (rv_lenS el37 h0 rfl) (sv (mvv (.int .i64 0) rfl) (W.e (k76 _ _ (cw_block ?_))))))
      refine cw_iter h74 (fun s ρ w1 => ∃ S1 v80 fp83, Cx No S w S1 w1 ∧ Has ρ [(1, .int .u8 a1), (5, .bool y5), (6, v17), (8, v30), (10, v80), (11, c61), (37, v0), (38, .int .i64 (a0.length : Int)), (39, .int .i64 s.2.1)] ∧ Ow marigraphref11_Item.k 44 S1 w.heap.size w1 v80 s.1 ∧ Sl (kSl marigraphlaw11_Act.k) S1 w1 v0 a0 ∧ Obo 67 head_Head.fs S1 w1 v17 y12.1 cs18 fp19 ∧ Obo 67 head_Head.fs S1 w1 v30 y25.1 cs31 fp32 ∧ Mo (fMap ky_arr42 kB) S1 w1 c61 s.2.2 fp83 ∧ (∀ b, b ∈ fp83 → w.heap.size ≤ b) ∧ (∀ b, Blk v80 b → ¬ b ∈ fp19) ∧ (∀ b, Blk v80 b → ¬ b ∈ fp32) ∧ (∀ b, Blk v80 b → ¬ b ∈ fp83) ∧ (∀ b, b ∈ fp19 → ¬ b ∈ fp32) ∧ (∀ b, b ∈ fp19 → ¬ b ∈ fp83) ∧ (∀ b, b ∈ fp32 → ¬ b ∈ fp83)) ⟨_, _, _, C, ⟨rfl, rfl, rfl, rfl, rfl, rfl, rfl, rfl, rfl, trivial⟩, Ow.nil _ _ _ _ _, h0, h20, h33, h67, h68, ap_nil, ap_nil, ap_nil, p55, (ap_symm p69), (ap_symm p70)⟩ ?_
      rintro ⟨x92, x93, x94⟩ q77 ρ w79 ⟨S78, v80, fp83, C, h91, h81, h0, h20, h33, h82, h84, p85, p86, p87, p88, p89, p90⟩ h96 h95
      refine h91.cw fun ρ => ?_
      clear h91
      replace h96 : marigraphlaw11_HeadOrder.b4 a0 x92 x93 x94 = some q77 := h96
      unfold marigraphlaw11_HeadOrder.b4 at h96
      refine cw_seq fun K97 k98 => ?_
      refine cw_region (sv (rv_lss rfl rfl) (W.e (k98 _ _ ?_)))
      refine cw_seq fun K99 k100 => ?_
      rcases bif_some h96 with ⟨b101, h96⟩ | ⟨b101, h96⟩
      · refine cw_t rfl b101 (cw_skip (k100 _ _ ?_))
        obtain ⟨o102, h105, h96⟩ := bnd_some h96
        refine cw_seq' (fun ρ w1 => ∃ S1 v216 fp219, Cx No S w S1 w1 ∧ Has ρ [(1, .int .u8 a1), (5, .bool y5), (6, v17), (8, v30), (10, v216), (11, c61), (37, v0), (38, .int .i64 (a0.length : Int)), (39, .int .i64 x93)] ∧ Ow marigraphref11_Item.k 44 S1 w.heap.size w1 v216 o102.1 ∧ Sl (kSl marigraphlaw11_Act.k) S1 w1 v0 a0 ∧ Obo 67 head_Head.fs S1 w1 v17 y12.1 cs18 fp19 ∧ Obo 67 head_Head.fs S1 w1 v30 y25.1 cs31 fp32 ∧ Mo (fMap ky_arr42 kB) S1 w1 c61 o102.2 fp219 ∧ (∀ b, b ∈ fp219 → w.heap.size ≤ b) ∧ (∀ b, Blk v216 b → ¬ b ∈ fp19) ∧ (∀ b, Blk v216 b → ¬ b ∈ fp32) ∧ (∀ b, Blk v216 b → ¬ b ∈ fp219) ∧ (∀ b, b ∈ fp19 → ¬ b ∈ fp32) ∧ (∀ b, b ∈ fp19 → ¬ b ∈ fp219) ∧ (∀ b, b ∈ fp32 → ¬ b ∈ fp219)) ?_ ?_
        · refine cw_block ?_
          refine cw_seq fun K106 k107 => ?_
          refine cw_region (sv (mvv (.int .i64 x93) rfl) ?_)
          obtain ⟨y108, h109, h105⟩ := bnd_some h105
          refine sv (rv_index el37 h0 rfl rfl h109) ?_
          obtain ⟨v110, h111, h112⟩ := rw_loadA (P := Try.prog) el37 h0 h109
          obtain rfl := marigraphlaw11_Act.o.1 h111
          refine sr (h112 _ (Sm.refl _ _) rfl) ?_
          refine sc (dc_allocO (x0 := (marigraphlaw11_Act.mk (0 : Int) (0 : Int) (api_Point.mk (0 : Int) (0 : Int)))) (base := w.heap.size) el37 zr41 (fun _ => marigraphlaw11_Act.r.2 rfl) C.up.size C.sb fun b113 w114 h115 h116 u117 => ?_)
          have p118 := ap_fresh h116 (fun b hb => (h20.lt b hb).1)
          have p119 := ap_fresh h116 (fun b hb => (h33.lt b hb).1)
          have p120 := ap_fresh h116 (fun b hb => (h81.lt b hb).2)
          have p121 := ap_fresh h116 (fun b hb => (h82.lt b hb).1)
          replace h20 := h20.nw u117
          replace h0 := h0.nw u117
          replace h33 := h33.nw u117
          replace h81 := h81.nw u117
          replace h82 := h82.nw u117
          replace C := C.new u117
          refine sv (asv (.int .i64 x93) rfl) ?_
          obtain ⟨y122, h123, h105⟩ := pur_some h105
          have h127 := h115
          refine sc (dc_storeO el37 h127 (show at_ [(marigraphlaw11_Act.mk (0 : Int) (0 : Int) (api_Point.mk (0 : Int) (0 : Int)))] (0 : Int) = some (marigraphlaw11_Act.mk (0 : Int) (0 : Int) (api_Point.mk (0 : Int) (0 : Int))) from rfl) rfl rfl (((marigraphlaw11_Act.o (x := y108)).2 rfl)) fun w124 h125 u126 => ?_)
          replace h125 : Ow marigraphlaw11_Act.k 41 S78 w.heap.size w124 (.slice (some ⟨b113, 0, none⟩) 1 1) [y108] := h125
          rw [h123] at h125
          replace h20 := h20.wr u126 h127.not (ap_symm p118)
          replace h0 := h0.wr u126 h127.not
          replace h33 := h33.wr u126 h127.not (ap_symm p119)
          replace h81 := h81.wr u126 h127.not (ap_symm p120)
          replace h82 := h82.wr u126 h127.not (ap_symm p121)
          replace C := C.ow h127 u126
          refine W.e (k107 _ _ ?_)
          refine cw_seq fun K128 k129 => ?_
          refine cw_region (sv (rv_fieldAddr st41 rfl rfl) ?_)
          obtain ⟨cs130, h131, h132⟩ := Ow.cellsO h125 (show at_ [y122] (0 : Int) = some y122 from rfl)
          obtain rfl := marigraphlaw11_Act.r.1 h131
          refine sr (rw_el1 (off := 0) ag5 (h132 _ (Sm.refl _ _)) rfl rfl) ?_
          obtain ⟨y133, h134, h105⟩ := pur_some h105
          refine sv (rv_rem rfl rfl (by decide) h134) ?_
          obtain ⟨y135, h136, h105⟩ := pur_some h105
          refine sv (rv_conv Try.underlying5 Try.underlying3 rfl h136) (sv (rv_fieldAddr st41 rfl rfl) (sv (rv_fieldAddr st29 rfl rfl) ?_))
          obtain ⟨cs137, h138, h139⟩ := Ow.cellsO h125 (show at_ [y122] (0 : Int) = some y122 from rfl)
          obtain rfl := marigraphlaw11_Act.r.1 h138
          refine sr (rw_el1 (off := 2) ag3 (h139 _ (Sm.refl _ _)) rfl rfl) ?_
          obtain ⟨y140, h141, h105⟩ := pur_some h105
          refine sv (rv_rem rfl rfl (by decide) h141) ?_
          obtain ⟨y142, h143, h105⟩ := pur_some h105
          refine sv (rv_add rfl rfl h143) ?_
          obtain ⟨y144, h145, h105⟩ := pur_some h105
          refine sv (rv_rem rfl rfl (by decide) h145) (sv (rv_buildAr (r := [.int .i64 y135, .int .i64 y144]) ar42 zr42 rfl) ?_)
          refine sc (dc_alloc zr42 fun b146 w147 h149 h150 u151 h153 => ?_)
          refine sc (dc_store (vs := [.int .i64 y135, .int .i64 y144]) ag42 h153 rfl rfl (by intro c hc; simp only [List.mem_cons, List.not_mem_nil, or_false] at hc; rcases hc with rfl | rfl <;> rfl) rfl rfl rfl fun w148 u152 h155 h154 => ?_)
          obtain ⟨S156, c157, h158⟩ : ∃ S', Cx No S78 w124 S' w148 ∧ Bs S' w148 b146 [.int .i64 y135, .int .i64 y144] 42 := alloc_store C.sb h149 h150 u151 u152 h154
          replace h20 := h20.cx c157
          replace h0 := h0.cx c157
          replace h33 := h33.cx c157
          replace h81 := h81.cx c157
          replace h82 := h82.cx c157
          replace h125 := h125.cx c157
          replace C := C.trans c157
          refine W.e (k129 _ _ ?_)
          obtain ⟨o160, h163, h105⟩ := bnd_some h105
          refine cw_seq' (fun ρ w1 => ∃ S1, Cx No S w S1 w1 ∧ Has ρ [(1, .int .u8 a1), (5, .bool y5), (6, v17), (8, v30), (10, v80), (11, c61), (13, .pointer (some ⟨b113, 0, none⟩)), (14, .pointer (some ⟨b146, 0, none⟩)), (37, v0), (38, .int .i64 (a0.length : Int)), (39, .int .i64 x93), (62, .bool o160)] ∧ Ow marigraphref11_Item.k 44 S1 w.heap.size w1 v80 x92 ∧ Ow marigraphlaw11_Act.k 41 S1 w.heap.size w1 (.slice (some ⟨b113, 0, none⟩) 1 1) ([y122]) ∧ Bs S1 w1 b146 [.int .i64 y135, .int .i64 y144] 42 ∧ Sl (kSl marigraphlaw11_Act.k) S1 w1 v0 a0 ∧ Obo 67 head_Head.fs S1 w1 v17 y12.1 cs18 fp19 ∧ Obo 67 head_Head.fs S1 w1 v30 y25.1 cs31 fp32 ∧ Mo (fMap ky_arr42 kB) S1 w1 c61 x94 fp83 ∧ Ap v80 (.slice (some ⟨b113, 0, none⟩) 1 1) ∧ (∀ b, Blk v80 b → ¬ b ∈ fp19) ∧ (∀ b, Blk v80 b → ¬ b ∈ fp32) ∧ (∀ b, Blk v80 b → ¬ b ∈ fp83) ∧ (∀ b, Blk (.slice (some ⟨b113, 0, none⟩) 1 1) b → ¬ b ∈ fp19) ∧ (∀ b, Blk (.slice (some ⟨b113, 0, none⟩) 1 1) b → ¬ b ∈ fp32) ∧ (∀ b, Blk (.slice (some ⟨b113, 0, none⟩) 1 1) b → ¬ b ∈ fp83) ∧ (∀ b, b ∈ fp19 → ¬ b ∈ fp32) ∧ (∀ b, b ∈ fp19 → ¬ b ∈ fp83) ∧ (∀ b, b ∈ fp32 → ¬ b ∈ fp83)) ?_ ?_
          · refine cw_region (sv (mvv (.int .i64 x93) rfl) (sv (rv_lss rfl rfl) (sv (mvv (.bool (decide (x93 < (100 : Int)))) rfl) ?_)))
            rcases bif_some h163 with ⟨b164, h163⟩ | ⟨b164, h163⟩
            · refine W.v (gy rfl rfl rfl b164) (mvv c61 rfl) (W.r (gy rfl rfl rfl b164) (rw_bkA ag42 h158.2 rfl rfl rfl) ?_)
              obtain ⟨v165, h166, h167⟩ := rep_look (P := Try.prog) (tm := 39) (te := 4) (y0 := false) h82.1 Try.underlying39 zv4 (sl_sc.2 rfl) (arr42.mk y135 y144)
              obtain rfl := sl_sc.1 h166
              refine W.r (gy rfl rfl rfl b164) ((h167 (Sm.refl _ _) rfl rfl).1) (W.v (gy rfl rfl rfl b164) (rv_not rfl) (sv (ptk (.bool (!((mget (arr42.mk y135 y144) x94).getD false))) rfl b164 rfl) (W.e ?_)))
              obtain rfl := Option.some.inj h163
              exact ⟨_, C, ⟨rfl, rfl, rfl, rfl, rfl, rfl, rfl, rfl, rfl, rfl, rfl, rfl, trivial⟩, h81, h125, h158, h0, h20, h33, h82, (ap_symm p120), p85, p86, p87, p118, p119, p121, p88, p89, p90⟩
            · refine W.n (gn rfl rfl rfl b164) (W.n (gn rfl rfl rfl b164) (W.n (gn rfl rfl rfl b164) (W.n (gn rfl rfl rfl b164) (sv (pfk (.bool false) rfl b164 rfl) (W.e ?_)))))
              obtain rfl := Option.some.inj h163
              exact ⟨_, C, ⟨rfl, rfl, rfl, rfl, rfl, rfl, rfl, rfl, rfl, rfl, rfl, rfl, trivial⟩, h81, h125, h158, h0, h20, h33, h82, (ap_symm p120), p85, p86, p87, p118, p119, p121, p88, p89, p90⟩
          · rintro ρ w169 ⟨S168, C, h180, h81, h125, h158, h0, h20, h33, h82, p170, p171, p172, p173, p174, p175, p176, p177, p178, p179⟩
            refine h180.cw fun ρ => ?_
            clear h180
            rcases bif_some h105 with ⟨b181, h105⟩ | ⟨b181, h105⟩
            · refine cw_t rfl b181 ?_
              refine cw_seq fun K182 k183 => ?_
              refine cw_region (sv (mvv c61 rfl) (sr (rw_bkA ag42 h158.2 rfl rfl rfl) ?_))
              obtain ⟨y184, h185, h105⟩ := pur_some h105
              have h190 : ∀ b, b ∈ fp83 → ¬ S168 b := fun b hb => (h82.lt b hb).2
              refine sc (dc_mmset (a := (arr42.mk y135 y144)) h82 Try.underlying39 rfl rfl rfl (sl_sc.2 rfl) fun w186 h187 u188 => ?_)
              replace h187 : Mo (fMap ky_arr42 kB) S168 w186 c61 (mput (arr42.mk y135 y144) true x94) fp83 := h187
              rw [h185] at h187
              have c189 := Cx.ofUp C.sb u188
              replace h0 := h0.cf c189 h190
              replace h20 := h20.cf c189 h190 p178
              replace h33 := h33.cf c189 h190 p179
              replace h81 := h81.cf c189 h190 p173
              replace h125 := h125.cf c189 h190 p176
              replace h158 := h158.cf c189 h190
              replace C := C.ofc c189 (fun b hb => .inr (h84 b hb))
              refine W.e (k183 _ _ (cw_region (sv (mvv v80 rfl) (sv (rv_indexAr (i := 0) ar42 rfl rfl rfl) (sr (rw_bk ag3 h158.2 rfl rfl) (sv (rv_indexAr (i := 1) ar42 rfl rfl rfl) (sr (rw_bk ag3 h158.2 rfl rfl) (sv (rv_fieldAddr st41 rfl rfl) (sv (rv_fieldAddr st29 rfl rfl) ?_)))))))))
              obtain ⟨cs191, h192, h193⟩ := Ow.cellsO h125 (show at_ [y122] (0 : Int) = some y122 from rfl)
              obtain rfl := marigraphlaw11_Act.r.1 h192
              refine sr (rw_el1 (off := 3) ag3 (h193 _ (Sm.refl _ _)) rfl rfl) (sv (rv_build (r := [.int .i64 y144, .int .i64 y122.P.V]) st29 zr29 rfl) (sv (rv_build (r := [.int .i64 y135, .int .i64 y144, .int .i64 y122.P.V]) st44 zr44 rfl) ?_))
              refine sc (dc_lit (vs := [.agg (List.toArray [.int .i64 y135, .int .i64 y144, .int .i64 y122.P.V])]) (xs := ([(marigraphref11_Item.mk y135 (api_Point.mk y144 y122.P.V))] : List marigraphref11_Item)) (base := w.heap.size) el38 rfl rfl (.cons ((marigraphref11_Item.o (x := (marigraphref11_Item.mk y135 (api_Point.mk y144 y122.P.V)))).2 rfl) (.nil)) (Nat.le_of_ble_eq_true rfl) C.up.size C.sb fun v194 w195 h196 h197 u198 => ?_)
              have p199 := ap_fresh h197 (fun b hb => (h81.lt b hb).2)
              have p200 := ap_fresh h197 (fun b hb => (h20.lt b hb).1)
              have p201 := ap_fresh h197 (fun b hb => (h33.lt b hb).1)
              have p202 := ap_fresh h197 (fun b hb => (h187.lt b hb).1)
              replace h81 := h81.nw u198
              replace h0 := h0.nw u198
              replace h20 := h20.nw u198
              replace h33 := h33.nw u198
              replace h187 := h187.nw u198
              replace C := C.new u198
              obtain ⟨y203, h204, h105⟩ := bnd_some h105
              have h210 := h81
              refine sc (dc_append el38 (by decide) h210 h196.src rfl rfl h204 C.up.size C.sb fun v205 w206 h207 u208 h209 => ?_)
              have p211 := ap_grow p171 h209 (fun b hb => (h20.lt b hb).1)
              have p212 := ap_grow p172 h209 (fun b hb => (h33.lt b hb).1)
              have p213 := ap_grow p173 h209 (fun b hb => (h187.lt b hb).1)
              replace h0 := h0.wr u208 h210.not
              replace h20 := h20.wr u208 h210.not (ap_symm p171)
              replace h33 := h33.wr u208 h210.not (ap_symm p172)
              replace h187 := h187.wr u208 h210.not (ap_symm p173)
              replace C := C.ow h210 u208
              refine sv (asv v205 rfl) (W.e ?_)
              obtain rfl := Option.some.inj h105
              exact ⟨_, _, _, C, ⟨rfl, rfl, rfl, rfl, rfl, rfl, rfl, rfl, rfl, trivial⟩, h207, h0, h20, h33, h187, h84, p211, p212, p213, p177, p178, p179⟩
            · refine cw_f rfl b181 (cw_skip ?_)
              obtain rfl := Option.some.inj h105
              exact ⟨_, _, _, C, ⟨rfl, rfl, rfl, rfl, rfl, rfl, rfl, rfl, rfl, trivial⟩, h81, h0, h20, h33, h82, h84, p171, p172, p173, p177, p178, p179⟩
        · rintro ρ w215 ⟨S214, v216, fp219, C, h227, h217, h0, h20, h33, h218, h220, p221, p222, p223, p224, p225, p226⟩
          refine h227.cw fun ρ => ?_
          clear h227
          refine cw_region ?_
          obtain ⟨y228, h229, h96⟩ := pur_some h96
          refine sv (rv_add rfl rfl h229) (sv (mvv (.int .i64 y228) rfl) (W.e ?_))
          obtain rfl := Option.some.inj h96
          exact ⟨_, rfl, ⟨_, _, _, C, ⟨rfl, rfl, rfl, rfl, rfl, rfl, rfl, rfl, rfl, trivial⟩, h217, h0, h20, h33, h218, h220, p221, p222, p223, p224, p225, p226⟩⟩
      · refine cw_f rfl b101 (cw_exit ?_)
        obtain rfl := Option.some.inj h96
        have h230 := congrArg some h95
        obtain rfl := Option.some.inj h230
        exact ⟨_, _, C, ⟨rfl, rfl, rfl, rfl, rfl, trivial⟩, h81, h20, h33, p85, p86, p88⟩
    · rintro ρ w232 ⟨S231, v233, C, h238, h234, h20, h33, p235, p236, p237⟩
      refine h238.cw fun ρ => ?_
      clear h238
      refine cw_seq fun K239 k240 => ?_
      refine cw_region (sv (mvv (.int .u8 a1) rfl) ?_)
      obtain ⟨y241, h242, h⟩ := pur_some h
      refine sv (rv_conv Try.underlying5 Try.underlying3 rfl h242) (sv (mvv v233 rfl) (sv (rv_lenS el38 h234.sealed rfl) ?_))
      obtain ⟨y243, h244, h⟩ := pur_some h
      refine sv (rv_add rfl rfl h244) ?_
      obtain ⟨y245, h246, h⟩ := bnd_some h
      obtain ⟨h247, h246⟩ := nz_some h246
      refine sv (rv_rem rfl rfl h247 h246) (sv (asv (.int .i64 y245) rfl) (W.e (k240 _ _ ?_)))
      obtain ⟨o248, h251, h⟩ := bnds_some h
      refine cw_seq' (fun ρ w1 => ∃ o248n, o248 = (.inl o248n) ∧ ∃ S1 fp328 cs330, Cx No S w S1 w1 ∧ Has ρ [(5, .bool y5), (6, v17), (8, v30), (10, v233), (15, .int .i64 y245)] ∧ Ow marigraphref11_Item.k 44 S1 w.heap.size w1 v233 o71.1 ∧ Obo 67 head_Head.fs S1 w1 v17 o248n cs330 fp328 ∧ (∀ b, b ∈ fp328 → w.heap.size ≤ b) ∧ Obo 67 head_Head.fs S1 w1 v30 y25.1 cs31 fp32 ∧ (∀ b, Blk v233 b → ¬ b ∈ fp328) ∧ (∀ b, Blk v233 b → ¬ b ∈ fp32) ∧ (∀ b, b ∈ fp328 → ¬ b ∈ fp32)) ?_ ?_
      · refine cw_seq fun K252 k253 => ?_
        refine cw_region (sv (mvv v233 rfl) (sv (rv_lenS el38 h234.sealed rfl) (sv (mvv (.int .i64 0) rfl) (W.e (k253 _ _ (cw_block ?_))))))
        refine cw_iter h251 (fun s ρ w1 => ∃ S1 fp258 cs260, Cx No S w S1 w1 ∧ Has ρ [(5, .bool y5), (6, v17), (8, v30), (10, v233), (15, .int .i64 y245), (84, v233), (85, .int .i64 (o71.1.length : Int)), (86, .int .i64 s.1)] ∧ Ow marigraphref11_Item.k 44 S1 w.heap.size w1 v233 o71.1 ∧ Obo 67 head_Head.fs S1 w1 v17 s.2 cs260 fp258 ∧ (∀ b, b ∈ fp258 → w.heap.size ≤ b) ∧ Obo 67 head_Head.fs S1 w1 v30 y25.1 cs31 fp32 ∧ (∀ b, Blk v233 b → ¬ b ∈ fp258) ∧ (∀ b, Blk v233 b → ¬ b ∈ fp32) ∧ (∀ b, b ∈ fp258 → ¬ b ∈ fp32)) ⟨_, _, _, C, ⟨rfl, rfl, rfl, rfl, rfl, rfl, rfl, rfl, trivial⟩, h234, h20, h22, h33, p235, p236, p237⟩ ?_
        rintro ⟨x265, x266⟩ q254 ρ w256 ⟨S255, fp258, cs260, C, h264, h234, h257, h259, h33, p261, p262, p263⟩ h268 h267
        refine h264.cw fun ρ => ?_
        clear h264
        replace h268 : marigraphlaw11_HeadOrder.b8 o71 x265 x266 = some q254 := h268
        unfold marigraphlaw11_HeadOrder.b8 at h268
        refine cw_seq fun K269 k270 => ?_
        refine cw_region (sv (rv_lss rfl rfl) (W.e (k270 _ _ ?_)))
        refine cw_seq fun K271 k272 => ?_
        rcases bif_some h268 with ⟨b273, h268⟩ | ⟨b273, h268⟩
        · refine cw_t rfl b273 (cw_skip (k272 _ _ ?_))
          refine cw_seq fun K274 k275 => ?_
          refine cw_block ?_
          refine cw_seq fun K276 k277 => ?_
          refine cw_region ?_
          obtain ⟨y278, h279, h268⟩ := bnd_some h268
          refine sv (rv_index el38 h234.sealed rfl rfl h279) ?_
          obtain ⟨v280, h281, h282⟩ := rw_loadO (P := Try.prog) el38 h234 h279
          obtain rfl := marigraphref11_Item.o.1 h281
          refine sr (h282 _ (Sm.refl _ _) rfl) ?_
          refine sc (dc_allocO (x0 := (marigraphref11_Item.mk (0 : Int) (api_Point.mk (0 : Int) (0 : Int)))) (base := w.heap.size) el38 zr44 (fun _ => marigraphref11_Item.r.2 rfl) C.up.size C.sb fun b283 w284 h285 h286 u287 => ?_)
          have p288 := ap_fresh h286 (fun b hb => (h257.lt b hb).1)
          have p289 := ap_fresh h286 (fun b hb => (h33.lt b hb).1)
          have p290 := ap_fresh h286 (fun b hb => (h234.lt b hb).2)
          replace h257 := h257.nw u287
          replace h33 := h33.nw u287
          replace h234 := h234.nw u287
          replace C := C.new u287
          obtain ⟨y291, h292, h268⟩ := pur_some h268
          have h296 := h285
          refine sc (dc_storeO el38 h296 (show at_ [(marigraphref11_Item.mk (0 : Int) (api_Point.mk (0 : Int) (0 : Int)))] (0 : Int) = some (marigraphref11_Item.mk (0 : Int) (api_Point.mk (0 : Int) (0 : Int))) from rfl) rfl rfl (((marigraphref11_Item.o (x := y278)).2 rfl)) fun w293 h294 u295 => ?_)
          replace h294 : Ow marigraphref11_Item.k 44 S255 w.heap.size w293 (.slice (some ⟨b283, 0, none⟩) 1 1) [y278] := h294
          rw [h292] at h294
          replace h257 := h257.wr u295 h296.not (ap_symm p288)
          replace h33 := h33.wr u295 h296.not (ap_symm p289)
          replace h234 := h234.wr u295 h296.not (ap_symm p290)
          replace C := C.ow h296 u295
          refine W.e (k277 _ _ ?_)
          refine cw_seq fun K297 k298 => ?_
          refine cw_region (sv (mvv v17 rfl) (sv (rv_fieldAddr st44 rfl rfl) ?_))
          obtain ⟨cs299, h300, h301⟩ := Ow.cellsO h294 (show at_ [y291] (0 : Int) = some y291 from rfl)
          obtain rfl := marigraphref11_Item.r.1 h300
          refine sr (rw_el1 (off := 0) ag3 (h301 _ (Sm.refl _ _)) rfl rfl) (sv (rv_fieldAddr st44 rfl rfl) ?_)
          obtain ⟨cs302, h303, h304⟩ := Ow.cellsO h294 (show at_ [y291] (0 : Int) = some y291 from rfl)
          obtain rfl := marigraphref11_Item.r.1 h303
          refine sr (rw_elA (off := 1) ag29 (h304 _ (Sm.refl _ _)) rfl rfl rfl) ?_
          obtain ⟨y305, h306, h268⟩ := bnd_some h268
          refine sc (dc_call (vs := [v17, .int .i64 y291.Id, .agg (List.toArray [.int .i64 y291.P.T, .int .i64 y291.P.V])]) can12 rfl ?_)
          refine (head_Head_Add_w C.sb h257 ((api_Point.o (x := y291.P)).2 rfl) h306).mono ?_
          rintro _ w307 ⟨S308, cs310, fp311, rfl, c309, h312, h313⟩
          refine ⟨_, rfl, ?_⟩
          have h314 : ∀ b, b ∈ fp258 → ¬ S255 b := fun b hb => (h257.lt b hb).2
          have p315 := ap_grow p263 h313 (fun b hb => (h33.lt b hb).1)
          have p316 := ap_grow (ap_symm p261) h313 (fun b hb => (h234.lt b hb).2)
          have h317 : ∀ b, b ∈ fp311 → w.heap.size ≤ b := fun b hb => (h313 b hb).elim (h259 b) (fun hl => Nat.le_trans C.up.size hl)
          replace h33 := h33.cf c309 h314 (ap_symm p263)
          replace h234 := h234.cf c309 h314 p261
          replace C := C.ofc c309 (fun b hb => .inr (h259 b hb))
          refine sv (rv_neq rfl rfl) (W.e (k298 _ _ ?_))
          rcases bif_some h268 with ⟨b318, h268⟩ | ⟨b318, h268⟩
          · refine cw_t rfl b318 ?_
            refine cw_seq fun K319 k320 => ?_
            refine cw_region (sv (asv (.bool false) rfl) (W.e (k320 _ _ (cw_ret ?_))))
            obtain rfl := Option.some.inj h268
            have h321 := congrArg some h267
            obtain rfl := Option.some.inj h321
            replace h := h.2 _ rfl
            obtain rfl := Option.some.inj h
            exact ⟨_, rfl, _, rfl, C⟩
          · refine cw_f rfl b318 (cw_skip (k275 _ _ (cw_region ?_)))
            obtain ⟨y322, h323, h268⟩ := pur_some h268
            refine sv (rv_add rfl rfl h323) (sv (mvv (.int .i64 y322) rfl) (W.e ?_))
            obtain rfl := Option.some.inj h268
            exact ⟨_, rfl, ⟨_, _, _, C, ⟨rfl, rfl, rfl, rfl, rfl, rfl, rfl, rfl, trivial⟩, h234, h312, h317, h33, (ap_symm p316), p262, p315⟩⟩
        · refine cw_f rfl b273 (cw_exit ?_)
          obtain rfl := Option.some.inj h268
          have h324 := congrArg some h267
          obtain rfl := Option.some.inj h324
          exact ⟨_, rfl, ⟨_, _, _, C, ⟨rfl, rfl, rfl, rfl, rfl, trivial⟩, h234, h257, h259, h33, p261, p262, p263⟩⟩
      · rintro ρ w326 ⟨o248n, rfl, ⟨S325, fp328, cs330, C, h334, h234, h327, h329, h33, p331, p332, p333⟩⟩
        replace h := h.1 _ rfl
        refine h334.cw fun ρ => ?_
        clear h334
        obtain ⟨o335, h338, h⟩ := bnds_some h
        refine cw_seq' (fun ρ w1 => ∃ o335n, o335 = (.inl o335n) ∧ ∃ S1 fp457 cs459, Cx No S w S1 w1 ∧ Has ρ [(5, .bool y5), (6, v17), (8, v30), (10, v233)] ∧ Sl (kSl marigraphref11_Item.k) S1 w1 v233 o71.1 ∧ Obo 67 head_Head.fs S1 w1 v17 o248n cs330 fp328 ∧ Obo 67 head_Head.fs S1 w1 v30 o335n cs459 fp457 ∧ (∀ b, b ∈ fp457 → w.heap.size ≤ b) ∧ (∀ b, b ∈ fp328 → ¬ b ∈ fp457)) ?_ ?_
        · refine cw_seq fun K339 k340 => ?_
          replace h327 := h327.or (ap_symm p331)
          replace h33 := h33.or (ap_symm p332)
          replace C := C.sealO h234
          replace h234 := h234.sealed
          refine cw_drawU (.one 1 true (.one 2 true (.one 3 true (.one 5 true (.one 6 true (.one 7 true (.one 10 true (.one 0 false (.one 4 false (.one 8 false (.one 9 true .done))))))))))) [] [(0, []), (4, []), (8, [])] (fun c => No) fol (by kernel_rfl) fun w341 u342 => ?_
          replace h327 := h327.nw u342
          replace h33 := h33.nw u342
          replace h234 := h234.nw u342
          replace C := C.new u342
          have h327d := h327
          have h33d := h33
          have h234d := h234
          refine mtv rfl rfl (mvv v233 rfl) (mtv rfl rfl (mvv (.int .i64 y245) rfl) ?_)
          obtain ⟨y343, h344, h338⟩ := bnd_some h338
          obtain ⟨v345, h346, h347⟩ := rv_fromA (P := Try.prog) el38 h234 h344
          refine mtv rfl rfl (h347 rfl rfl) (mtv rfl rfl (mvv v233 rfl) (mtv rfl rfl (mvv (.int .i64 y245) rfl) ?_))
          obtain ⟨y348, h349, h338⟩ := bnd_some h338
          obtain ⟨v350, h351, h352⟩ := rv_uptoA (P := Try.prog) el38 h234 h349
          refine mtv rfl rfl (h352 rfl rfl) (mtv rfl rfl (mvv (.int .i64 0) rfl) ?_)
          refine mtc rfl rfl (dc_lit (vs := []) (xs := ([] : List marigraphref11_Item)) (base := w.heap.size) el38 rfl rfl (.nil) (Nat.le_of_ble_eq_true rfl) C.up.size C.sb fun v353 w354 h355 h356 u357 => ?_)
          have p358 := ap_fresh h356 (fun b hb => (h327.lt b hb).1)
          have p359 := ap_fresh h356 (fun b hb => (h33.lt b hb).1)
          replace h327 := h327.nw u357
          replace h346 := h346.nw u357
          replace h33 := h33.nw u357
          replace h351 := h351.nw u357
          replace h234 := h234.nw u357
          replace C := C.new u357
          have z360 := (u357).size
          refine ⟨trivial, ?_⟩
          obtain ⟨y361, h362, h338⟩ := bnd_some h338
          have h368 := h355
          refine mtc rfl rfl (dc_append el38 (by decide) h368 (h346.src fun _ h => h) rfl rfl h362 C.up.size C.sb fun v363 w364 h365 u366 h367 => ?_)
          have p369 := ap_grow p358 h367 (fun b hb => (h327.lt b hb).1)
          have p370 := ap_grow p359 h367 (fun b hb => (h33.lt b hb).1)
          replace h327 := h327.wr u366 h368.not (ap_symm p358)
          replace h33 := h33.wr u366 h368.not (ap_symm p359)
          replace h351 := h351.wr u366 h368.not
          replace h234 := h234.wr u366 h368.not
          replace C := C.ow h368 u366
          have z371 := (u366).size
          refine ⟨trivial, ?_⟩
          obtain ⟨y372, h373, h338⟩ := bnd_some h338
          have h379 := h365
          refine mtc rfl rfl (dc_append el38 (by decide) h379 (h351.src fun _ h => h) rfl rfl h373 C.up.size C.sb fun v374 w375 h376 u377 h378 => ?_)
          have p380 := ap_grow p369 h378 (fun b hb => (h327.lt b hb).1)
          have p381 := ap_grow p370 h378 (fun b hb => (h33.lt b hb).1)
          replace h327 := h327.wr u377 h379.not (ap_symm p369)
          replace h33 := h33.wr u377 h379.not (ap_symm p370)
          replace h234 := h234.wr u377 h379.not
          replace C := C.ow h379 u377
          have z382 := (u377).size
          refine ⟨trivial, ?_⟩
          refine mtv rfl rfl (rv_lenS el38 h376.sealed rfl) (MT.e (k340 _ _ (cw_block ?_)))
          refine cw_iter h338 (fun s ρ w1 => ∃ S1 fp387 cs389, Cx No S w S1 w1 ∧ Has ρ [(5, .bool y5), (6, v17), (8, v30), (10, v233), (106, v374), (107, .int .i64 (y372.length : Int)), (108, .int .i64 s.1)] ∧ Sl (kSl marigraphref11_Item.k) S1 w1 v233 o71.1 ∧ Ow marigraphref11_Item.k 44 S1 w.heap.size w1 v374 y372 ∧ Obo 67 head_Head.fs S1 w1 v17 o248n cs330 fp328 ∧ Obo 67 head_Head.fs S1 w1 v30 s.2 cs389 fp387 ∧ (∀ b, b ∈ fp387 → w.heap.size ≤ b) ∧ (∀ b, Blk v374 b → ¬ b ∈ fp328) ∧ (∀ b, Blk v374 b → ¬ b ∈ fp387) ∧ (∀ b, b ∈ fp328 → ¬ b ∈ fp387)) ⟨_, _, _, C, ⟨rfl, rfl, rfl, rfl, rfl, rfl, rfl, trivial⟩, h234, h376, h327, h33, h36, p380, p381, p333⟩ ?_
          rintro ⟨x394, x395⟩ q383 ρ w385 ⟨S384, fp387, cs389, C, h393, h234, h376, h327, h386, h388, p390, p391, p392⟩ h397 h396
          refine h393.cw fun ρ => ?_
          clear h393
          replace h397 : marigraphlaw11_HeadOrder.b10 y372 x394 x395 = some q383 := h397
          unfold marigraphlaw11_HeadOrder.b10 at h397
          refine cw_seq fun K398 k399 => ?_
          refine cw_region (sv (rv_lss rfl rfl) (W.e (k399 _ _ ?_)))
          refine cw_seq fun K400 k401 => ?_
          rcases bif_some h397 with ⟨b402, h397⟩ | ⟨b402, h397⟩
          · refine cw_t rfl b402 (cw_skip (k401 _ _ ?_))
            refine cw_seq fun K403 k404 => ?_
            refine cw_block ?_
            refine cw_seq fun K405 k406 => ?_
            refine cw_region ?_
            obtain ⟨y407, h408, h397⟩ := bnd_some h397
            refine sv (rv_index el38 h376.sealed rfl rfl h408) ?_
            obtain ⟨v409, h410, h411⟩ := rw_loadO (P := Try.prog) el38 h376 h408
            obtain rfl := marigraphref11_Item.o.1 h410
            refine sr (h411 _ (Sm.refl _ _) rfl) ?_
            refine sc (dc_allocO (x0 := (marigraphref11_Item.mk (0 : Int) (api_Point.mk (0 : Int) (0 : Int)))) (base := w.heap.size) el38 zr44 (fun _ => marigraphref11_Item.r.2 rfl) C.up.size C.sb fun b412 w413 h414 h415 u416 => ?_)
            have p417 := ap_fresh h415 (fun b hb => (h327.lt b hb).1)
            have p418 := ap_fresh h415 (fun b hb => (h386.lt b hb).1)
            have p419 := ap_fresh h415 (fun b hb => (h376.lt b hb).2)
            replace h327 := h327.nw u416
            replace h386 := h386.nw u416
            replace h234 := h234.nw u416
            replace h376 := h376.nw u416
            replace C := C.new u416
            obtain ⟨y420, h421, h397⟩ := pur_some h397
            have h425 := h414
            refine sc (dc_storeO el38 h425 (show at_ [(marigraphref11_Item.mk (0 : Int) (api_Point.mk (0 : Int) (0 : Int)))] (0 : Int) = some (marigraphref11_Item.mk (0 : Int) (api_Point.mk (0 : Int) (0 : Int))) from rfl) rfl rfl (((marigraphref11_Item.o (x := y407)).2 rfl)) fun w422 h423 u424 => ?_)
            replace h423 : Ow marigraphref11_Item.k 44 S384 w.heap.size w422 (.slice (some ⟨b412, 0, none⟩) 1 1) [y407] := h423
            rw [h421] at h423
            replace h327 := h327.wr u424 h425.not (ap_symm p417)
            replace h386 := h386.wr u424 h425.not (ap_symm p418)
            replace h234 := h234.wr u424 h425.not
            replace h376 := h376.wr u424 h425.not (ap_symm p419)
            replace C := C.ow h425 u424
            refine W.e (k406 _ _ ?_)
            refine cw_seq fun K426 k427 => ?_
            refine cw_region (sv (mvv v30 rfl) (sv (rv_fieldAddr st44 rfl rfl) ?_))
            obtain ⟨cs428, h429, h430⟩ := Ow.cellsO h423 (show at_ [y420] (0 : Int) = some y420 from rfl)
            obtain rfl := marigraphref11_Item.r.1 h429
            refine sr (rw_el1 (off := 0) ag3 (h430 _ (Sm.refl _ _)) rfl rfl) (sv (rv_fieldAddr st44 rfl rfl) ?_)
            obtain ⟨cs431, h432, h433⟩ := Ow.cellsO h423 (show at_ [y420] (0 : Int) = some y420 from rfl)
            obtain rfl := marigraphref11_Item.r.1 h432
            refine sr (rw_elA (off := 1) ag29 (h433 _ (Sm.refl _ _)) rfl rfl rfl) ?_
            obtain ⟨y434, h435, h397⟩ := bnd_some h397
            refine sc (dc_call (vs := [v30, .int .i64 y420.Id, .agg (List.toArray [.int .i64 y420.P.T, .int .i64 y420.P.V])]) can12 rfl ?_)
            refine (head_Head_Add_w C.sb h386 ((api_Point.o (x := y420.P)).2 rfl) h435).mono ?_
            rintro _ w436 ⟨S437, cs439, fp440, rfl, c438, h441, h442⟩
            refine ⟨_, rfl, ?_⟩
            have h443 : ∀ b, b ∈ fp387 → ¬ S384 b := fun b hb => (h386.lt b hb).2
            have p444 := ap_grow (ap_symm p392) h442 (fun b hb => (h327.lt b hb).1)
            have p445 := ap_grow (ap_symm p391) h442 (fun b hb => (h376.lt b hb).2)
            have h446 : ∀ b, b ∈ fp440 → w.heap.size ≤ b := fun b hb => (h442 b hb).elim (h388 b) (fun hl => Nat.le_trans C.up.size hl)
            replace h327 := h327.cf c438 h443 p392
            replace h234 := h234.cf c438 h443
            replace h376 := h376.cf c438 h443 p391
            replace C := C.ofc c438 (fun b hb => .inr (h388 b hb))
            refine sv (rv_neq rfl rfl) (W.e (k427 _ _ ?_))
            rcases bif_some h397 with ⟨b447, h397⟩ | ⟨b447, h397⟩
            · refine cw_t rfl b447 ?_
              refine cw_seq fun K448 k449 => ?_
              refine cw_region (sv (asv (.bool false) rfl) (W.e (k449 _ _ (cw_ret ?_))))
              obtain rfl := Option.some.inj h397
              have h450 := congrArg some h396
              obtain rfl := Option.some.inj h450
              replace h := h.2 _ rfl
              obtain rfl := Option.some.inj h
              exact ⟨_, rfl, _, rfl, C⟩
            · refine cw_f rfl b447 (cw_skip (k404 _ _ (cw_region ?_)))
              obtain ⟨y451, h452, h397⟩ := pur_some h397
              refine sv (rv_add rfl rfl h452) (sv (mvv (.int .i64 y451) rfl) (W.e ?_))
              obtain rfl := Option.some.inj h397
              exact ⟨_, rfl, ⟨_, _, _, C, ⟨rfl, rfl, rfl, rfl, rfl, rfl, rfl, trivial⟩, h234, h376, h327, h441, h446, p390, (ap_symm p445), (ap_symm p444)⟩⟩
          · refine cw_f rfl b402 (cw_exit ?_)
            obtain rfl := Option.some.inj h397
            have h453 := congrArg some h396
            obtain rfl := Option.some.inj h453
            exact ⟨_, rfl, ⟨_, _, _, C, ⟨rfl, rfl, rfl, rfl, trivial⟩, h234, h327, h386, h388, p392⟩⟩
        · rintro ρ w455 ⟨o335n, rfl, ⟨S454, fp457, cs459, C, h461, h234, h327, h456, h458, p460⟩⟩
          replace h := h.1 _ rfl
          refine h461.cw fun ρ => ?_
          clear h461
          obtain ⟨o462, h465, h⟩ := bnds_some h
          refine cw_seq' (fun ρ w1 => ∃ o462n, o462 = (.inl o462n) ∧ ∃ S1, Cx No S w S1 w1 ∧ Has ρ [(5, .bool y5), (6, v17), (10, v233)] ∧ Sl (kSl marigraphref11_Item.k) S1 w1 v233 o71.1 ∧ Obo 67 head_Head.fs S1 w1 v17 o248n cs330 fp328) ?_ ?_
          · refine cw_seq fun K466 k467 => ?_
            refine cw_region (sv (mvv (.int .i64 0) rfl) (W.e (k467 _ _ (cw_block ?_))))
            refine cw_iter h465 (fun s ρ w1 => ∃ S1, Cx No S w S1 w1 ∧ Has ρ [(5, .bool y5), (6, v17), (8, v30), (10, v233), (120, .int .i64 s)] ∧ Sl (kSl marigraphref11_Item.k) S1 w1 v233 o71.1 ∧ Obo 67 head_Head.fs S1 w1 v17 o248n cs330 fp328 ∧ Obo 67 head_Head.fs S1 w1 v30 o335n cs459 fp457 ∧ (∀ b, b ∈ fp328 → ¬ b ∈ fp457)) ⟨_, C, ⟨rfl, rfl, rfl, rfl, rfl, trivial⟩, h234, h327, h456, p460⟩ ?_
            rintro x473 q468 ρ w470 ⟨S469, C, h472, h234, h327, h456, p471⟩ h475 h474
            refine h472.cw fun ρ => ?_
            clear h472
            replace h475 : marigraphlaw11_HeadOrder.b12 o248n o335n x473 = some q468 := h475
            unfold marigraphlaw11_HeadOrder.b12 at h475
            refine cw_seq fun K476 k477 => ?_
            refine cw_region (sv (rv_lss rfl rfl) (W.e (k477 _ _ ?_)))
            refine cw_seq fun K478 k479 => ?_
            rcases bif_some h475 with ⟨b480, h475⟩ | ⟨b480, h475⟩
            · refine cw_t rfl b480 (cw_skip (k479 _ _ ?_))
              obtain ⟨o481, h484, h475⟩ := bnds_some h475
              refine cw_seq' (fun ρ w1 => ∃ o481n, o481 = (.inl o481n) ∧ ∃ S1, Cx No S w S1 w1 ∧ Has ρ [(5, .bool y5), (6, v17), (8, v30), (10, v233), (120, .int .i64 x473)] ∧ Sl (kSl marigraphref11_Item.k) S1 w1 v233 o71.1 ∧ Obo 67 head_Head.fs S1 w1 v17 o248n cs330 fp328 ∧ Obo 67 head_Head.fs S1 w1 v30 o335n cs459 fp457 ∧ (∀ b, b ∈ fp328 → ¬ b ∈ fp457)) ?_ ?_
              · refine cw_block ?_
                refine cw_seq fun K485 k486 => ?_
                refine cw_region (sv (mvv (.int .i64 x473) rfl) (sv (asv (.int .i64 x473) rfl) (W.e (k486 _ _ ?_))))
                obtain ⟨o487, h490, h484⟩ := bnd_some h484
                refine cw_seq' (fun ρ w1 => ∃ S1, Cx No S w S1 w1 ∧ Has ρ [(5, .bool y5), (6, v17), (8, v30), (10, v233), (120, .int .i64 x473), (137, .bool o487)] ∧ Sl (kSl marigraphref11_Item.k) S1 w1 v233 o71.1 ∧ Obo 67 head_Head.fs S1 w1 v17 o248n cs330 fp328 ∧ Obo 67 head_Head.fs S1 w1 v30 o335n cs459 fp457 ∧ (∀ b, b ∈ fp328 → ¬ b ∈ fp457)) ?_ ?_
                · refine cw_region (sv (mvv v17 rfl) (sv (mvv (.int .i64 x473) rfl) ?_))
                  obtain ⟨y491, h492, h490⟩ := bnd_some h490
                  refine sc (dc_call (vs := [v17, .int .i64 x473]) can16 rfl ?_)
                  refine (head_Head_Points_w C.sb h327 h492).mono ?_
                  rintro _ w493 ⟨S494, v496, rfl, c495, h497⟩
                  refine ⟨_, rfl, ?_⟩
                  have p498 := ap_fresh (fun b hb => (h497.lt b hb).1) (fun b hb => (h327.lt b hb).1)
                  have p499 := ap_fresh (fun b hb => (h497.lt b hb).1) (fun b hb => (h456.lt b hb).1)
                  replace h497 := h497.base C.up.size
                  replace h327 := h327.cx c495
                  replace h456 := h456.cx c495
                  replace h234 := h234.cx c495
                  replace C := C.trans c495
                  refine sv (mvv v30 rfl) (sv (mvv (.int .i64 x473) rfl) ?_)
                  obtain ⟨y500, h501, h490⟩ := bnd_some h490
                  refine sc (dc_call (vs := [v30, .int .i64 x473]) can16 rfl ?_)
                  refine (head_Head_Points_w C.sb h456 h501).mono ?_
                  rintro _ w502 ⟨S503, v505, rfl, c504, h506⟩
                  refine ⟨_, rfl, ?_⟩
                  have p507 := ap_fresh (fun b hb => (h506.lt b hb).1) (fun b hb => (h327.lt b hb).1)
                  have p508 := ap_fresh (fun b hb => (h506.lt b hb).1) (fun b hb => (h456.lt b hb).1)
                  have p509 := ap_fresh (fun b hb => (h506.lt b hb).1) (fun b hb => (h497.lt b hb).2)
                  replace h506 := h506.base C.up.size
                  replace h327 := h327.cx c504
                  replace h456 := h456.cx c504
                  replace h234 := h234.cx c504
                  replace h497 := h497.cx c504
                  replace C := C.trans c504
                  replace h506 := h506.or p509
                  replace h327 := h327.or (ap_symm p498)
                  replace h456 := h456.or (ap_symm p499)
                  replace h234 := h234.or (T := Blk v496)
                  replace C := C.sealO h497
                  replace h497 := h497.sealed
                  replace h327 := h327.or (ap_symm p507)
                  replace h456 := h456.or (ap_symm p508)
                  replace h234 := h234.or (T := Blk v505)
                  replace h497 := h497.or (T := Blk v505)
                  replace C := C.sealO h506
                  replace h506 := h506.sealed
                  obtain ⟨y510, h511, h490⟩ := bnd_some h490
                  refine sc (dc_call (vs := [v496, v505]) can15 rfl ?_)
                  refine (marigraphref04_Same_w C.sb h497 h506 h511).mono ?_
                  rintro _ w512 ⟨S513, rfl, c514⟩
                  refine ⟨_, rfl, ?_⟩
                  replace h327 := h327.cx c514
                  replace h456 := h456.cx c514
                  replace h234 := h234.cx c514
                  replace C := C.trans c514
                  refine sv (rv_not rfl) (sv (mvv (.bool (!y510)) rfl) ?_)
                  rcases bif_some h490 with ⟨b515, h490⟩ | ⟨b515, h490⟩
                  · refine W.n (gn rfl rfl rfl b515) (W.n (gn rfl rfl rfl b515) (W.n (gn rfl rfl rfl b515) (W.n (gn rfl rfl rfl b515) (W.n (gn rfl rfl rfl b515) (sv (ptk (.bool true) rfl b515 rfl) (W.e ?_))))))
                    obtain rfl := Option.some.inj h490
                    exact ⟨_, C, ⟨rfl, rfl, rfl, rfl, rfl, rfl, trivial⟩, h234, h327, h456, p471⟩
                  · refine W.v (gy rfl rfl rfl b515) (mvv v17 rfl) (W.v (gy rfl rfl rfl b515) (mvv (.int .i64 x473) rfl) ?_)
                    obtain ⟨y516, h517, h490⟩ := bnd_some h490
                    refine W.c (gy rfl rfl rfl b515) (dc_call (vs := [v17, .int .i64 x473]) can16 rfl ?_)
                    refine (head_Head_Points_w C.sb h327 h517).mono ?_
                    rintro _ w518 ⟨S519, v521, rfl, c520, h522⟩
                    refine ⟨_, rfl, ?_⟩
                    have p523 := ap_fresh (fun b hb => (h522.lt b hb).1) (fun b hb => (h327.lt b hb).1)
                    have p524 := ap_fresh (fun b hb => (h522.lt b hb).1) (fun b hb => (h456.lt b hb).1)
                    replace h522 := h522.base C.up.size
                    replace h327 := h327.cx c520
                    replace h456 := h456.cx c520
                    replace h234 := h234.cx c520
                    replace C := C.trans c520
                    replace h327 := h327.or (ap_symm p523)
                    replace h456 := h456.or (ap_symm p524)
                    replace h234 := h234.or (T := Blk v521)
                    replace C := C.sealO h522
                    replace h522 := h522.sealed
                    obtain ⟨y525, h526, h490⟩ := bnd_some h490
                    refine W.c (gy rfl rfl rfl b515) (dc_call (vs := [v521]) can17 rfl ?_)
                    refine (marigraphref04_Right_w C.sb h522 h526).mono ?_
                    rintro _ w527 ⟨S528, rfl, c529⟩
                    refine ⟨_, rfl, ?_⟩
                    replace h327 := h327.cx c529
                    replace h456 := h456.cx c529
                    replace h234 := h234.cx c529
                    replace C := C.trans c529
                    refine W.v (gy rfl rfl rfl b515) (rv_not rfl) (sv (pfk (.bool (!y525)) rfl b515 rfl) (W.e ?_))
                    obtain rfl := Option.some.inj h490
                    exact ⟨_, C, ⟨rfl, rfl, rfl, rfl, rfl, rfl, trivial⟩, h234, h327, h456, p471⟩
                · rintro ρ w531 ⟨S530, C, h533, h234, h327, h456, p532⟩
                  refine h533.cw fun ρ => ?_
                  clear h533
                  rcases bif_some h484 with ⟨b534, h484⟩ | ⟨b534, h484⟩
                  · refine cw_t rfl b534 ?_
                    refine cw_seq fun K535 k536 => ?_
                    refine cw_region (sv (asv (.bool false) rfl) (W.e (k536 _ _ (cw_ret ?_))))
                    obtain rfl := Option.some.inj h484
                    replace h475 := h475.2 _ rfl
                    obtain rfl := Option.some.inj h475
                    have h537 := congrArg some h474
                    obtain rfl := Option.some.inj h537
                    replace h := h.2 _ rfl
                    obtain rfl := Option.some.inj h
                    exact ⟨_, rfl, _, rfl, C⟩
                  · refine cw_f rfl b534 (cw_skip ?_)
                    obtain rfl := Option.some.inj h484
                    exact ⟨_, rfl, ⟨_, C, ⟨rfl, rfl, rfl, rfl, rfl, trivial⟩, h234, h327, h456, p532⟩⟩
              · rintro ρ w539 ⟨o481n, rfl, ⟨S538, C, h541, h234, h327, h456, p540⟩⟩
                replace h475 := h475.1 _ rfl
                refine h541.cw fun ρ => ?_
                clear h541
                refine cw_region ?_
                obtain ⟨y542, h543, h475⟩ := pur_some h475
                refine sv (rv_add rfl rfl h543) (sv (mvv (.int .i64 y542) rfl) (W.e ?_))
                obtain rfl := Option.some.inj h475
                exact ⟨_, rfl, ⟨_, C, ⟨rfl, rfl, rfl, rfl, rfl, trivial⟩, h234, h327, h456, p540⟩⟩
            · refine cw_f rfl b480 (cw_exit ?_)
              obtain rfl := Option.some.inj h475
              have h544 := congrArg some h474
              obtain rfl := Option.some.inj h544
              exact ⟨_, rfl, ⟨_, C, ⟨rfl, rfl, rfl, trivial⟩, h234, h327⟩⟩
          · rintro ρ w546 ⟨o462n, rfl, ⟨S545, C, h547, h234, h327⟩⟩
            replace h := h.1 _ rfl
            refine h547.cw fun ρ => ?_
            clear h547
            obtain ⟨o548, h551, h⟩ := bnd_some h
            refine cw_seq' (fun ρ w1 => ∃ S1, Cx No S w S1 w1 ∧ Has ρ [(4, .bool o548)]) ?_ ?_
            · refine cw_region (sv (mvv (.bool y5) rfl) (sv (mvv (.bool y5) rfl) ?_))
              rcases bif_some h551 with ⟨b552, h551⟩ | ⟨b552, h551⟩
              · refine W.v (gy rfl rfl rfl b552) (mvv v17 rfl) ?_
                obtain ⟨y553, h554, h551⟩ := bnd_some h551
                refine W.c (gy rfl rfl rfl b552) (dc_call (vs := [v17]) can13 rfl ?_)
                refine (head_Head_Len_w C.sb h327 h554).mono ?_
                rintro _ w555 ⟨S556, rfl, c557⟩
                refine ⟨_, rfl, ?_⟩
                replace h234 := h234.cx c557
                replace C := C.trans c557
                refine W.v (gy rfl rfl rfl b552) (mvv v233 rfl) (W.v (gy rfl rfl rfl b552) (rv_lenS el38 h234 rfl) (W.v (gy rfl rfl rfl b552) (rv_eql rfl rfl) (sv (ptk (.bool (y553 == (o71.1.length : Int))) rfl b552 rfl) (sv (asv (.bool (y553 == (o71.1.length : Int))) rfl) (W.e ?_)))))
                obtain rfl := Option.some.inj h551
                exact ⟨_, C, ⟨rfl, trivial⟩⟩
              · refine W.n (gn rfl rfl rfl b552) (W.n (gn rfl rfl rfl b552) (W.n (gn rfl rfl rfl b552) (W.n (gn rfl rfl rfl b552) (W.n (gn rfl rfl rfl b552) (sv (pfk (.bool false) rfl b552 rfl) (sv (asv (.bool false) rfl) (W.e ?_)))))))
                obtain rfl := Option.some.inj h551
                exact ⟨_, C, ⟨rfl, trivial⟩⟩
            · rintro ρ w559 ⟨S558, C, h560⟩
              refine h560.cw fun ρ => ?_
              clear h560
              refine cw_ret ?_
              obtain rfl := Option.some.inj h
              exact ⟨_, rfl, _, rfl, C⟩

noncomputable def marigraphlaw11_few (a0 : List marigraphlaw11_Act) : Option (List marigraphlaw11_Act) :=
  (pur (if (300 : Int) < (a0.length : Int) then (300 : Int) else (a0.length : Int)) fun y5 => ((upto_ a0 y5).bind fun y7 => some y7))
set_option maxRecDepth 100000 in
set_option maxHeartbeats 4000000 in
theorem marigraphlaw11_few_w {S : Nat → Prop} {w : World} {a0 : List marigraphlaw11_Act} {v0 : Value} {r : (List marigraphlaw11_Act)} (hS : Sb S w) (h0 : Sl (kSl marigraphlaw11_Act.k) S w v0 a0) (h : marigraphlaw11_few a0 = some r) :
    Calls Try.prog 18 (List.toArray [v0]) w fun e w1 => ∃ S1 u0, e = .returned (u0) ∧ Cx No S w S1 w1 ∧ Sl (kSl marigraphlaw11_Act.k) S1 w1 u0 r := by
  refine enter Try.func18 rfl (by kernel_rfl) rfl ?_
  have C := Cx.refl (F := No) hS
  unfold marigraphlaw11_few at h
  refine cw_seq fun K1 k2 => ?_
  refine cw_region (sv (asv (.slice none 0 0) rfl) (W.e (k2 _ _ ?_)))
  refine cw_seq fun K3 k4 => ?_
  refine cw_region (sv (mvv v0 rfl) (sv (mvv v0 rfl) (sv (rv_lenS el37 h0 rfl) ?_)))
  obtain ⟨y5, h6, h⟩ := pur_some h
  refine sv (rv_min rfl rfl h6) ?_
  obtain ⟨y7, h8, h⟩ := bnd_some h
  obtain ⟨v9, h10, h11⟩ := rv_uptoA (P := Try.prog) el37 h0 h8
  refine sv (h11 rfl rfl) (sv (asv v9 rfl) (W.e (k4 _ _ (cw_ret ?_))))
  obtain rfl := Option.some.inj h
  exact ⟨_, rfl, _, _, rfl, C, h10⟩

noncomputable def head_Head_Drop (a0 : Option head_Head) (a1 : Int) : Option (Int × (Option head_Head)) :=
  (bif a0.isNone then some ((0 : Int), a0) else ((a0).bind fun y12 => ((head_Head_put y12 a1 ([] : List api_Point)).bind fun y24 => some ((((mget a1 y12.series).getD []).length : Int), some y24))))
set_option maxRecDepth 100000 in
set_option maxHeartbeats 4000000 in
theorem head_Head_Drop_w {S : Nat → Prop} {w : World} {a0 : Option head_Head} {a1 : Int} {v0 : Value} {cs0 : List Value} {fp0 : List Nat} {r : Int × (Option head_Head)} (hS : Sb S w) (h0 : Obo 67 head_Head.fs S w v0 a0 cs0 fp0) (h : head_Head_Drop a0 a1 = some r) :
    Calls Try.prog 19 (List.toArray [v0, .int .i64 a1]) w fun e w1 => ∃ S1 us_0 up_0, e = .returned (.int .i64 r.1) ∧ Cx (fun b => b ∈ fp0) S w S1 w1 ∧ Obo 67 head_Head.fs S1 w1 v0 r.2 us_0 up_0 ∧ (∀ b, b ∈ up_0 → b ∈ fp0 ∨ w.heap.size ≤ b) := by
  refine enter Try.func19 rfl (by kernel_rfl) rfl ?_
  have C := Cx.refl (F := (fun b => b ∈ fp0)) hS
  unfold head_Head_Drop at h
  have hs0 : ∀ b, b ∈ fp0 → b ∈ fp0 ∨ w.heap.size ≤ b := fun b hb => .inl hb
  have hl0 : ∀ b ∈ fp0, b < w.heap.size := fun b hb => (h0.lt b hb).1
  refine cw_seq fun K1 k2 => ?_
  refine cw_region (sv (asv (.int .i64 0) rfl) (W.e (k2 _ _ ?_)))
  refine cw_seq fun K3 k4 => ?_
  refine cw_seq fun K5 k6 => ?_
  refine cw_region (sv (mvv v0 rfl) (sv (rv_nileq Try.underlying23 rfl rfl h0.ne) (W.e (k6 _ _ ?_))))
  rcases bif_some h with ⟨b7, h⟩ | ⟨b7, h⟩
  · refine cw_t rfl b7 ?_
    refine cw_seq fun K8 k9 => ?_
    refine cw_region (sv (asv (.int .i64 0) rfl) (W.e (k9 _ _ (cw_ret ?_))))
    obtain rfl := Option.some.inj h
    exact ⟨_, rfl, _, _, _, rfl, C, h0, hs0⟩
  · refine cw_f rfl b7 (cw_skip (k4 _ _ ?_))
    refine cw_seq fun K10 k11 => ?_
    refine cw_region (sv (mvv v0 rfl) ?_)
    obtain ⟨y12, h13, h⟩ := bnd_some h
    have h14 := h0
    rw [h13] at h14
    replace h14 : Ob 67 (head_Head.fs y12) _ _ _ _ _ := h14
    refine sv (rv_nilcheck rfl h14.ptr) (sv (rv_fieldAddr (b := pb v0) (o := 0) st67 rfl h14.ptr) ?_)
    obtain ⟨c15, h16⟩ := h14.at (i := 1) rfl
    refine sr (rw_ofield (i := 1) (c := c15) h14 ag65 h16 rfl) (sv (mvv (.int .i64 a1) rfl) ?_)
    obtain ⟨v17, h18, h19, h20, h21⟩ := Ob.lendU (P := Try.prog) (tm := 65) (te := 33) h14 (i := 1) rfl h16 Try.underlying65 zv33 a1
    refine sr (h20 (Sm.refl _ _) rfl rfl) (sv (rv_lenS el33 h18.sealed rfl) (sv (asv (.int .i64 (((mget a1 y12.series).getD []).length : Int)) rfl) (W.e (k11 _ _ ?_))))
    refine cw_seq fun K22 k23 => ?_
    refine cw_region (sv (mvv v0 rfl) (sv (mvv (.int .i64 a1) rfl) ?_))
    obtain ⟨y24, h25, h⟩ := bnd_some h
    refine sc (dc_call (vs := [v0, .int .i64 a1, .slice none 0 0]) can37 rfl ?_)
    refine (head_Head_put_w C.sb h14 (Ow.nil api_Point.k 29 S w.heap.size w) ap_nil h25).mono ?_
    rintro _ w26 ⟨S27, cs29, fp30, rfl, c28, h31, h32⟩
    refine ⟨_, rfl, ?_⟩
    have h33 : ∀ b, b ∈ fp0 → ¬ S b := fun b hb => (h14.lt b hb).2
    have h34 : ∀ b, b ∈ fp30 → b ∈ fp0 ∨ w.heap.size ≤ b := fun b hb => (h32 b hb).imp id fun hq => hq.elim (fun hq => absurd hq (ap_nil (B := fun _ => True) b · trivial)) id
    have h35 : ∀ b, b ∈ fp30 → b ∈ fp0 ∨ w.heap.size ≤ b := fun b hb => (h34 b hb).elim (hs0 b) (fun hl => .inr (Nat.le_trans C.up.size hl))
    replace C := C.ofc c28 hs0
    refine W.e (k23 _ _ ?_)
    refine cw_seq fun K36 k37 => ?_
    refine cw_region (sv (mvv (.int .i64 (((mget a1 y12.series).getD []).length : Int)) rfl) (sv (asv (.int .i64 (((mget a1 y12.series).getD []).length : Int)) rfl) (W.e (k37 _ _ (cw_ret ?_)))))
    obtain rfl := Option.some.inj h
    exact ⟨_, rfl, _, _, _, rfl, C, h31, h35⟩

noncomputable def marigraphlaw11_HeadFar.b3 (y42 : (List marigraphlaw11_Act)) (x57 : Int) (x58 : Option head_Head) : Option ((Int × (Option head_Head)) ⊕ ((Option head_Head))) :=
  (bif (decide (x57 < (y42.length : Int))) then (((at_ y42 x57).bind fun y72 => (pur y72 fun y83 => (pur (Int.tmod y83.Kind (7 : Int)) fun y94 => (bif (y94 == (6 : Int)) then ((head_Head_Drop x58 y83.Id).bind fun y100 => some y100.2) else ((head_Head_Add x58 y83.Id y83.P).bind fun y117 => some y117.2))))).bind fun o66 => (pur (IntKind.i64.wrap (x57 + (1 : Int))) fun y135 => some (.inl (y135, o66)))) else some (.inr x58))
noncomputable def marigraphlaw11_HeadFar.b8 (y200 : api_Chunk) (x222 : Int) (x223 : Option head_Head) : Option ((Int × (Option head_Head)) ⊕ (((Option head_Head)) ⊕ ((Int × (Option head_Head)) ⊕ (((Option head_Head)) ⊕ (Bool))))) :=
  (bif (decide (x222 < (y200.Points.length : Int))) then ((at_ y200.Points x222).bind fun y235 => (pur y235 fun y247 => ((head_Head_Add x223 y200.Id y247).bind fun y263 => (bif (y263.1 != (110 : Int)) then some (.inr (.inr (.inr (.inr false)))) else (pur (IntKind.i64.wrap (x222 + (1 : Int))) fun y280 => some (.inl (y280, y263.2))))))) else some (.inr (.inl x223)))
noncomputable def marigraphlaw11_HeadFar.b6 (y151 : (List api_Chunk) × (Option head_Head)) (x172 : Int) (x173 : Option head_Head) : Option ((Int × (Option head_Head)) ⊕ (((Option head_Head)) ⊕ (Bool))) :=
  (bif (decide (x172 < (y151.1.length : Int))) then (((at_ y151.1 x172).bind fun y187 => (pur y187 fun y200 => (iter (fun s : Int × (Option head_Head) => marigraphlaw11_HeadFar.b8 y200 s.1 s.2) ((0 : Int), x173)))).bind (Sum.elim (fun o181n => (pur (IntKind.i64.wrap (x172 + (1 : Int))) fun y290 => some (.inl (y290, o181n)))) (fun q => some q))) else some (.inr (.inl x173)))
noncomputable def marigraphlaw11_HeadFar.b12 (y338 : Int) (y342 : (List api_Point)) (x362 : Int) (x363 : Option head_Head) : Option ((Int × (Option head_Head)) ⊕ (((Option head_Head)) ⊕ ((Int × (Option head_Head)) ⊕ (((Option head_Head)) ⊕ (Bool))))) :=
  (bif (decide (x362 < (y342.length : Int))) then ((at_ y342 x362).bind fun y375 => (pur y375 fun y388 => ((head_Head_Add x363 y338 y388).bind fun y399 => (bif (y399.1 != (111 : Int)) then some (.inr (.inr (.inr (.inr false)))) else (pur (IntKind.i64.wrap (x362 + (1 : Int))) fun y417 => some (.inl (y417, y399.2))))))) else some (.inr (.inl x363)))
noncomputable def marigraphlaw11_HeadFar.b10 (y306 : (List Int)) (x323 : Int) (x324 : Option head_Head) : Option ((Int × (Option head_Head)) ⊕ (((Option head_Head)) ⊕ (Bool))) :=
  (bif (decide (x323 < (y306.length : Int))) then (((at_ y306 x323).bind fun y338 => ((head_Head_Points x324 y338).bind fun y342 => (iter (fun s : Int × (Option head_Head) => marigraphlaw11_HeadFar.b12 y338 y342 s.1 s.2) ((0 : Int), x324)))).bind (Sum.elim (fun o332n => (pur (IntKind.i64.wrap (x323 + (1 : Int))) fun y428 => some (.inl (y428, o332n)))) (fun q => some q))) else some (.inr (.inl x324)))
noncomputable def marigraphlaw11_HeadFar (a0 : Int) (a1 : List marigraphlaw11_Act) : Option Bool :=
  ((marigraphlaw11_shown).bind fun y5 => ((head_New a0).bind fun y12 => (bif y12.1.isNone then ((bif y5 then some (y12.2 == (1 : Int)) else some false).bind fun o28 => some o28) else (((marigraphlaw11_few a1).bind fun y42 => (iter (fun s : Int × (Option head_Head) => marigraphlaw11_HeadFar.b3 y42 s.1 s.2) ((0 : Int), y12.1))).bind fun o36 => (((head_Head_Seal o36).bind fun y151 => (iter (fun s : Int × (Option head_Head) => marigraphlaw11_HeadFar.b6 y151 s.1 s.2) ((0 : Int), y151.2))).bind (Sum.elim (fun o145n => (((head_Head_Ids o145n).bind fun y306 => (iter (fun s : Int × (Option head_Head) => marigraphlaw11_HeadFar.b10 y306 s.1 s.2) ((0 : Int), o145n))).bind (Sum.elim (fun o300n => ((bif y5 then ((head_Head_Seal o300n).bind fun y443 => some (((y443.1.length : Int) == (0 : Int)), y443.2)) else some (false, o300n)).bind fun o438 => some o438.1)) (fun q => some q)))) (fun q => some q)))))))
set_option maxRecDepth 100000 in
set_option maxHeartbeats 4000000 in
theorem marigraphlaw11_HeadFar_w {S : Nat → Prop} {w : World} {a0 : Int} {a1 : List marigraphlaw11_Act} {v1 : Value} {r : Bool} (hS : Sb S w) (h1 : Sl (kSl marigraphlaw11_Act.k) S w v1 a1) (h : marigraphlaw11_HeadFar a0 a1 = some r) :
    Calls Try.prog 5 (List.toArray [.int .i64 a0, v1]) w fun e w1 => ∃ S1, e = .returned (.bool r) ∧ Cx No S w S1 w1 := by
  refine enter Try.func5 rfl (by kernel_rfl) rfl ?_
  have C := Cx.refl (F := No) hS
  unfold marigraphlaw11_HeadFar at h
  refine cw_seq fun K1 k2 => ?_
  refine cw_region (sv (asv (.bool false) rfl) (W.e (k2 _ _ ?_)))
  refine cw_seq fun K3 k4 => ?_
  refine cw_region ?_
  obtain ⟨y5, h6, h⟩ := bnd_some h
  refine sc (dc_call (vs := []) can10 rfl ?_)
  refine (marigraphlaw11_shown_w C.sb  h6).mono ?_
  rintro _ w7 ⟨S8, rfl, c9⟩
  refine ⟨_, rfl, ?_⟩
  replace h1 := h1.cx c9
  replace C := C.trans c9
  refine sv (asv (.bool y5) rfl) (W.e (k4 _ _ ?_))
  refine cw_seq fun K10 k11 => ?_
  refine cw_region (sv (mvv (.int .i64 a0) rfl) ?_)
  obtain ⟨y12, h13, h⟩ := bnd_some h
  refine sc (dc_call (vs := [.int .i64 a0]) can11 rfl ?_)
  refine (head_New_w C.sb  h13).mono ?_
  rintro _ w14 ⟨S15, v17, cs18, fp19, rfl, c16, h20, h21⟩
  refine ⟨_, rfl, ?_⟩
  have h22 : ∀ b, b ∈ fp19 → w.heap.size ≤ b := fun b hb => Nat.le_trans C.up.size (h21 b hb)
  replace h1 := h1.cx c16
  replace C := C.trans c16
  refine sv (mvv (.tuple (List.toArray [v17, .int .i64 y12.2])) rfl) (sv (rv_extract rfl rfl) (sv (rv_extract rfl rfl) (sv (asv v17 rfl) (sv (asv (.int .i64 y12.2) rfl) (W.e (k11 _ _ ?_))))))
  refine cw_seq fun K23 k24 => ?_
  refine cw_seq fun K25 k26 => ?_
  refine cw_region (sv (mvv v17 rfl) (sv (rv_nileq Try.underlying23 rfl rfl h20.ne) (W.e (k26 _ _ ?_))))
  rcases bif_some h with ⟨b27, h⟩ | ⟨b27, h⟩
  · refine cw_t rfl b27 ?_
    obtain ⟨o28, h31, h⟩ := bnd_some h
    refine cw_seq' (fun ρ w1 => ∃ S1, Cx No S w S1 w1 ∧ Has ρ [(4, .bool o28)]) ?_ ?_
    · refine cw_region (sv (mvv (.bool y5) rfl) (sv (mvv (.bool y5) rfl) ?_))
      rcases bif_some h31 with ⟨b32, h31⟩ | ⟨b32, h31⟩
      · refine W.v (gy rfl rfl rfl b32) (mvv (.int .i64 y12.2) rfl) (W.v (gy rfl rfl rfl b32) (rv_eql rfl rfl) (sv (ptk (.bool (y12.2 == (1 : Int))) rfl b32 rfl) (sv (asv (.bool (y12.2 == (1 : Int))) rfl) (W.e ?_))))
        obtain rfl := Option.some.inj h31
        exact ⟨_, C, ⟨rfl, trivial⟩⟩
      · refine W.n (gn rfl rfl rfl b32) (W.n (gn rfl rfl rfl b32) (sv (pfk (.bool false) rfl b32 rfl) (sv (asv (.bool false) rfl) (W.e ?_))))
        obtain rfl := Option.some.inj h31
        exact ⟨_, C, ⟨rfl, trivial⟩⟩
    · rintro ρ w34 ⟨S33, C, h35⟩
      refine h35.cw fun ρ => ?_
      clear h35
      refine cw_ret ?_
      obtain rfl := Option.some.inj h
      exact ⟨_, rfl, _, rfl, C⟩
  · refine cw_f rfl b27 (cw_skip (k24 _ _ ?_))
    obtain ⟨o36, h39, h⟩ := bnd_some h
    refine cw_seq' (fun ρ w1 => ∃ S1 fp141 cs143, Cx No S w S1 w1 ∧ Has ρ [(5, .bool y5), (6, v17)] ∧ Obo 67 head_Head.fs S1 w1 v17 o36 cs143 fp141 ∧ (∀ b, b ∈ fp141 → w.heap.size ≤ b)) ?_ ?_
    · refine cw_seq fun K40 k41 => ?_
      refine cw_region (sv (mvv v1 rfl) ?_)
      obtain ⟨y42, h43, h39⟩ := bnd_some h39
      refine sc (dc_call (vs := [v1]) can18 rfl ?_)
      refine (marigraphlaw11_few_w C.sb h1 h43).mono ?_
      rintro _ w44 ⟨S45, v47, rfl, c46, h48⟩
      refine ⟨_, rfl, ?_⟩
      replace h20 := h20.cx c46
      replace C := C.trans c46
      refine sv (rv_lenS el37 h48 rfl) (sv (mvv (.int .i64 0) rfl) (W.e (k41 _ _ (cw_block ?_))))
      refine cw_iter h39 (fun s ρ w1 => ∃ S1 fp53 cs55, Cx No S w S1 w1 ∧ Has ρ [(5, .bool y5), (6, v17), (32, v47), (33, .int .i64 (y42.length : Int)), (34, .int .i64 s.1)] ∧ Sl (kSl marigraphlaw11_Act.k) S1 w1 v47 y42 ∧ Obo 67 head_Head.fs S1 w1 v17 s.2 cs55 fp53 ∧ (∀ b, b ∈ fp53 → w.heap.size ≤ b)) ⟨_, _, _, C, ⟨rfl, rfl, rfl, rfl, rfl, trivial⟩, h48, h20, h22⟩ ?_
      rintro ⟨x57, x58⟩ q49 ρ w51 ⟨S50, fp53, cs55, C, h56, h48, h52, h54⟩ h60 h59
      refine h56.cw fun ρ => ?_
      clear h56
      replace h60 : marigraphlaw11_HeadFar.b3 y42 x57 x58 = some q49 := h60
      unfold marigraphlaw11_HeadFar.b3 at h60
      refine cw_seq fun K61 k62 => ?_
      refine cw_region (sv (rv_lss rfl rfl) (W.e (k62 _ _ ?_)))
      refine cw_seq fun K63 k64 => ?_
      rcases bif_some h60 with ⟨b65, h60⟩ | ⟨b65, h60⟩
      · refine cw_t rfl b65 (cw_skip (k64 _ _ ?_))
        obtain ⟨o66, h69, h60⟩ := bnd_some h60
        refine cw_seq' (fun ρ w1 => ∃ S1 fp131 cs133, Cx No S w S1 w1 ∧ Has ρ [(5, .bool y5), (6, v17), (32, v47), (33, .int .i64 (y42.length : Int)), (34, .int .i64 x57)] ∧ Sl (kSl marigraphlaw11_Act.k) S1 w1 v47 y42 ∧ Obo 67 head_Head.fs S1 w1 v17 o66 cs133 fp131 ∧ (∀ b, b ∈ fp131 → w.heap.size ≤ b)) ?_ ?_
        · refine cw_block ?_
          refine cw_seq fun K70 k71 => ?_
          refine cw_region ?_
          obtain ⟨y72, h73, h69⟩ := bnd_some h69
          refine sv (rv_index el37 h48 rfl rfl h73) ?_
          obtain ⟨v74, h75, h76⟩ := rw_loadA (P := Try.prog) el37 h48 h73
          obtain rfl := marigraphlaw11_Act.o.1 h75
          refine sr (h76 _ (Sm.refl _ _) rfl) ?_
          refine sc (dc_allocO (x0 := (marigraphlaw11_Act.mk (0 : Int) (0 : Int) (api_Point.mk (0 : Int) (0 : Int)))) (base := w.heap.size) el37 zr41 (fun _ => marigraphlaw11_Act.r.2 rfl) C.up.size C.sb fun b77 w78 h79 h80 u81 => ?_)
          have p82 := ap_fresh h80 (fun b hb => (h52.lt b hb).1)
          replace h48 := h48.nw u81
          replace h52 := h52.nw u81
          replace C := C.new u81
          obtain ⟨y83, h84, h69⟩ := pur_some h69
          have h88 := h79
          refine sc (dc_storeO el37 h88 (show at_ [(marigraphlaw11_Act.mk (0 : Int) (0 : Int) (api_Point.mk (0 : Int) (0 : Int)))] (0 : Int) = some (marigraphlaw11_Act.mk (0 : Int) (0 : Int) (api_Point.mk (0 : Int) (0 : Int))) from rfl) rfl rfl (((marigraphlaw11_Act.o (x := y72)).2 rfl)) fun w85 h86 u87 => ?_)
          replace h86 : Ow marigraphlaw11_Act.k 41 S50 w.heap.size w85 (.slice (some ⟨b77, 0, none⟩) 1 1) [y72] := h86
          rw [h84] at h86
          replace h48 := h48.wr u87 h88.not
          replace h52 := h52.wr u87 h88.not (ap_symm p82)
          replace C := C.ow h88 u87
          refine W.e (k71 _ _ ?_)
          refine cw_seq fun K89 k90 => ?_
          refine cw_region (sv (rv_fieldAddr st41 rfl rfl) ?_)
          obtain ⟨cs91, h92, h93⟩ := Ow.cellsO h86 (show at_ [y83] (0 : Int) = some y83 from rfl)
          obtain rfl := marigraphlaw11_Act.r.1 h92
          refine sr (rw_el1 (off := 0) ag5 (h93 _ (Sm.refl _ _)) rfl rfl) ?_
          obtain ⟨y94, h95, h69⟩ := pur_some h69
          refine sv (rv_rem rfl rfl (by decide) h95) (sv (rv_eql rfl rfl) (W.e (k90 _ _ ?_)))
          rcases bif_some h69 with ⟨b96, h69⟩ | ⟨b96, h69⟩
          · refine cw_t rfl b96 (cw_region (sv (mvv v17 rfl) (sv (rv_fieldAddr st41 rfl rfl) ?_)))
            obtain ⟨cs97, h98, h99⟩ := Ow.cellsO h86 (show at_ [y83] (0 : Int) = some y83 from rfl)
            obtain rfl := marigraphlaw11_Act.r.1 h98
            refine sr (rw_el1 (off := 1) ag3 (h99 _ (Sm.refl _ _)) rfl rfl) ?_
            obtain ⟨y100, h101, h69⟩ := bnd_some h69
            refine sc (dc_call (vs := [v17, .int .i64 y83.Id]) can19 rfl ?_)
            refine (head_Head_Drop_w C.sb h52 h101).mono ?_
            rintro _ w102 ⟨S103, cs105, fp106, rfl, c104, h107, h108⟩
            refine ⟨_, rfl, ?_⟩
            have h109 : ∀ b, b ∈ fp53 → ¬ S50 b := fun b hb => (h52.lt b hb).2
            have h110 : ∀ b, b ∈ fp106 → w.heap.size ≤ b := fun b hb => (h108 b hb).elim (h54 b) (fun hl => Nat.le_trans C.up.size hl)
            replace h48 := h48.cf c104 h109
            replace C := C.ofc c104 (fun b hb => .inr (h54 b hb))
            refine W.e ?_
            obtain rfl := Option.some.inj h69
            exact ⟨_, _, _, C, ⟨rfl, rfl, rfl, rfl, rfl, trivial⟩, h48, h107, h110⟩
          · refine cw_f rfl b96 (cw_region (sv (mvv v17 rfl) (sv (rv_fieldAddr st41 rfl rfl) ?_)))
            obtain ⟨cs111, h112, h113⟩ := Ow.cellsO h86 (show at_ [y83] (0 : Int) = some y83 from rfl)
            obtain rfl := marigraphlaw11_Act.r.1 h112
            refine sr (rw_el1 (off := 1) ag3 (h113 _ (Sm.refl _ _)) rfl rfl) (sv (rv_fieldAddr st41 rfl rfl) ?_)
            obtain ⟨cs114, h115, h116⟩ := Ow.cellsO h86 (show at_ [y83] (0 : Int) = some y83 from rfl)
            obtain rfl := marigraphlaw11_Act.r.1 h115
            refine sr (rw_elA (off := 2) ag29 (h116 _ (Sm.refl _ _)) rfl rfl rfl) ?_
            obtain ⟨y117, h118, h69⟩ := bnd_some h69
            refine sc (dc_call (vs := [v17, .int .i64 y83.Id, .agg (List.toArray [.int .i64 y83.P.T, .int .i64 y83.P.V])]) can12 rfl ?_)
            refine (head_Head_Add_w C.sb h52 ((api_Point.o (x := y83.P)).2 rfl) h118).mono ?_
            rintro _ w119 ⟨S120, cs122, fp123, rfl, c121, h124, h125⟩
            refine ⟨_, rfl, ?_⟩
            have h126 : ∀ b, b ∈ fp53 → ¬ S50 b := fun b hb => (h52.lt b hb).2
            have h127 : ∀ b, b ∈ fp123 → w.heap.size ≤ b := fun b hb => (h125 b hb).elim (h54 b) (fun hl => Nat.le_trans C.up.size hl)
            replace h48 := h48.cf c121 h126
            replace C := C.ofc c121 (fun b hb => .inr (h54 b hb))
            refine W.e ?_
            obtain rfl := Option.some.inj h69
            exact ⟨_, _, _, C, ⟨rfl, rfl, rfl, rfl, rfl, trivial⟩, h48, h124, h127⟩
        · rintro ρ w129 ⟨S128, fp131, cs133, C, h134, h48, h130, h132⟩
          refine h134.cw fun ρ => ?_
          clear h134
          refine cw_region ?_
          obtain ⟨y135, h136, h60⟩ := pur_some h60
          refine sv (rv_add rfl rfl h136) (sv (mvv (.int .i64 y135) rfl) (W.e ?_))
          obtain rfl := Option.some.inj h60
          exact ⟨_, rfl, ⟨_, _, _, C, ⟨rfl, rfl, rfl, rfl, rfl, trivial⟩, h48, h130, h132⟩⟩
      · refine cw_f rfl b65 (cw_exit ?_)
        obtain rfl := Option.some.inj h60
        have h137 := congrArg some h59
        obtain rfl := Option.some.inj h137
        exact ⟨_, _, _, C, ⟨rfl, rfl, trivial⟩, h52, h54⟩
    · rintro ρ w139 ⟨S138, fp141, cs143, C, h144, h140, h142⟩
      refine h144.cw fun ρ => ?_
      clear h144
      obtain ⟨o145, h148, h⟩ := bnds_some h
      refine cw_seq' (fun ρ w1 => ∃ o145n, o145 = (.inl o145n) ∧ ∃ S1 fp296 cs298, Cx No S w S1 w1 ∧ Has ρ [(5, .bool y5), (6, v17)] ∧ Obo 67 head_Head.fs S1 w1 v17 o145n cs298 fp296 ∧ (∀ b, b ∈ fp296 → w.heap.size ≤ b)) ?_ ?_
      · refine cw_seq fun K149 k150 => ?_
        refine cw_region (sv (mvv v17 rfl) ?_)
        obtain ⟨y151, h152, h148⟩ := bnd_some h148
        refine sc (dc_call (vs := [v17]) can14 rfl ?_)
        refine (head_Head_Seal_w C.sb h140 h152).mono ?_
        rintro _ w153 ⟨S154, v156, cs158, fp159, rfl, c155, h157, h160, h161⟩
        refine ⟨_, rfl, ?_⟩
        have h162 : ∀ b, b ∈ fp141 → ¬ S138 b := fun b hb => (h140.lt b hb).2
        have h163 : ∀ b, b ∈ fp159 → w.heap.size ≤ b := fun b hb => (h161 b hb).elim (h142 b) (fun hl => Nat.le_trans C.up.size hl)
        replace C := C.ofc c155 (fun b hb => .inr (h142 b hb))
        refine sv (rv_lenS el31 h157 rfl) (sv (mvv (.int .i64 0) rfl) (W.e (k150 _ _ (cw_block ?_))))
        refine cw_iter h148 (fun s ρ w1 => ∃ S1 fp168 cs170, Cx No S w S1 w1 ∧ Has ρ [(5, .bool y5), (6, v17), (54, v156), (55, .int .i64 (y151.1.length : Int)), (56, .int .i64 s.1)] ∧ Sl (kSl api_Chunk.k) S1 w1 v156 y151.1 ∧ Obo 67 head_Head.fs S1 w1 v17 s.2 cs170 fp168 ∧ (∀ b, b ∈ fp168 → w.heap.size ≤ b)) ⟨_, _, _, C, ⟨rfl, rfl, rfl, rfl, rfl, trivial⟩, h157, h160, h163⟩ ?_
        rintro ⟨x172, x173⟩ q164 ρ w166 ⟨S165, fp168, cs170, C, h171, h157, h167, h169⟩ h175 h174
        refine h171.cw fun ρ => ?_
        clear h171
        replace h175 : marigraphlaw11_HeadFar.b6 y151 x172 x173 = some q164 := h175
        unfold marigraphlaw11_HeadFar.b6 at h175
        refine cw_seq fun K176 k177 => ?_
        refine cw_region (sv (rv_lss rfl rfl) (W.e (k177 _ _ ?_)))
        refine cw_seq fun K178 k179 => ?_
        rcases bif_some h175 with ⟨b180, h175⟩ | ⟨b180, h175⟩
        · refine cw_t rfl b180 (cw_skip (k179 _ _ ?_))
          obtain ⟨o181, h184, h175⟩ := bnds_some h175
          refine cw_seq' (fun ρ w1 => ∃ o181n, o181 = (.inl o181n) ∧ ∃ S1 fp286 cs288, Cx No S w S1 w1 ∧ Has ρ [(5, .bool y5), (6, v17), (54, v156), (55, .int .i64 (y151.1.length : Int)), (56, .int .i64 x172)] ∧ Sl (kSl api_Chunk.k) S1 w1 v156 y151.1 ∧ Obo 67 head_Head.fs S1 w1 v17 o181n cs288 fp286 ∧ (∀ b, b ∈ fp286 → w.heap.size ≤ b)) ?_ ?_
          · refine cw_block ?_
            refine cw_seq fun K185 k186 => ?_
            refine cw_region ?_
            obtain ⟨y187, h188, h184⟩ := bnd_some h184
            refine sv (rv_index el31 h157 rfl rfl h188) ?_
            obtain ⟨v189, h190, h191⟩ := rw_loadA (P := Try.prog) el31 h157 h188
            obtain ⟨c192, rfl, g193⟩ := api_Chunk.o.1 h190
            refine sr (h191 _ (Sm.refl _ _) rfl) ?_
            refine sc (dc_allocO (x0 := (api_Chunk.mk (0 : Int) ([] : List api_Point))) (base := w.heap.size) el31 zr35 (fun _ => api_Chunk.r.2 ⟨_, rfl, sl_nil _ _ _⟩) C.up.size C.sb fun b194 w195 h196 h197 u198 => ?_)
            have p199 := ap_fresh h197 (fun b hb => (h167.lt b hb).1)
            replace h167 := h167.nw u198
            replace h157 := h157.nw u198
            replace g193 := g193.nw u198
            replace C := C.new u198
            obtain ⟨y200, h201, h184⟩ := pur_some h184
            have h205 := h196
            refine sc (dc_storeO el31 h205 (show at_ [(api_Chunk.mk (0 : Int) ([] : List api_Point))] (0 : Int) = some (api_Chunk.mk (0 : Int) ([] : List api_Point)) from rfl) rfl rfl ((api_Chunk.o.2 ⟨_, rfl, g193⟩)) fun w202 h203 u204 => ?_)
            replace h203 : Ow api_Chunk.k 35 S165 w.heap.size w202 (.slice (some ⟨b194, 0, none⟩) 1 1) [y187] := h203
            rw [h201] at h203
            replace h167 := h167.wr u204 h205.not (ap_symm p199)
            replace h157 := h157.wr u204 h205.not
            replace C := C.ow h205 u204
            refine W.e (k186 _ _ ?_)
            refine cw_seq fun K206 k207 => ?_
            refine cw_region (sv (rv_fieldAddr st35 rfl rfl) ?_)
            obtain ⟨cs208, h209, h210⟩ := Ow.cellsO h203 (show at_ [y200] (0 : Int) = some y200 from rfl)
            obtain ⟨c211, rfl, g212⟩ := api_Chunk.r.1 h209
            refine sr (rw_el1 (off := 1) ag33 (h210 _ (Sm.refl _ _)) rfl rfl) (sv (rv_lenS el33 g212 rfl) (sv (mvv (.int .i64 0) rfl) (W.e (k207 _ _ (cw_block ?_)))))
            refine cw_iter h184 (fun s ρ w1 => ∃ S1 fp217 cs219, Cx No S w S1 w1 ∧ Has ρ [(5, .bool y5), (6, v17), (11, .pointer (some ⟨b194, 0, none⟩)), (54, v156), (55, .int .i64 (y151.1.length : Int)), (56, .int .i64 x172), (61, c211), (62, .int .i64 (y200.Points.length : Int)), (63, .int .i64 s.1)] ∧ Ow api_Chunk.k 35 S1 w.heap.size w1 (.slice (some ⟨b194, 0, none⟩) 1 1) ([y200]) ∧ Sl (kSl api_Chunk.k) S1 w1 v156 y151.1 ∧ Sl (kSl api_Point.k) S1 w1 c211 y200.Points ∧ Obo 67 head_Head.fs S1 w1 v17 s.2 cs219 fp217 ∧ (∀ b, b ∈ fp217 → w.heap.size ≤ b) ∧ (∀ b, Blk (.slice (some ⟨b194, 0, none⟩) 1 1) b → ¬ b ∈ fp217)) ⟨_, _, _, C, ⟨rfl, rfl, rfl, rfl, rfl, rfl, rfl, rfl, rfl, trivial⟩, h203, h157, g212, h167, h169, p199⟩ ?_
            rintro ⟨x222, x223⟩ q213 ρ w215 ⟨S214, fp217, cs219, C, h221, h203, h157, g212, h216, h218, p220⟩ h225 h224
            refine h221.cw fun ρ => ?_
            clear h221
            replace h225 : marigraphlaw11_HeadFar.b8 y200 x222 x223 = some q213 := h225
            unfold marigraphlaw11_HeadFar.b8 at h225
            refine cw_seq fun K226 k227 => ?_
            refine cw_region (sv (rv_lss rfl rfl) (W.e (k227 _ _ ?_)))
            refine cw_seq fun K228 k229 => ?_
            rcases bif_some h225 with ⟨b230, h225⟩ | ⟨b230, h225⟩
            · refine cw_t rfl b230 (cw_skip (k229 _ _ ?_))
              refine cw_seq fun K231 k232 => ?_
              refine cw_block ?_
              refine cw_seq fun K233 k234 => ?_
              refine cw_region ?_
              obtain ⟨y235, h236, h225⟩ := bnd_some h225
              refine sv (rv_index el33 g212 rfl rfl h236) ?_
              obtain ⟨v237, h238, h239⟩ := rw_loadA (P := Try.prog) el33 g212 h236
              obtain rfl := api_Point.o.1 h238
              refine sr (h239 _ (Sm.refl _ _) rfl) ?_
              refine sc (dc_allocO (x0 := (api_Point.mk (0 : Int) (0 : Int))) (base := w.heap.size) el33 zr29 (fun _ => api_Point.r.2 rfl) C.up.size C.sb fun b240 w241 h242 h243 u244 => ?_)
              have p245 := ap_fresh h243 (fun b hb => (h216.lt b hb).1)
              have p246 := ap_fresh h243 (fun b hb => (h203.lt b hb).2)
              replace h216 := h216.nw u244
              replace h203 := h203.nw u244
              replace h157 := h157.nw u244
              replace g212 := g212.nw u244
              replace C := C.new u244
              obtain ⟨y247, h248, h225⟩ := pur_some h225
              have h252 := h242
              refine sc (dc_storeO el33 h252 (show at_ [(api_Point.mk (0 : Int) (0 : Int))] (0 : Int) = some (api_Point.mk (0 : Int) (0 : Int)) from rfl) rfl rfl (((api_Point.o (x := y235)).2 rfl)) fun w249 h250 u251 => ?_)
              replace h250 : Ow api_Point.k 29 S214 w.heap.size w249 (.slice (some ⟨b240, 0, none⟩) 1 1) [y235] := h250
              rw [h248] at h250
              replace h216 := h216.wr u251 h252.not (ap_symm p245)
              replace h203 := h203.wr u251 h252.not (ap_symm p246)
              replace h157 := h157.wr u251 h252.not
              replace g212 := g212.wr u251 h252.not
              replace C := C.ow h252 u251
              refine W.e (k234 _ _ ?_)
              refine cw_seq fun K253 k254 => ?_
              refine cw_region (sv (mvv v17 rfl) (sv (rv_fieldAddr st35 rfl rfl) ?_))
              obtain ⟨cs255, h256, h257⟩ := Ow.cellsO h203 (show at_ [y200] (0 : Int) = some y200 from rfl)
              obtain ⟨c258, rfl, g259⟩ := api_Chunk.r.1 h256
              refine sr (rw_el1 (off := 0) ag3 (h257 _ (Sm.refl _ _)) rfl rfl) ?_
              obtain ⟨v260, h261, h262⟩ := rw_loadO (P := Try.prog) el33 h250 (show at_ [y247] (0 : Int) = some y247 from rfl)
              obtain rfl := api_Point.o.1 h261
              refine sr (h262 _ (Sm.refl _ _) rfl) ?_
              obtain ⟨y263, h264, h225⟩ := bnd_some h225
              refine sc (dc_call (vs := [v17, .int .i64 y200.Id, .agg (List.toArray [.int .i64 y247.T, .int .i64 y247.V])]) can12 rfl ?_)
              refine (head_Head_Add_w C.sb h216 ((api_Point.o (x := y247)).2 rfl) h264).mono ?_
              rintro _ w265 ⟨S266, cs268, fp269, rfl, c267, h270, h271⟩
              refine ⟨_, rfl, ?_⟩
              have h272 : ∀ b, b ∈ fp217 → ¬ S214 b := fun b hb => (h216.lt b hb).2
              have p273 := ap_grow (ap_symm p220) h271 (fun b hb => (h203.lt b hb).2)
              have h274 : ∀ b, b ∈ fp269 → w.heap.size ≤ b := fun b hb => (h271 b hb).elim (h218 b) (fun hl => Nat.le_trans C.up.size hl)
              replace h203 := h203.cf c267 h272 p220
              replace h157 := h157.cf c267 h272
              replace g212 := g212.cf c267 h272
              replace C := C.ofc c267 (fun b hb => .inr (h218 b hb))
              refine sv (rv_neq rfl rfl) (W.e (k254 _ _ ?_))
              rcases bif_some h225 with ⟨b275, h225⟩ | ⟨b275, h225⟩
              · refine cw_t rfl b275 ?_
                refine cw_seq fun K276 k277 => ?_
                refine cw_region (sv (asv (.bool false) rfl) (W.e (k277 _ _ (cw_ret ?_))))
                obtain rfl := Option.some.inj h225
                have h278 := congrArg some h224
                obtain rfl := Option.some.inj h278
                replace h175 := h175.2 _ rfl
                obtain rfl := Option.some.inj h175
                have h279 := congrArg some h174
                obtain rfl := Option.some.inj h279
                replace h := h.2 _ rfl
                obtain rfl := Option.some.inj h
                exact ⟨_, rfl, _, rfl, C⟩
              · refine cw_f rfl b275 (cw_skip (k232 _ _ (cw_region ?_)))
                obtain ⟨y280, h281, h225⟩ := pur_some h225
                refine sv (rv_add rfl rfl h281) (sv (mvv (.int .i64 y280) rfl) (W.e ?_))
                obtain rfl := Option.some.inj h225
                exact ⟨_, rfl, ⟨_, _, _, C, ⟨rfl, rfl, rfl, rfl, rfl, rfl, rfl, rfl, rfl, trivial⟩, h203, h157, g212, h270, h274, (ap_symm p273)⟩⟩
            · refine cw_f rfl b230 (cw_exit ?_)
              obtain rfl := Option.some.inj h225
              have h282 := congrArg some h224
              obtain rfl := Option.some.inj h282
              exact ⟨_, rfl, ⟨_, _, _, C, ⟨rfl, rfl, rfl, rfl, rfl, trivial⟩, h157, h216, h218⟩⟩
          · rintro ρ w284 ⟨o181n, rfl, ⟨S283, fp286, cs288, C, h289, h157, h285, h287⟩⟩
            replace h175 := h175.1 _ rfl
            refine h289.cw fun ρ => ?_
            clear h289
            refine cw_region ?_
            obtain ⟨y290, h291, h175⟩ := pur_some h175
            refine sv (rv_add rfl rfl h291) (sv (mvv (.int .i64 y290) rfl) (W.e ?_))
            obtain rfl := Option.some.inj h175
            exact ⟨_, rfl, ⟨_, _, _, C, ⟨rfl, rfl, rfl, rfl, rfl, trivial⟩, h157, h285, h287⟩⟩
        · refine cw_f rfl b180 (cw_exit ?_)
          obtain rfl := Option.some.inj h175
          have h292 := congrArg some h174
          obtain rfl := Option.some.inj h292
          exact ⟨_, rfl, ⟨_, _, _, C, ⟨rfl, rfl, trivial⟩, h167, h169⟩⟩
      · rintro ρ w294 ⟨o145n, rfl, ⟨S293, fp296, cs298, C, h299, h295, h297⟩⟩
        replace h := h.1 _ rfl
        refine h299.cw fun ρ => ?_
        clear h299
        obtain ⟨o300, h303, h⟩ := bnds_some h
        refine cw_seq' (fun ρ w1 => ∃ o300n, o300 = (.inl o300n) ∧ ∃ S1 fp434 cs436, Cx No S w S1 w1 ∧ Has ρ [(5, .bool y5), (6, v17)] ∧ Obo 67 head_Head.fs S1 w1 v17 o300n cs436 fp434 ∧ (∀ b, b ∈ fp434 → w.heap.size ≤ b)) ?_ ?_
        · refine cw_seq fun K304 k305 => ?_
          refine cw_region (sv (mvv v17 rfl) ?_)
          obtain ⟨y306, h307, h303⟩ := bnd_some h303
          refine sc (dc_call (vs := [v17]) can20 rfl ?_)
          refine (head_Head_Ids_w C.sb h295 h307).mono ?_
          rintro _ w308 ⟨S309, v311, rfl, c310, h312⟩
          refine ⟨_, rfl, ?_⟩
          have p313 := ap_fresh (fun b hb => (h312.lt b hb).1) (fun b hb => (h295.lt b hb).1)
          replace h312 := h312.base C.up.size
          replace h295 := h295.cx c310
          replace C := C.trans c310
          refine sv (rv_lenS el51 h312.sealed rfl) (sv (mvv (.int .i64 0) rfl) (W.e (k305 _ _ (cw_block ?_))))
          refine cw_iter h303 (fun s ρ w1 => ∃ S1 fp318 cs320, Cx No S w S1 w1 ∧ Has ρ [(5, .bool y5), (6, v17), (76, v311), (77, .int .i64 (y306.length : Int)), (78, .int .i64 s.1)] ∧ Ow (kI .i64) 3 S1 w.heap.size w1 v311 y306 ∧ Obo 67 head_Head.fs S1 w1 v17 s.2 cs320 fp318 ∧ (∀ b, b ∈ fp318 → w.heap.size ≤ b) ∧ (∀ b, Blk v311 b → ¬ b ∈ fp318)) ⟨_, _, _, C, ⟨rfl, rfl, rfl, rfl, rfl, trivial⟩, h312, h295, h297, p313⟩ ?_
          rintro ⟨x323, x324⟩ q314 ρ w316 ⟨S315, fp318, cs320, C, h322, h312, h317, h319, p321⟩ h326 h325
          refine h322.cw fun ρ => ?_
          clear h322
          replace h326 : marigraphlaw11_HeadFar.b10 y306 x323 x324 = some q314 := h326
          unfold marigraphlaw11_HeadFar.b10 at h326
          refine cw_seq fun K327 k328 => ?_
          refine cw_region (sv (rv_lss rfl rfl) (W.e (k328 _ _ ?_)))
          refine cw_seq fun K329 k330 => ?_
          rcases bif_some h326 with ⟨b331, h326⟩ | ⟨b331, h326⟩
          · refine cw_t rfl b331 (cw_skip (k330 _ _ ?_))
            obtain ⟨o332, h335, h326⟩ := bnds_some h326
            refine cw_seq' (fun ρ w1 => ∃ o332n, o332 = (.inl o332n) ∧ ∃ S1 fp423 cs425, Cx No S w S1 w1 ∧ Has ρ [(5, .bool y5), (6, v17), (76, v311), (77, .int .i64 (y306.length : Int)), (78, .int .i64 x323)] ∧ Ow (kI .i64) 3 S1 w.heap.size w1 v311 y306 ∧ Obo 67 head_Head.fs S1 w1 v17 o332n cs425 fp423 ∧ (∀ b, b ∈ fp423 → w.heap.size ≤ b) ∧ (∀ b, Blk v311 b → ¬ b ∈ fp423)) ?_ ?_
            · refine cw_block ?_
              refine cw_seq fun K336 k337 => ?_
              refine cw_region ?_
              obtain ⟨y338, h339, h335⟩ := bnd_some h335
              refine sv (rv_index el51 h312.sealed rfl rfl h339) (sr (rw_loadC el51 h312.sealed h339 rfl _ (Sm.refl _ _)) (sv (asv (.int .i64 y338) rfl) (W.e (k337 _ _ ?_))))
              refine cw_seq fun K340 k341 => ?_
              refine cw_region (sv (mvv v17 rfl) (sv (mvv (.int .i64 y338) rfl) ?_))
              obtain ⟨y342, h343, h335⟩ := bnd_some h335
              refine sc (dc_call (vs := [v17, .int .i64 y338]) can16 rfl ?_)
              refine (head_Head_Points_w C.sb h317 h343).mono ?_
              rintro _ w344 ⟨S345, v347, rfl, c346, h348⟩
              refine ⟨_, rfl, ?_⟩
              have p349 := ap_fresh (fun b hb => (h348.lt b hb).1) (fun b hb => (h317.lt b hb).1)
              have p350 := ap_fresh (fun b hb => (h348.lt b hb).1) (fun b hb => (h312.lt b hb).2)
              replace h348 := h348.base C.up.size
              replace h317 := h317.cx c346
              replace h312 := h312.cx c346
              replace C := C.trans c346
              refine sv (rv_lenS el33 h348.sealed rfl) (sv (mvv (.int .i64 0) rfl) (W.e (k341 _ _ (cw_block ?_))))
              refine cw_iter h335 (fun s ρ w1 => ∃ S1 fp355 cs357, Cx No S w S1 w1 ∧ Has ρ [(5, .bool y5), (6, v17), (15, .int .i64 y338), (76, v311), (77, .int .i64 (y306.length : Int)), (78, .int .i64 x323), (84, v347), (85, .int .i64 (y342.length : Int)), (86, .int .i64 s.1)] ∧ Ow (kI .i64) 3 S1 w.heap.size w1 v311 y306 ∧ Ow api_Point.k 29 S1 w.heap.size w1 v347 y342 ∧ Obo 67 head_Head.fs S1 w1 v17 s.2 cs357 fp355 ∧ (∀ b, b ∈ fp355 → w.heap.size ≤ b) ∧ Ap v311 v347 ∧ (∀ b, Blk v311 b → ¬ b ∈ fp355) ∧ (∀ b, Blk v347 b → ¬ b ∈ fp355)) ⟨_, _, _, C, ⟨rfl, rfl, rfl, rfl, rfl, rfl, rfl, rfl, rfl, trivial⟩, h312, h348, h317, h319, (ap_symm p350), p321, p349⟩ ?_
              rintro ⟨x362, x363⟩ q351 ρ w353 ⟨S352, fp355, cs357, C, h361, h312, h348, h354, h356, p358, p359, p360⟩ h365 h364
              refine h361.cw fun ρ => ?_
              clear h361
              replace h365 : marigraphlaw11_HeadFar.b12 y338 y342 x362 x363 = some q351 := h365
              unfold marigraphlaw11_HeadFar.b12 at h365
              refine cw_seq fun K366 k367 => ?_
              refine cw_region (sv (rv_lss rfl rfl) (W.e (k367 _ _ ?_)))
              refine cw_seq fun K368 k369 => ?_
              rcases bif_some h365 with ⟨b370, h365⟩ | ⟨b370, h365⟩
              · refine cw_t rfl b370 (cw_skip (k369 _ _ ?_))
                refine cw_seq fun K371 k372 => ?_
                refine cw_block ?_
                refine cw_seq fun K373 k374 => ?_
                refine cw_region ?_
                obtain ⟨y375, h376, h365⟩ := bnd_some h365
                refine sv (rv_index el33 h348.sealed rfl rfl h376) ?_
                obtain ⟨v377, h378, h379⟩ := rw_loadO (P := Try.prog) el33 h348 h376
                obtain rfl := api_Point.o.1 h378
                refine sr (h379 _ (Sm.refl _ _) rfl) ?_
                refine sc (dc_allocO (x0 := (api_Point.mk (0 : Int) (0 : Int))) (base := w.heap.size) el33 zr29 (fun _ => api_Point.r.2 rfl) C.up.size C.sb fun b380 w381 h382 h383 u384 => ?_)
                have p385 := ap_fresh h383 (fun b hb => (h354.lt b hb).1)
                have p386 := ap_fresh h383 (fun b hb => (h312.lt b hb).2)
                have p387 := ap_fresh h383 (fun b hb => (h348.lt b hb).2)
                replace h354 := h354.nw u384
                replace h312 := h312.nw u384
                replace h348 := h348.nw u384
                replace C := C.new u384
                obtain ⟨y388, h389, h365⟩ := pur_some h365
                have h393 := h382
                refine sc (dc_storeO el33 h393 (show at_ [(api_Point.mk (0 : Int) (0 : Int))] (0 : Int) = some (api_Point.mk (0 : Int) (0 : Int)) from rfl) rfl rfl (((api_Point.o (x := y375)).2 rfl)) fun w390 h391 u392 => ?_)
                replace h391 : Ow api_Point.k 29 S352 w.heap.size w390 (.slice (some ⟨b380, 0, none⟩) 1 1) [y375] := h391
                rw [h389] at h391
                replace h354 := h354.wr u392 h393.not (ap_symm p385)
                replace h312 := h312.wr u392 h393.not (ap_symm p386)
                replace h348 := h348.wr u392 h393.not (ap_symm p387)
                replace C := C.ow h393 u392
                refine W.e (k374 _ _ ?_)
                refine cw_seq fun K394 k395 => ?_
                refine cw_region (sv (mvv v17 rfl) (sv (mvv (.int .i64 y338) rfl) ?_))
                obtain ⟨v396, h397, h398⟩ := rw_loadO (P := Try.prog) el33 h391 (show at_ [y388] (0 : Int) = some y388 from rfl)
                obtain rfl := api_Point.o.1 h397
                refine sr (h398 _ (Sm.refl _ _) rfl) ?_
                obtain ⟨y399, h400, h365⟩ := bnd_some h365
                refine sc (dc_call (vs := [v17, .int .i64 y338, .agg (List.toArray [.int .i64 y388.T, .int .i64 y388.V])]) can12 rfl ?_)
                refine (head_Head_Add_w C.sb h354 ((api_Point.o (x := y388)).2 rfl) h400).mono ?_
                rintro _ w401 ⟨S402, cs404, fp405, rfl, c403, h406, h407⟩
                refine ⟨_, rfl, ?_⟩
                have h408 : ∀ b, b ∈ fp355 → ¬ S352 b := fun b hb => (h354.lt b hb).2
                have p409 := ap_grow (ap_symm p359) h407 (fun b hb => (h312.lt b hb).2)
                have p410 := ap_grow (ap_symm p360) h407 (fun b hb => (h348.lt b hb).2)
                have h411 : ∀ b, b ∈ fp405 → w.heap.size ≤ b := fun b hb => (h407 b hb).elim (h356 b) (fun hl => Nat.le_trans C.up.size hl)
                replace h312 := h312.cf c403 h408 p359
                replace h348 := h348.cf c403 h408 p360
                replace C := C.ofc c403 (fun b hb => .inr (h356 b hb))
                refine sv (rv_neq rfl rfl) (W.e (k395 _ _ ?_))
                rcases bif_some h365 with ⟨b412, h365⟩ | ⟨b412, h365⟩
                · refine cw_t rfl b412 ?_
                  refine cw_seq fun K413 k414 => ?_
                  refine cw_region (sv (asv (.bool false) rfl) (W.e (k414 _ _ (cw_ret ?_))))
                  obtain rfl := Option.some.inj h365
                  have h415 := congrArg some h364
                  obtain rfl := Option.some.inj h415
                  replace h326 := h326.2 _ rfl
                  obtain rfl := Option.some.inj h326
                  have h416 := congrArg some h325
                  obtain rfl := Option.some.inj h416
                  replace h := h.2 _ rfl
                  obtain rfl := Option.some.inj h
                  exact ⟨_, rfl, _, rfl, C⟩
                · refine cw_f rfl b412 (cw_skip (k372 _ _ (cw_region ?_)))
                  obtain ⟨y417, h418, h365⟩ := pur_some h365
                  refine sv (rv_add rfl rfl h418) (sv (mvv (.int .i64 y417) rfl) (W.e ?_))
                  obtain rfl := Option.some.inj h365
                  exact ⟨_, rfl, ⟨_, _, _, C, ⟨rfl, rfl, rfl, rfl, rfl, rfl, rfl, rfl, rfl, trivial⟩, h312, h348, h406, h411, p358, (ap_symm p409), (ap_symm p410)⟩⟩
              · refine cw_f rfl b370 (cw_exit ?_)
                obtain rfl := Option.some.inj h365
                have h419 := congrArg some h364
                obtain rfl := Option.some.inj h419
                exact ⟨_, rfl, ⟨_, _, _, C, ⟨rfl, rfl, rfl, rfl, rfl, trivial⟩, h312, h354, h356, p359⟩⟩
            · rintro ρ w421 ⟨o332n, rfl, ⟨S420, fp423, cs425, C, h427, h312, h422, h424, p426⟩⟩
              replace h326 := h326.1 _ rfl
              refine h427.cw fun ρ => ?_
              clear h427
              refine cw_region ?_
              obtain ⟨y428, h429, h326⟩ := pur_some h326
              refine sv (rv_add rfl rfl h429) (sv (mvv (.int .i64 y428) rfl) (W.e ?_))
              obtain rfl := Option.some.inj h326
              exact ⟨_, rfl, ⟨_, _, _, C, ⟨rfl, rfl, rfl, rfl, rfl, trivial⟩, h312, h422, h424, p426⟩⟩
          · refine cw_f rfl b331 (cw_exit ?_)
            obtain rfl := Option.some.inj h326
            have h430 := congrArg some h325
            obtain rfl := Option.some.inj h430
            exact ⟨_, rfl, ⟨_, _, _, C, ⟨rfl, rfl, trivial⟩, h317, h319⟩⟩
        · rintro ρ w432 ⟨o300n, rfl, ⟨S431, fp434, cs436, C, h437, h433, h435⟩⟩
          replace h := h.1 _ rfl
          refine h437.cw fun ρ => ?_
          clear h437
          obtain ⟨o438, h441, h⟩ := bnd_some h
          refine cw_seq' (fun ρ w1 => ∃ S1, Cx No S w S1 w1 ∧ Has ρ [(4, .bool o438.1)]) ?_ ?_
          · refine cw_region (sv (mvv (.bool y5) rfl) (sv (mvv (.bool y5) rfl) ?_))
            rcases bif_some h441 with ⟨b442, h441⟩ | ⟨b442, h441⟩
            · refine W.v (gy rfl rfl rfl b442) (mvv v17 rfl) ?_
              obtain ⟨y443, h444, h441⟩ := bnd_some h441
              refine W.c (gy rfl rfl rfl b442) (dc_call (vs := [v17]) can14 rfl ?_)
              refine (head_Head_Seal_w C.sb h433 h444).mono ?_
              rintro _ w445 ⟨S446, v448, cs450, fp451, rfl, c447, h449, h452, h453⟩
              refine ⟨_, rfl, ?_⟩
              have h454 : ∀ b, b ∈ fp434 → ¬ S431 b := fun b hb => (h433.lt b hb).2
              have h455 : ∀ b, b ∈ fp451 → w.heap.size ≤ b := fun b hb => (h453 b hb).elim (h435 b) (fun hl => Nat.le_trans C.up.size hl)
              replace C := C.ofc c447 (fun b hb => .inr (h435 b hb))
              refine W.v (gy rfl rfl rfl b442) (rv_lenS el31 h449 rfl) (W.v (gy rfl rfl rfl b442) (rv_eql rfl rfl) (sv (ptk (.bool ((y443.1.length : Int) == (0 : Int))) rfl b442 rfl) (sv (asv (.bool ((y443.1.length : Int) == (0 : Int))) rfl) (W.e ?_))))
              obtain rfl := Option.some.inj h441
              exact ⟨_, C, ⟨rfl, trivial⟩⟩
            · refine W.n (gn rfl rfl rfl b442) (W.n (gn rfl rfl rfl b442) (W.n (gn rfl rfl rfl b442) (W.n (gn rfl rfl rfl b442) (sv (pfk (.bool false) rfl b442 rfl) (sv (asv (.bool false) rfl) (W.e ?_))))))
              obtain rfl := Option.some.inj h441
              exact ⟨_, C, ⟨rfl, trivial⟩⟩
          · rintro ρ w457 ⟨S456, C, h458⟩
            refine h458.cw fun ρ => ?_
            clear h458
            refine cw_ret ?_
            obtain rfl := Option.some.inj h
            exact ⟨_, rfl, _, rfl, C⟩

noncomputable def head_Head_Last (a0 : Option head_Head) : Option (Int × Bool) :=
  (bif a0.isNone then some ((0 : Int), false) else ((a0).bind fun y15 => some (y15.last, y15.any)))
set_option maxRecDepth 100000 in
set_option maxHeartbeats 4000000 in
theorem head_Head_Last_w {S : Nat → Prop} {w : World} {a0 : Option head_Head} {v0 : Value} {cs0 : List Value} {fp0 : List Nat} {r : Int × Bool} (hS : Sb S w) (h0 : Obo 67 head_Head.fs S w v0 a0 cs0 fp0) (h : head_Head_Last a0 = some r) :
    Calls Try.prog 21 (List.toArray [v0]) w fun e w1 => ∃ S1, e = .returned (.tuple (List.toArray [.int .i64 r.1, .bool r.2])) ∧ Cx No S w S1 w1 := by
  refine enter Try.func21 rfl (by kernel_rfl) rfl ?_
  have C := Cx.refl (F := No) hS
  unfold head_Head_Last at h
  have hl0 : ∀ b ∈ fp0, b < w.heap.size := fun b hb => (h0.lt b hb).1
  refine cw_seq fun K1 k2 => ?_
  refine cw_region (sv (asv (.int .i64 0) rfl) (sv (asv (.bool false) rfl) (W.e (k2 _ _ ?_))))
  refine cw_seq fun K3 k4 => ?_
  refine cw_seq fun K5 k6 => ?_
  refine cw_region (sv (mvv v0 rfl) (sv (rv_nileq Try.underlying23 rfl rfl h0.ne) (W.e (k6 _ _ ?_))))
  rcases bif_some h with ⟨b7, h⟩ | ⟨b7, h⟩
  · refine cw_t rfl b7 ?_
    refine cw_seq fun K8 k9 => ?_
    refine cw_region (sv (asv (.int .i64 0) rfl) (sv (asv (.bool false) rfl) (W.e (k9 _ _ (cw_ret ?_)))))
    obtain rfl := Option.some.inj h
    exact ⟨_, rfl, _, rfl, C⟩
  · refine cw_f rfl b7 (cw_skip (k4 _ _ ?_))
    refine cw_seq fun K10 k11 => ?_
    refine cw_drawU (.one 0 true (.one 1 true (.one 2 true (.one 3 true (.one 4 true (.one 5 true (.one 6 true (.one 7 true (.one 8 true (.one 9 true .done)))))))))) [(3, [9]), (7, [9])] [] (fun c => bif Nat.beq c 9 then (fun _ => True) else No) fol (by kernel_rfl) fun w12 u13 => ?_
    replace h0 := h0.nw u13
    replace C := C.new u13
    have m14 := Sm.refl (fun _ => True) w12
    refine mtv rfl rfl (mvv v0 rfl) ?_
    obtain ⟨y15, h16, h⟩ := bnd_some h
    have h17 := h0
    rw [h16] at h17
    replace h17 : Ob 67 (head_Head.fs y15) _ _ _ _ _ := h17
    have h17d := h17
    refine mtv rfl rfl (rv_nilcheck rfl h17.ptr) (mtv rfl rfl (rv_fieldAddr (b := pb v0) (o := 0) st67 rfl h17.ptr) (mtr rfl rfl ⟨m14, trivial⟩ (fun w' hq => rw_ofieldU (i := 3) (c := .int .i64 y15.last) h17 (hq.1.mono fun _ _ => trivial) ag3 (h17.sc (i := 3) rfl) rfl) (mtv rfl rfl (mvv v0 rfl) (mtv rfl rfl (rv_nilcheck rfl h17.ptr) (mtv rfl rfl (rv_fieldAddr (b := pb v0) (o := 0) st67 rfl h17.ptr) (mtr rfl rfl ⟨m14, trivial⟩ (fun w' hq => rw_ofieldU (i := 4) (c := .bool y15.any) h17 (hq.1.mono fun _ _ => trivial) ag4 (h17.sc (i := 4) rfl) rfl) (mtv rfl rfl (asv (.int .i64 y15.last) rfl) (mtv rfl rfl (asv (.bool y15.any) rfl) (MT.e (k11 _ _ (cw_ret ?_)))))))))))
    obtain rfl := Option.some.inj h
    exact ⟨_, rfl, _, rfl, C⟩

noncomputable def marigraphlaw11_HeadLast.b3 (y44 : (List marigraphlaw11_Act)) (x59 : Int) (x60 : Bool) (x61 : Int) (x62 : Option head_Head) : Option ((Int × Bool × Int × (Option head_Head)) ⊕ (((Option head_Head)) ⊕ (Bool))) :=
  (bif (decide (x61 < (y44.length : Int))) then (((at_ y44 x61).bind fun y76 => (pur y76 fun y87 => ((pur (Int.tmod y87.Kind (7 : Int)) fun y102 => (bif (y102 == (5 : Int)) then ((head_Head_Seal x62).bind fun y107 => some (x59, x60, y107.2)) else (bif (y102 == (6 : Int)) then ((head_Head_Drop x62 y87.Id).bind fun y126 => some (x59, x60, y126.2)) else (((head_Head_Add x62 y87.Id y87.P).bind fun y147 => (bif (y147.1 == (0 : Int)) then (bif (!x60) then some (true, y147.2) else some ((decide (x59 < y87.P.T)), y147.2)) else some (false, y147.2))).bind fun o137 => (bif o137.1 then some (y87.P.T, true, o137.2) else some (x59, x60, o137.2)))))).bind fun o93 => ((head_Head_Last o93.2.2).bind fun y185 => ((bif (y185.1 != o93.1) then some true else some (!(y185.2 == o93.2.1))).bind fun o190 => (bif o190 then some (.inr (.inr (.inr false))) else some (.inl (o93.1, o93.2.1, o93.2.2)))))))).bind (Sum.elim (fun o70n => (pur (IntKind.i64.wrap (x61 + (1 : Int))) fun y209 => some (.inl (o70n.1, o70n.2.1, y209, o70n.2.2)))) (fun q => some q))) else some (.inr (.inl x62)))
noncomputable def marigraphlaw11_HeadLast (a0 : Int) (a1 : List marigraphlaw11_Act) : Option Bool :=
  ((marigraphlaw11_shown).bind fun y5 => ((head_New a0).bind fun y12 => (bif y12.1.isNone then ((bif y5 then some (y12.2 == (1 : Int)) else some false).bind fun o28 => some o28) else (((marigraphlaw11_few a1).bind fun y44 => (iter (fun s : Int × Bool × Int × (Option head_Head) => marigraphlaw11_HeadLast.b3 y44 s.1 s.2.1 s.2.2.1 s.2.2.2) ((0 : Int), false, (0 : Int), y12.1))).bind (Sum.elim (fun o38n => some y5) (fun q => some q))))))
set_option maxRecDepth 100000 in
set_option maxHeartbeats 4000000 in
theorem marigraphlaw11_HeadLast_w {S : Nat → Prop} {w : World} {a0 : Int} {a1 : List marigraphlaw11_Act} {v1 : Value} {r : Bool} (hS : Sb S w) (h1 : Sl (kSl marigraphlaw11_Act.k) S w v1 a1) (h : marigraphlaw11_HeadLast a0 a1 = some r) :
    Calls Try.prog 6 (List.toArray [.int .i64 a0, v1]) w fun e w1 => ∃ S1, e = .returned (.bool r) ∧ Cx No S w S1 w1 := by
  refine enter Try.func6 rfl (by kernel_rfl) rfl ?_
  have C := Cx.refl (F := No) hS
  unfold marigraphlaw11_HeadLast at h
  refine cw_seq fun K1 k2 => ?_
  refine cw_region (sv (asv (.bool false) rfl) (W.e (k2 _ _ ?_)))
  refine cw_seq fun K3 k4 => ?_
  refine cw_region ?_
  obtain ⟨y5, h6, h⟩ := bnd_some h
  refine sc (dc_call (vs := []) can10 rfl ?_)
  refine (marigraphlaw11_shown_w C.sb  h6).mono ?_
  rintro _ w7 ⟨S8, rfl, c9⟩
  refine ⟨_, rfl, ?_⟩
  replace h1 := h1.cx c9
  replace C := C.trans c9
  refine sv (asv (.bool y5) rfl) (W.e (k4 _ _ ?_))
  refine cw_seq fun K10 k11 => ?_
  refine cw_region (sv (mvv (.int .i64 a0) rfl) ?_)
  obtain ⟨y12, h13, h⟩ := bnd_some h
  refine sc (dc_call (vs := [.int .i64 a0]) can11 rfl ?_)
  refine (head_New_w C.sb  h13).mono ?_
  rintro _ w14 ⟨S15, v17, cs18, fp19, rfl, c16, h20, h21⟩
  refine ⟨_, rfl, ?_⟩
  have h22 : ∀ b, b ∈ fp19 → w.heap.size ≤ b := fun b hb => Nat.le_trans C.up.size (h21 b hb)
  replace h1 := h1.cx c16
  replace C := C.trans c16
  refine sv (mvv (.tuple (List.toArray [v17, .int .i64 y12.2])) rfl) (sv (rv_extract rfl rfl) (sv (rv_extract rfl rfl) (sv (asv v17 rfl) (sv (asv (.int .i64 y12.2) rfl) (W.e (k11 _ _ ?_))))))
  refine cw_seq fun K23 k24 => ?_
  refine cw_seq fun K25 k26 => ?_
  refine cw_region (sv (mvv v17 rfl) (sv (rv_nileq Try.underlying23 rfl rfl h20.ne) (W.e (k26 _ _ ?_))))
  rcases bif_some h with ⟨b27, h⟩ | ⟨b27, h⟩
  · refine cw_t rfl b27 ?_
    obtain ⟨o28, h31, h⟩ := bnd_some h
    refine cw_seq' (fun ρ w1 => ∃ S1, Cx No S w S1 w1 ∧ Has ρ [(4, .bool o28)]) ?_ ?_
    · refine cw_region (sv (mvv (.bool y5) rfl) (sv (mvv (.bool y5) rfl) ?_))
      rcases bif_some h31 with ⟨b32, h31⟩ | ⟨b32, h31⟩
      · refine W.v (gy rfl rfl rfl b32) (mvv (.int .i64 y12.2) rfl) (W.v (gy rfl rfl rfl b32) (rv_eql rfl rfl) (sv (ptk (.bool (y12.2 == (1 : Int))) rfl b32 rfl) (sv (asv (.bool (y12.2 == (1 : Int))) rfl) (W.e ?_))))
        obtain rfl := Option.some.inj h31
        exact ⟨_, C, ⟨rfl, trivial⟩⟩
      · refine W.n (gn rfl rfl rfl b32) (W.n (gn rfl rfl rfl b32) (sv (pfk (.bool false) rfl b32 rfl) (sv (asv (.bool false) rfl) (W.e ?_))))
        obtain rfl := Option.some.inj h31
        exact ⟨_, C, ⟨rfl, trivial⟩⟩
    · rintro ρ w34 ⟨S33, C, h35⟩
      refine h35.cw fun ρ => ?_
      clear h35
      refine cw_ret ?_
      obtain rfl := Option.some.inj h
      exact ⟨_, rfl, _, rfl, C⟩
  · refine cw_f rfl b27 (cw_skip (k24 _ _ ?_))
    refine cw_seq fun K36 k37 => ?_
    refine cw_region (sv (asv (.int .i64 0) rfl) (sv (asv (.bool false) rfl) (W.e (k37 _ _ ?_))))
    obtain ⟨o38, h41, h⟩ := bnds_some h
    refine cw_seq' (fun ρ w1 => ∃ o38n, o38 = (.inl o38n) ∧ ∃ S1, Cx No S w S1 w1 ∧ Has ρ [(5, .bool y5)]) ?_ ?_
    · refine cw_seq fun K42 k43 => ?_
      refine cw_region (sv (mvv v1 rfl) ?_)
      obtain ⟨y44, h45, h41⟩ := bnd_some h41
      refine sc (dc_call (vs := [v1]) can18 rfl ?_)
      refine (marigraphlaw11_few_w C.sb h1 h45).mono ?_
      rintro _ w46 ⟨S47, v49, rfl, c48, h50⟩
      refine ⟨_, rfl, ?_⟩
      replace h20 := h20.cx c48
      replace C := C.trans c48
      refine sv (rv_lenS el37 h50 rfl) (sv (mvv (.int .i64 0) rfl) (W.e (k43 _ _ (cw_block ?_))))
      refine cw_iter h41 (fun s ρ w1 => ∃ S1 fp55 cs57, Cx No S w S1 w1 ∧ Has ρ [(5, .bool y5), (6, v17), (8, .int .i64 s.1), (9, .bool s.2.1), (28, v49), (29, .int .i64 (y44.length : Int)), (30, .int .i64 s.2.2.1)] ∧ Sl (kSl marigraphlaw11_Act.k) S1 w1 v49 y44 ∧ Obo 67 head_Head.fs S1 w1 v17 s.2.2.2 cs57 fp55 ∧ (∀ b, b ∈ fp55 → w.heap.size ≤ b)) ⟨_, _, _, C, ⟨rfl, rfl, rfl, rfl, rfl, rfl, rfl, trivial⟩, h50, h20, h22⟩ ?_
      rintro ⟨x59, x60, x61, x62⟩ q51 ρ w53 ⟨S52, fp55, cs57, C, h58, h50, h54, h56⟩ h64 h63
      refine h58.cw fun ρ => ?_
      clear h58
      replace h64 : marigraphlaw11_HeadLast.b3 y44 x59 x60 x61 x62 = some q51 := h64
      unfold marigraphlaw11_HeadLast.b3 at h64
      refine cw_seq fun K65 k66 => ?_
      refine cw_region (sv (rv_lss rfl rfl) (W.e (k66 _ _ ?_)))
      refine cw_seq fun K67 k68 => ?_
      rcases bif_some h64 with ⟨b69, h64⟩ | ⟨b69, h64⟩
      · refine cw_t rfl b69 (cw_skip (k68 _ _ ?_))
        obtain ⟨o70, h73, h64⟩ := bnds_some h64
        refine cw_seq' (fun ρ w1 => ∃ o70n, o70 = (.inl o70n) ∧ ∃ S1 fp205 cs207, Cx No S w S1 w1 ∧ Has ρ [(5, .bool y5), (6, v17), (8, .int .i64 o70n.1), (9, .bool o70n.2.1), (28, v49), (29, .int .i64 (y44.length : Int)), (30, .int .i64 x61)] ∧ Sl (kSl marigraphlaw11_Act.k) S1 w1 v49 y44 ∧ Obo 67 head_Head.fs S1 w1 v17 o70n.2.2 cs207 fp205 ∧ (∀ b, b ∈ fp205 → w.heap.size ≤ b)) ?_ ?_
        · refine cw_block ?_
          refine cw_seq fun K74 k75 => ?_
          refine cw_region ?_
          obtain ⟨y76, h77, h73⟩ := bnd_some h73
          refine sv (rv_index el37 h50 rfl rfl h77) ?_
          obtain ⟨v78, h79, h80⟩ := rw_loadA (P := Try.prog) el37 h50 h77
          obtain rfl := marigraphlaw11_Act.o.1 h79
          refine sr (h80 _ (Sm.refl _ _) rfl) ?_
          refine sc (dc_allocO (x0 := (marigraphlaw11_Act.mk (0 : Int) (0 : Int) (api_Point.mk (0 : Int) (0 : Int)))) (base := w.heap.size) el37 zr41 (fun _ => marigraphlaw11_Act.r.2 rfl) C.up.size C.sb fun b81 w82 h83 h84 u85 => ?_)
          have p86 := ap_fresh h84 (fun b hb => (h54.lt b hb).1)
          replace h54 := h54.nw u85
          replace h50 := h50.nw u85
          replace C := C.new u85
          obtain ⟨y87, h88, h73⟩ := pur_some h73
          have h92 := h83
          refine sc (dc_storeO el37 h92 (show at_ [(marigraphlaw11_Act.mk (0 : Int) (0 : Int) (api_Point.mk (0 : Int) (0 : Int)))] (0 : Int) = some (marigraphlaw11_Act.mk (0 : Int) (0 : Int) (api_Point.mk (0 : Int) (0 : Int))) from rfl) rfl rfl (((marigraphlaw11_Act.o (x := y76)).2 rfl)) fun w89 h90 u91 => ?_)
          replace h90 : Ow marigraphlaw11_Act.k 41 S52 w.heap.size w89 (.slice (some ⟨b81, 0, none⟩) 1 1) [y76] := h90
          rw [h88] at h90
          replace h54 := h54.wr u91 h92.not (ap_symm p86)
          replace h50 := h50.wr u91 h92.not
          replace C := C.ow h92 u91
          refine W.e (k75 _ _ ?_)
          obtain ⟨o93, h96, h73⟩ := bnd_some h73
          refine cw_seq' (fun ρ w1 => ∃ S1 fp179 cs181, Cx No S w S1 w1 ∧ Has ρ [(5, .bool y5), (6, v17), (8, .int .i64 o93.1), (9, .bool o93.2.1), (28, v49), (29, .int .i64 (y44.length : Int)), (30, .int .i64 x61)] ∧ Sl (kSl marigraphlaw11_Act.k) S1 w1 v49 y44 ∧ Obo 67 head_Head.fs S1 w1 v17 o93.2.2 cs181 fp179 ∧ (∀ b, b ∈ fp179 → w.heap.size ≤ b)) ?_ ?_
          · refine cw_seq fun K97 k98 => ?_
            refine cw_region (sv (rv_fieldAddr st41 rfl rfl) ?_)
            obtain ⟨cs99, h100, h101⟩ := Ow.cellsO h90 (show at_ [y87] (0 : Int) = some y87 from rfl)
            obtain rfl := marigraphlaw11_Act.r.1 h100
            refine sr (rw_el1 (off := 0) ag5 (h101 _ (Sm.refl _ _)) rfl rfl) ?_
            obtain ⟨y102, h103, h96⟩ := pur_some h96
            refine sv (rv_rem rfl rfl (by decide) h103) (W.e (k98 _ _ (cw_block ?_)))
            refine cw_seq fun K104 k105 => ?_
            refine cw_region (sv (rv_eql rfl rfl) (sv (asv (.bool (y102 == (5 : Int))) rfl) (W.e (k105 _ _ ?_))))
            rcases bif_some h96 with ⟨b106, h96⟩ | ⟨b106, h96⟩
            · refine cw_t rfl b106 (cw_region (sv (mvv v17 rfl) ?_))
              obtain ⟨y107, h108, h96⟩ := bnd_some h96
              refine sc (dc_call (vs := [v17]) can14 rfl ?_)
              refine (head_Head_Seal_w C.sb h54 h108).mono ?_
              rintro _ w109 ⟨S110, v112, cs114, fp115, rfl, c111, h113, h116, h117⟩
              refine ⟨_, rfl, ?_⟩
              have h118 : ∀ b, b ∈ fp55 → ¬ S52 b := fun b hb => (h54.lt b hb).2
              have h119 : ∀ b, b ∈ fp115 → w.heap.size ≤ b := fun b hb => (h117 b hb).elim (h56 b) (fun hl => Nat.le_trans C.up.size hl)
              replace h50 := h50.cf c111 h118
              replace C := C.ofc c111 (fun b hb => .inr (h56 b hb))
              refine W.e ?_
              obtain rfl := Option.some.inj h96
              exact ⟨_, _, _, C, ⟨rfl, rfl, rfl, rfl, rfl, rfl, rfl, trivial⟩, h50, h116, h119⟩
            · refine cw_f rfl b106 ?_
              refine cw_seq fun K120 k121 => ?_
              refine cw_region (sv (rv_eql rfl rfl) (sv (asv (.bool (y102 == (6 : Int))) rfl) (W.e (k121 _ _ ?_))))
              rcases bif_some h96 with ⟨b122, h96⟩ | ⟨b122, h96⟩
              · refine cw_t rfl b122 (cw_region (sv (mvv v17 rfl) (sv (rv_fieldAddr st41 rfl rfl) ?_)))
                obtain ⟨cs123, h124, h125⟩ := Ow.cellsO h90 (show at_ [y87] (0 : Int) = some y87 from rfl)
                obtain rfl := marigraphlaw11_Act.r.1 h124
                refine sr (rw_el1 (off := 1) ag3 (h125 _ (Sm.refl _ _)) rfl rfl) ?_
                obtain ⟨y126, h127, h96⟩ := bnd_some h96
                refine sc (dc_call (vs := [v17, .int .i64 y87.Id]) can19 rfl ?_)
                refine (head_Head_Drop_w C.sb h54 h127).mono ?_
                rintro _ w128 ⟨S129, cs131, fp132, rfl, c130, h133, h134⟩
                refine ⟨_, rfl, ?_⟩
                have h135 : ∀ b, b ∈ fp55 → ¬ S52 b := fun b hb => (h54.lt b hb).2
                have h136 : ∀ b, b ∈ fp132 → w.heap.size ≤ b := fun b hb => (h134 b hb).elim (h56 b) (fun hl => Nat.le_trans C.up.size hl)
                replace h50 := h50.cf c130 h135
                replace C := C.ofc c130 (fun b hb => .inr (h56 b hb))
                refine W.e ?_
                obtain rfl := Option.some.inj h96
                exact ⟨_, _, _, C, ⟨rfl, rfl, rfl, rfl, rfl, rfl, rfl, trivial⟩, h50, h133, h136⟩
              · refine cw_f rfl b122 ?_
                obtain ⟨o137, h140, h96⟩ := bnd_some h96
                refine cw_seq' (fun ρ w1 => ∃ S1 fp167 cs169, Cx No S w S1 w1 ∧ Has ρ [(5, .bool y5), (6, v17), (8, .int .i64 x59), (9, .bool x60), (11, .pointer (some ⟨b81, 0, none⟩)), (28, v49), (29, .int .i64 (y44.length : Int)), (30, .int .i64 x61), (54, .bool o137.1)] ∧ Ow marigraphlaw11_Act.k 41 S1 w.heap.size w1 (.slice (some ⟨b81, 0, none⟩) 1 1) ([y87]) ∧ Sl (kSl marigraphlaw11_Act.k) S1 w1 v49 y44 ∧ Obo 67 head_Head.fs S1 w1 v17 o137.2 cs169 fp167 ∧ (∀ b, b ∈ fp167 → w.heap.size ≤ b) ∧ (∀ b, Blk (.slice (some ⟨b81, 0, none⟩) 1 1) b → ¬ b ∈ fp167)) ?_ ?_
                · refine cw_region (sv (mvv v17 rfl) (sv (rv_fieldAddr st41 rfl rfl) ?_))
                  obtain ⟨cs141, h142, h143⟩ := Ow.cellsO h90 (show at_ [y87] (0 : Int) = some y87 from rfl)
                  obtain rfl := marigraphlaw11_Act.r.1 h142
                  refine sr (rw_el1 (off := 1) ag3 (h143 _ (Sm.refl _ _)) rfl rfl) (sv (rv_fieldAddr st41 rfl rfl) ?_)
                  obtain ⟨cs144, h145, h146⟩ := Ow.cellsO h90 (show at_ [y87] (0 : Int) = some y87 from rfl)
                  obtain rfl := marigraphlaw11_Act.r.1 h145
                  refine sr (rw_elA (off := 2) ag29 (h146 _ (Sm.refl _ _)) rfl rfl rfl) ?_
                  obtain ⟨y147, h148, h140⟩ := bnd_some h140
                  refine sc (dc_call (vs := [v17, .int .i64 y87.Id, .agg (List.toArray [.int .i64 y87.P.T, .int .i64 y87.P.V])]) can12 rfl ?_)
                  refine (head_Head_Add_w C.sb h54 ((api_Point.o (x := y87.P)).2 rfl) h148).mono ?_
                  rintro _ w149 ⟨S150, cs152, fp153, rfl, c151, h154, h155⟩
                  refine ⟨_, rfl, ?_⟩
                  have h156 : ∀ b, b ∈ fp55 → ¬ S52 b := fun b hb => (h54.lt b hb).2
                  have p157 := ap_grow (ap_symm p86) h155 (fun b hb => (h90.lt b hb).2)
                  have h158 : ∀ b, b ∈ fp153 → w.heap.size ≤ b := fun b hb => (h155 b hb).elim (h56 b) (fun hl => Nat.le_trans C.up.size hl)
                  replace h90 := h90.cf c151 h156 p86
                  replace h50 := h50.cf c151 h156
                  replace C := C.ofc c151 (fun b hb => .inr (h56 b hb))
                  refine sv (rv_eql rfl rfl) (sv (mvv (.bool (y147.1 == (0 : Int))) rfl) ?_)
                  rcases bif_some h140 with ⟨b159, h140⟩ | ⟨b159, h140⟩
                  · refine W.v (gy rfl rfl rfl b159) (mvv (.bool x60) rfl) (W.v (gy rfl rfl rfl b159) (rv_not rfl) (W.v (gy rfl rfl rfl b159) (mvv (.bool (!x60)) rfl) ?_))
                    rcases bif_some h140 with ⟨b160, h140⟩ | ⟨b160, h140⟩
                    · refine W.n (gn rfl rfl rfl b160) (W.n (gn rfl rfl rfl b160) (W.n (gn rfl rfl rfl b160) (W.n (gn rfl rfl rfl b160) (W.n (gn rfl rfl rfl b160) (W.v (gy rfl rfl rfl b159) (ptk (.bool true) rfl b160 rfl) (sv (ptk (.bool true) rfl b159 rfl) (W.e ?_)))))))
                      obtain rfl := Option.some.inj h140
                      exact ⟨_, _, _, C, ⟨rfl, rfl, rfl, rfl, rfl, rfl, rfl, rfl, rfl, trivial⟩, h90, h50, h154, h158, (ap_symm p157)⟩
                    · refine W.v (gy rfl rfl rfl b160) (rv_fieldAddr st41 rfl rfl) (W.v (gy rfl rfl rfl b160) (rv_fieldAddr st29 rfl rfl) ?_)
                      obtain ⟨cs161, h162, h163⟩ := Ow.cellsO h90 (show at_ [y87] (0 : Int) = some y87 from rfl)
                      obtain rfl := marigraphlaw11_Act.r.1 h162
                      refine W.r (gy rfl rfl rfl b160) (rw_el1 (off := 2) ag3 (h163 _ (Sm.refl _ _)) rfl rfl) (W.v (gy rfl rfl rfl b160) (mvv (.int .i64 x59) rfl) (W.v (gy rfl rfl rfl b160) (rv_gtr rfl rfl) (W.v (gy rfl rfl rfl b159) (pfk (.bool (decide (x59 < y87.P.T))) rfl b160 rfl) (sv (ptk (.bool (decide (x59 < y87.P.T))) rfl b159 rfl) (W.e ?_)))))
                      obtain rfl := Option.some.inj h140
                      exact ⟨_, _, _, C, ⟨rfl, rfl, rfl, rfl, rfl, rfl, rfl, rfl, rfl, trivial⟩, h90, h50, h154, h158, (ap_symm p157)⟩
                  · refine W.n (gn rfl rfl rfl b159) (W.n (gn rfl rfl rfl b159) (W.n (gn rfl rfl rfl b159) (W.n (gu rfl rfl rfl) (W.n (gu rfl rfl rfl) (W.n (gu rfl rfl rfl) (W.n (gu rfl rfl rfl) (W.n (gu rfl rfl rfl) (W.n (gn rfl rfl rfl b159) (sv (pfk (.bool false) rfl b159 rfl) (W.e ?_))))))))))
                    obtain rfl := Option.some.inj h140
                    exact ⟨_, _, _, C, ⟨rfl, rfl, rfl, rfl, rfl, rfl, rfl, rfl, rfl, trivial⟩, h90, h50, h154, h158, (ap_symm p157)⟩
                · rintro ρ w165 ⟨S164, fp167, cs169, C, h171, h90, h50, h166, h168, p170⟩
                  refine h171.cw fun ρ => ?_
                  clear h171
                  rcases bif_some h96 with ⟨b172, h96⟩ | ⟨b172, h96⟩
                  · refine cw_t rfl b172 (cw_region (sv (rv_fieldAddr st41 rfl rfl) (sv (rv_fieldAddr st29 rfl rfl) ?_)))
                    obtain ⟨cs173, h174, h175⟩ := Ow.cellsO h90 (show at_ [y87] (0 : Int) = some y87 from rfl)
                    obtain rfl := marigraphlaw11_Act.r.1 h174
                    refine sr (rw_el1 (off := 2) ag3 (h175 _ (Sm.refl _ _)) rfl rfl) (sv (asv (.int .i64 y87.P.T) rfl) (sv (asv (.bool true) rfl) (W.e ?_)))
                    obtain rfl := Option.some.inj h96
                    exact ⟨_, _, _, C, ⟨rfl, rfl, rfl, rfl, rfl, rfl, rfl, trivial⟩, h50, h166, h168⟩
                  · refine cw_f rfl b172 (cw_skip ?_)
                    obtain rfl := Option.some.inj h96
                    exact ⟨_, _, _, C, ⟨rfl, rfl, rfl, rfl, rfl, rfl, rfl, trivial⟩, h50, h166, h168⟩
          · rintro ρ w177 ⟨S176, fp179, cs181, C, h182, h50, h178, h180⟩
            refine h182.cw fun ρ => ?_
            clear h182
            refine cw_seq fun K183 k184 => ?_
            refine cw_region (sv (mvv v17 rfl) ?_)
            obtain ⟨y185, h186, h73⟩ := bnd_some h73
            refine sc (dc_call (vs := [v17]) can21 rfl ?_)
            refine (head_Head_Last_w C.sb h178 h186).mono ?_
            rintro _ w187 ⟨S188, rfl, c189⟩
            refine ⟨_, rfl, ?_⟩
            replace h178 := h178.cx c189
            replace h50 := h50.cx c189
            replace C := C.trans c189
            refine sv (mvv (.tuple (List.toArray [.int .i64 y185.1, .bool y185.2])) rfl) (sv (rv_extract rfl rfl) (sv (rv_extract rfl rfl) (sv (asv (.int .i64 y185.1) rfl) (sv (asv (.bool y185.2) rfl) (W.e (k184 _ _ ?_))))))
            obtain ⟨o190, h193, h73⟩ := bnd_some h73
            refine cw_seq' (fun ρ w1 => ∃ S1, Cx No S w S1 w1 ∧ Has ρ [(5, .bool y5), (6, v17), (8, .int .i64 o93.1), (9, .bool o93.2.1), (28, v49), (29, .int .i64 (y44.length : Int)), (30, .int .i64 x61), (80, .bool o190)] ∧ Sl (kSl marigraphlaw11_Act.k) S1 w1 v49 y44 ∧ Obo 67 head_Head.fs S1 w1 v17 o93.2.2 cs181 fp179) ?_ ?_
            · refine cw_region (sv (mvv (.int .i64 y185.1) rfl) (sv (mvv (.int .i64 o93.1) rfl) (sv (rv_neq rfl rfl) (sv (mvv (.bool (y185.1 != o93.1)) rfl) ?_))))
              rcases bif_some h193 with ⟨b194, h193⟩ | ⟨b194, h193⟩
              · refine W.n (gn rfl rfl rfl b194) (W.n (gn rfl rfl rfl b194) (W.n (gn rfl rfl rfl b194) (sv (ptk (.bool true) rfl b194 rfl) (W.e ?_))))
                obtain rfl := Option.some.inj h193
                exact ⟨_, C, ⟨rfl, rfl, rfl, rfl, rfl, rfl, rfl, rfl, trivial⟩, h50, h178⟩
              · refine W.v (gy rfl rfl rfl b194) (mvv (.bool y185.2) rfl) (W.v (gy rfl rfl rfl b194) (mvv (.bool o93.2.1) rfl) (W.v (gy rfl rfl rfl b194) (rv_bneq Try.underlying4 rfl rfl) (sv (pfk (.bool (!(y185.2 == o93.2.1))) rfl b194 rfl) (W.e ?_))))
                obtain rfl := Option.some.inj h193
                exact ⟨_, C, ⟨rfl, rfl, rfl, rfl, rfl, rfl, rfl, rfl, trivial⟩, h50, h178⟩
            · rintro ρ w196 ⟨S195, C, h197, h50, h178⟩
              refine h197.cw fun ρ => ?_
              clear h197
              rcases bif_some h73 with ⟨b198, h73⟩ | ⟨b198, h73⟩
              · refine cw_t rfl b198 ?_
                refine cw_seq fun K199 k200 => ?_
                refine cw_region (sv (asv (.bool false) rfl) (W.e (k200 _ _ (cw_ret ?_))))
                obtain rfl := Option.some.inj h73
                replace h64 := h64.2 _ rfl
                obtain rfl := Option.some.inj h64
                have h201 := congrArg some h63
                obtain rfl := Option.some.inj h201
                replace h := h.2 _ rfl
                obtain rfl := Option.some.inj h
                exact ⟨_, rfl, _, rfl, C⟩
              · refine cw_f rfl b198 (cw_skip ?_)
                obtain rfl := Option.some.inj h73
                exact ⟨_, rfl, ⟨_, _, _, C, ⟨rfl, rfl, rfl, rfl, rfl, rfl, rfl, trivial⟩, h50, h178, h180⟩⟩
        · rintro ρ w203 ⟨o70n, rfl, ⟨S202, fp205, cs207, C, h208, h50, h204, h206⟩⟩
          replace h64 := h64.1 _ rfl
          refine h208.cw fun ρ => ?_
          clear h208
          refine cw_region ?_
          obtain ⟨y209, h210, h64⟩ := pur_some h64
          refine sv (rv_add rfl rfl h210) (sv (mvv (.int .i64 y209) rfl) (W.e ?_))
          obtain rfl := Option.some.inj h64
          exact ⟨_, rfl, ⟨_, _, _, C, ⟨rfl, rfl, rfl, rfl, rfl, rfl, rfl, trivial⟩, h50, h204, h206⟩⟩
      · refine cw_f rfl b69 (cw_exit ?_)
        obtain rfl := Option.some.inj h64
        have h211 := congrArg some h63
        obtain rfl := Option.some.inj h211
        exact ⟨_, rfl, ⟨_, C, ⟨rfl, trivial⟩⟩⟩
    · rintro ρ w213 ⟨o38n, rfl, ⟨S212, C, h214⟩⟩
      replace h := h.1 _ rfl
      refine h214.cw fun ρ => ?_
      clear h214
      refine cw_seq fun K215 k216 => ?_
      refine cw_region (sv (mvv (.bool y5) rfl) (sv (asv (.bool y5) rfl) (W.e (k216 _ _ (cw_ret ?_)))))
      obtain rfl := Option.some.inj h
      exact ⟨_, rfl, _, rfl, C⟩

end Go.Proofs.Ytconkjamlhfneaa
