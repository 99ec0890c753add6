/- What each function computes, and that the program computes it (part 3). Printed by gen.py, a program of this session. -/
import Derived.Test.YtikdgllagijidaaW2
set_option linter.unusedVariables false
namespace Go.Proofs.Ytikdgllagijidaa
open Go Go.Mg
noncomputable def octs_Taker_Num.b2 (y18 : octs_Taker) (x28 : Int) (x29 : Int) : Option ((Int × Int) ⊕ ((Unit) ⊕ (Int × (Option octs_Taker)))) :=
  (bif (decide (x29 < (y18.rest.length : Int))) then (((at_ y18.rest x29).bind fun y43 => (((bif (x29 == (10 : Int)) then some true else (bif (x29 == (9 : Int)) then some (decide ((1 : Int) < y43)) else some false)).bind fun o49 => (bif o49 then some (.inr (.inr (.inr (.inl ())))) else some (.inl ()))).bind (Sum.elim (fun o45n => (pur (iandn .u8 y43 (128 : Int)) fun y65 => (pur (IntKind.u64.wrap y65) fun y67 => (pur (IntKind.i64.wrap ((7 : Int) * x29)) fun y69 => ((pos_ y69 (ishl .u64 y67 y69)).bind fun y71 => (pur (ior .u64 x28 y71) fun y74 => (pur (iand .u8 y43 (128 : Int)) fun y80 => (bif (y80 != (0 : Int)) then some (.inl y74) else (pur (IntKind.i64.wrap (x29 + (1 : Int))) fun y87 => ((math_bits_Len64 y74).bind fun y89 => (pur (IntKind.i64.wrap (y89 + (7 : Int))) fun y94 => (pur (IntKind.i64.wrap (y94 - (1 : Int))) fun y96 => (pur (IntKind.i64.wrap (Int.tdiv y96 (7 : Int))) fun y98 => (pur (if (1 : Int) < y98 then y98 else (1 : Int)) fun y100 => (bif (y87 != y100) then some (.inr (.inr (.inl ()))) else (pur (IntKind.i64.wrap (x29 + (1 : Int))) fun y109 => ((from_ y18.rest y109).bind fun y111 => (pur ({ y18 with rest := y111 } : octs_Taker) fun y116 => some (.inr (.inr (.inr (y74, some y116)))))))))))))))))))))) (fun q => some q)))).bind (Sum.elim (fun o37n => (pur (IntKind.i64.wrap (x29 + (1 : Int))) fun y131 => some (.inl (o37n, y131)))) (fun q => some q))) else some (.inr (.inl ())))
noncomputable def octs_Taker_Num (a0 : Option octs_Taker) : Option (Int × (Option octs_Taker)) :=
  (bif a0.isNone then some ((0 : Int), a0) else (((a0).bind fun y18 => (iter (fun s : Int × Int => octs_Taker_Num.b2 y18 s.1 s.2) ((0 : Int), (0 : Int)))).bind (Sum.elim (fun o12n => ((a0).bind fun y139 => ((octs_Taker_fail y139).bind fun y142 => some ((0 : Int), some y142)))) (fun q => some q))))
set_option maxRecDepth 100000 in
set_option maxHeartbeats 4000000 in
theorem octs_Taker_Num_w {S : Nat → Prop} {w : World} {a0 : Option octs_Taker} {v0 : Value} {cs0 : List Value} {fp0 : List Nat} {r : Int × (Option octs_Taker)} (hS : Sb S w) (h0 : Obo 112 octs_Taker.fs S w v0 a0 cs0 fp0) (h : octs_Taker_Num a0 = some r) :
    Calls Try.prog 43 (List.toArray [v0]) w fun e w1 => ∃ S1 us_0 up_0, e = .returned (.int .u64 r.1) ∧ Cx (fun b => b ∈ fp0) S w S1 w1 ∧ Obo 112 octs_Taker.fs S1 w1 v0 r.2 us_0 up_0 ∧ (∀ b, b ∈ up_0 → b ∈ fp0 ∨ w.heap.size ≤ b) := by
  refine enter Try.func43 rfl (by kernel_rfl) rfl ?_
  have C := Cx.refl (F := (fun b => b ∈ fp0)) hS
  unfold octs_Taker_Num at h
  have hs0 : ∀ b, b ∈ fp0 → b ∈ fp0 ∨ w.heap.size ≤ b := fun b hb => .inl hb
  have hl0 : ∀ b ∈ fp0, b < w.heap.size := fun b hb => (h0.lt b hb).1
  refine cw_seq fun K1 k2 => ?_
  refine cw_region (sv (asv (.int .u64 0) rfl) (W.e (k2 _ _ ?_)))
  refine cw_seq fun K3 k4 => ?_
  refine cw_seq fun K5 k6 => ?_
  refine cw_region (sv (mvv v0 rfl) (sv (rv_nileq Try.underlying89 rfl rfl h0.ne) (W.e (k6 _ _ ?_))))
  rcases bif_some h with ⟨b7, h⟩ | ⟨b7, h⟩
  · refine cw_t rfl b7 ?_
    refine cw_seq fun K8 k9 => ?_
    refine cw_region (sv (asv (.int .u64 0) rfl) (W.e (k9 _ _ (cw_ret ?_))))
    obtain rfl := Option.some.inj h
    exact ⟨_, rfl, _, _, _, rfl, C, h0, hs0⟩
  · refine cw_f rfl b7 (cw_skip (k4 _ _ ?_))
    refine cw_seq fun K10 k11 => ?_
    refine cw_region (sv (asv (.int .u64 0) rfl) (W.e (k11 _ _ ?_)))
    obtain ⟨o12, h15, h⟩ := bnds_some h
    refine cw_seq' (fun ρ w1 => ∃ o12n, o12 = (.inl o12n) ∧ ∃ S1, Cx (fun b => b ∈ fp0) S w S1 w1 ∧ Has ρ [(0, v0)] ∧ Obo 112 octs_Taker.fs S1 w1 v0 a0 cs0 fp0) ?_ ?_
    · refine cw_seq fun K16 k17 => ?_
      refine cw_region (sv (mvv v0 rfl) ?_)
      obtain ⟨y18, h19, h15⟩ := bnd_some h15
      have h20 := h0
      rw [h19] at h20
      replace h20 : Ob 112 (octs_Taker.fs y18) _ _ _ _ _ := h20
      refine sv (rv_nilcheck rfl h20.ptr) (sv (rv_fieldAddr (b := pb v0) (o := 0) st112 rfl h20.ptr) ?_)
      obtain ⟨c21, h22, h23⟩ := h20.sl (i := 0) rfl
      refine sr (rw_ofield (i := 0) (c := c21) h20 ag61 h22 rfl) (sv (rv_lenS el61 h23 rfl) (sv (mvv (.int .i64 0) rfl) (W.e (k17 _ _ (cw_block ?_)))))
      refine cw_iter h15 (fun s ρ w1 => ∃ S1, Cx (fun b => b ∈ fp0) S w S1 w1 ∧ Has ρ [(0, v0), (3, .int .u64 s.1), (11, c21), (12, .int .i64 (y18.rest.length : Int)), (13, .int .i64 s.2)] ∧ Sl (kSl (kI .u8)) S1 w1 c21 y18.rest ∧ Obo 112 octs_Taker.fs S1 w1 v0 a0 cs0 fp0 ∧ Ob 112 (octs_Taker.fs y18) S1 w1 v0 cs0 fp0) ⟨_, C, ⟨rfl, rfl, rfl, rfl, rfl, trivial⟩, h23, h0, h20⟩ ?_
      rintro ⟨x28, x29⟩ q24 ρ w26 ⟨S25, C, h27, h23, h0, h20⟩ h31 h30
      refine h27.cw fun ρ => ?_
      clear h27
      replace h31 : octs_Taker_Num.b2 y18 x28 x29 = some q24 := h31
      unfold octs_Taker_Num.b2 at h31
      refine cw_seq fun K32 k33 => ?_
      refine cw_region (sv (rv_lss rfl rfl) (W.e (k33 _ _ ?_)))
      refine cw_seq fun K34 k35 => ?_
      rcases bif_some h31 with ⟨b36, h31⟩ | ⟨b36, h31⟩
      · refine cw_t rfl b36 (cw_skip (k35 _ _ ?_))
        obtain ⟨o37, h40, h31⟩ := bnds_some h31
        refine cw_seq' (fun ρ w1 => ∃ o37n, o37 = (.inl o37n) ∧ ∃ S1, Cx (fun b => b ∈ fp0) S w S1 w1 ∧ Has ρ [(0, v0), (3, .int .u64 o37n), (11, c21), (12, .int .i64 (y18.rest.length : Int)), (13, .int .i64 x29)] ∧ Sl (kSl (kI .u8)) S1 w1 c21 y18.rest ∧ Obo 112 octs_Taker.fs S1 w1 v0 a0 cs0 fp0 ∧ Ob 112 (octs_Taker.fs y18) S1 w1 v0 cs0 fp0) ?_ ?_
        · refine cw_block ?_
          refine cw_seq fun K41 k42 => ?_
          refine cw_region (sv (mvv (.int .i64 x29) rfl) ?_)
          obtain ⟨y43, h44, h40⟩ := bnd_some h40
          refine sv (rv_index el61 h23 rfl rfl h44) (sr (rw_loadC el61 h23 h44 rfl _ (Sm.refl _ _)) (sv (asv (.int .i64 x29) rfl) (sv (asv (.int .u8 y43) rfl) (W.e (k42 _ _ ?_)))))
          obtain ⟨o45, h48, h40⟩ := bnds_some h40
          refine cw_seq' (fun ρ w1 => ∃ o45n, o45 = (.inl o45n) ∧ ∃ S1, Cx (fun b => b ∈ fp0) S w S1 w1 ∧ Has ρ [(0, v0), (3, .int .u64 x28), (4, .int .i64 x29), (5, .int .u8 y43), (11, c21), (12, .int .i64 (y18.rest.length : Int)), (13, .int .i64 x29)] ∧ Sl (kSl (kI .u8)) S1 w1 c21 y18.rest ∧ Obo 112 octs_Taker.fs S1 w1 v0 a0 cs0 fp0 ∧ Ob 112 (octs_Taker.fs y18) S1 w1 v0 cs0 fp0) ?_ ?_
          · obtain ⟨o49, h52, h48⟩ := bnd_some h48
            refine cw_seq' (fun ρ w1 => ∃ S1, Cx (fun b => b ∈ fp0) S w S1 w1 ∧ Has ρ [(0, v0), (3, .int .u64 x28), (4, .int .i64 x29), (5, .int .u8 y43), (11, c21), (12, .int .i64 (y18.rest.length : Int)), (13, .int .i64 x29), (27, .bool o49)] ∧ Sl (kSl (kI .u8)) S1 w1 c21 y18.rest ∧ Obo 112 octs_Taker.fs S1 w1 v0 a0 cs0 fp0 ∧ Ob 112 (octs_Taker.fs y18) S1 w1 v0 cs0 fp0) ?_ ?_
            · refine cw_region (sv (mvv (.int .i64 x29) rfl) (sv (rv_eql rfl rfl) (sv (mvv (.bool (x29 == (10 : Int))) rfl) ?_)))
              rcases bif_some h52 with ⟨b53, h52⟩ | ⟨b53, h52⟩
              · refine W.n (gn rfl rfl rfl b53) (W.n (gn rfl rfl rfl b53) (W.n (gn rfl rfl rfl b53) (W.n (gu rfl rfl rfl) (W.n (gu rfl rfl rfl) (W.n (gn rfl rfl rfl b53) (sv (ptk (.bool true) rfl b53 rfl) (W.e ?_)))))))
                obtain rfl := Option.some.inj h52
                exact ⟨_, C, ⟨rfl, rfl, rfl, rfl, rfl, rfl, rfl, rfl, trivial⟩, h23, h0, h20⟩
              · refine W.v (gy rfl rfl rfl b53) (mvv (.int .i64 x29) rfl) (W.v (gy rfl rfl rfl b53) (rv_eql rfl rfl) (W.v (gy rfl rfl rfl b53) (mvv (.bool (x29 == (9 : Int))) rfl) ?_))
                rcases bif_some h52 with ⟨b54, h52⟩ | ⟨b54, h52⟩
                · refine W.v (gy rfl rfl rfl b54) (mvv (.int .u8 y43) rfl) (W.v (gy rfl rfl rfl b54) (rv_gtr rfl rfl) (W.v (gy rfl rfl rfl b53) (ptk (.bool (decide ((1 : Int) < y43))) rfl b54 rfl) (sv (pfk (.bool (decide ((1 : Int) < y43))) rfl b53 rfl) (W.e ?_))))
                  obtain rfl := Option.some.inj h52
                  exact ⟨_, C, ⟨rfl, rfl, rfl, rfl, rfl, rfl, rfl, rfl, trivial⟩, h23, h0, h20⟩
                · refine W.n (gn rfl rfl rfl b54) (W.n (gn rfl rfl rfl b54) (W.v (gy rfl rfl rfl b53) (pfk (.bool false) rfl b54 rfl) (sv (pfk (.bool false) rfl b53 rfl) (W.e ?_))))
                  obtain rfl := Option.some.inj h52
                  exact ⟨_, C, ⟨rfl, rfl, rfl, rfl, rfl, rfl, rfl, rfl, trivial⟩, h23, h0, h20⟩
            · rintro ρ w56 ⟨S55, C, h57, h23, h0, h20⟩
              refine h57.cw fun ρ => ?_
              clear h57
              rcases bif_some h48 with ⟨b58, h48⟩ | ⟨b58, h48⟩
              · refine cw_t rfl b58 (cw_exit ?_)
                obtain rfl := Option.some.inj h48
                replace h40 := h40.2 _ rfl
                obtain rfl := Option.some.inj h40
                replace h31 := h31.2 _ rfl
                obtain rfl := Option.some.inj h31
                have h59 := congrArg some h30
                obtain rfl := Option.some.inj h59
                exact ⟨_, rfl, ⟨_, C, ⟨rfl, trivial⟩, h0⟩⟩
              · refine cw_f rfl b58 (cw_skip ?_)
                obtain rfl := Option.some.inj h48
                exact ⟨_, rfl, ⟨_, C, ⟨rfl, rfl, rfl, rfl, rfl, rfl, rfl, trivial⟩, h23, h0, h20⟩⟩
          · rintro ρ w61 ⟨o45n, rfl, ⟨S60, C, h62, h23, h0, h20⟩⟩
            replace h40 := h40.1 _ rfl
            refine h62.cw fun ρ => ?_
            clear h62
            refine cw_seq fun K63 k64 => ?_
            refine cw_region (sv (mvv (.int .u64 x28) rfl) (sv (mvv (.int .u8 y43) rfl) ?_))
            obtain ⟨y65, h66, h40⟩ := pur_some h40
            refine sv (rv_andNot rfl rfl h66) ?_
            obtain ⟨y67, h68, h40⟩ := pur_some h40
            refine sv (rv_conv Try.underlying5 Try.underlying86 rfl h68) (sv (mvv (.int .i64 x29) rfl) ?_)
            obtain ⟨y69, h70, h40⟩ := pur_some h40
            refine sv (rv_mul rfl rfl h70) ?_
            obtain ⟨y71, h72, h40⟩ := bnd_some h40
            obtain ⟨h73, h72⟩ := pos_some h72
            refine sv (rv_shl rfl rfl h73 h72) ?_
            obtain ⟨y74, h75, h40⟩ := pur_some h40
            refine sv (rv_or rfl rfl h75) (sv (asv (.int .u64 y74) rfl) (W.e (k64 _ _ ?_)))
            refine cw_seq fun K76 k77 => ?_
            refine cw_seq fun K78 k79 => ?_
            refine cw_region (sv (mvv (.int .u8 y43) rfl) ?_)
            obtain ⟨y80, h81, h40⟩ := pur_some h40
            refine sv (rv_and rfl rfl h81) (sv (rv_neq rfl rfl) (W.e (k79 _ _ ?_)))
            rcases bif_some h40 with ⟨b82, h40⟩ | ⟨b82, h40⟩
            · refine cw_t rfl b82 (cw_exit ?_)
              obtain rfl := Option.some.inj h40
              exact ⟨_, rfl, ⟨_, C, ⟨rfl, rfl, rfl, rfl, rfl, trivial⟩, h23, h0, h20⟩⟩
            · refine cw_f rfl b82 (cw_skip (k77 _ _ ?_))
              refine cw_seq fun K83 k84 => ?_
              refine cw_seq fun K85 k86 => ?_
              refine cw_region (sv (mvv (.int .i64 x29) rfl) ?_)
              obtain ⟨y87, h88, h40⟩ := pur_some h40
              refine sv (rv_add rfl rfl h88) (sv (mvv (.int .u64 y74) rfl) ?_)
              obtain ⟨y89, h90, h40⟩ := bnd_some h40
              refine sc (dc_call (vs := [.int .u64 y74]) can63 rfl ?_)
              refine (math_bits_Len64_w C.sb  h90).mono ?_
              rintro _ w91 ⟨S92, rfl, c93⟩
              refine ⟨_, rfl, ?_⟩
              replace h20 := h20.cx c93
              replace h0 := h0.cx c93
              replace C := C.trans c93
              obtain ⟨y94, h95, h40⟩ := pur_some h40
              refine sv (rv_add rfl rfl h95) ?_
              obtain ⟨y96, h97, h40⟩ := pur_some h40
              refine sv (rv_sub rfl rfl h97) ?_
              obtain ⟨y98, h99, h40⟩ := pur_some h40
              refine sv (rv_quo rfl rfl (by decide) h99) ?_
              obtain ⟨y100, h101, h40⟩ := pur_some h40
              refine sv (rv_max rfl rfl h101) (sv (rv_neq rfl rfl) (W.e (k86 _ _ ?_)))
              rcases bif_some h40 with ⟨b102, h40⟩ | ⟨b102, h40⟩
              · refine cw_t rfl b102 (cw_exit ?_)
                obtain rfl := Option.some.inj h40
                replace h31 := h31.2 _ rfl
                obtain rfl := Option.some.inj h31
                have h103 := congrArg some h30
                obtain rfl := Option.some.inj h103
                exact ⟨_, rfl, ⟨_, C, ⟨rfl, trivial⟩, h0⟩⟩
              · refine cw_f rfl b102 (cw_skip (k84 _ _ ?_))
                refine cw_seq fun K104 k105 => ?_
                refine cw_region (sv (mvv v0 rfl) (sv (mvv v0 rfl) (sv (rv_nilcheck rfl h20.ptr) (sv (rv_fieldAddr (b := pb v0) (o := 0) st112 rfl h20.ptr) ?_))))
                obtain ⟨c106, h107, h108⟩ := h20.sl (i := 0) rfl
                refine sr (rw_ofield (i := 0) (c := c106) h20 ag61 h107 rfl) (sv (mvv (.int .i64 x29) rfl) ?_)
                obtain ⟨y109, h110, h40⟩ := pur_some h40
                refine sv (rv_add rfl rfl h110) ?_
                obtain ⟨y111, h112, h40⟩ := bnd_some h40
                obtain ⟨v113, h114, h115⟩ := rv_fromA (P := Try.prog) el61 h108 h112
                refine sv (h115 rfl rfl) (sv (rv_nilcheck rfl h20.ptr) (sv (rv_fieldAddr (b := pb v0) (o := 0) st112 rfl h20.ptr) ?_))
                obtain ⟨y116, h117, h40⟩ := pur_some h40
                have h122 : ∀ b, b ∈ fp0 → ¬ S92 b := fun b hb => (h20.lt b hb).2
                refine sc (dc_ofield (i := 0) (k := (kSl (kI .u8))) (h1 := rfl) (a' := y111) h20 rfl ag61 rfl rfl (rep_sl.2 ⟨_, rfl, h114⟩) fun w118 h119 u120 => ?_)
                replace h119 : Ob 112 (octs_Taker.fs ({ y18 with rest := y111 } : octs_Taker)) S92 w118 v0 (cs0.set 0 v113) fp0 := h119
                rw [h117] at h119
                obtain ⟨cs123, h124⟩ : ∃ cs, cs = cs0.set 0 v113 := ⟨_, rfl⟩
                rw [← h124] at h119
                have c121 := Cx.ofUp C.sb u120
                replace C := C.ofc c121 hs0
                refine W.e (k105 _ _ ?_)
                refine cw_seq fun K125 k126 => ?_
                refine cw_region (sv (mvv (.int .u64 y74) rfl) (sv (asv (.int .u64 y74) rfl) (W.e (k126 _ _ (cw_ret ?_)))))
                obtain rfl := Option.some.inj h40
                replace h31 := h31.2 _ rfl
                obtain rfl := Option.some.inj h31
                have h127 := congrArg some h30
                obtain rfl := Option.some.inj h127
                replace h := h.2 _ rfl
                obtain rfl := Option.some.inj h
                exact ⟨_, rfl, _, _, _, rfl, C, h119, hs0⟩
        · rintro ρ w129 ⟨o37n, rfl, ⟨S128, C, h130, h23, h0, h20⟩⟩
          replace h31 := h31.1 _ rfl
          refine h130.cw fun ρ => ?_
          clear h130
          refine cw_region ?_
          obtain ⟨y131, h132, h31⟩ := pur_some h31
          refine sv (rv_add rfl rfl h132) (sv (mvv (.int .i64 y131) rfl) (W.e ?_))
          obtain rfl := Option.some.inj h31
          exact ⟨_, rfl, ⟨_, C, ⟨rfl, rfl, rfl, rfl, rfl, trivial⟩, h23, h0, h20⟩⟩
      · refine cw_f rfl b36 (cw_exit ?_)
        obtain rfl := Option.some.inj h31
        have h133 := congrArg some h30
        obtain rfl := Option.some.inj h133
        exact ⟨_, rfl, ⟨_, C, ⟨rfl, trivial⟩, h0⟩⟩
    · rintro ρ w135 ⟨o12n, rfl, ⟨S134, C, h136, h0⟩⟩
      replace h := h.1 _ rfl
      refine h136.cw fun ρ => ?_
      clear h136
      refine cw_seq fun K137 k138 => ?_
      refine cw_region (sv (mvv v0 rfl) ?_)
      obtain ⟨y139, h140, h⟩ := bnd_some h
      have h141 := h0
      rw [h140] at h141
      replace h141 : Ob 112 (octs_Taker.fs y139) _ _ _ _ _ := h141
      obtain ⟨y142, h143, h⟩ := bnd_some h
      refine sc (dc_call (vs := [v0]) can64 rfl ?_)
      refine (octs_Taker_fail_w C.sb h141 h143).mono ?_
      rintro _ w144 ⟨S145, cs147, fp148, rfl, c146, h149, h150⟩
      refine ⟨_, rfl, ?_⟩
      have h151 : ∀ b, b ∈ fp0 → ¬ S134 b := fun b hb => (h141.lt b hb).2
      have h152 : ∀ b, b ∈ fp148 → b ∈ fp0 ∨ w.heap.size ≤ b := fun b hb => (h150 b hb).elim (hs0 b) (fun hl => .inr (Nat.le_trans C.up.size hl))
      replace C := C.ofc c146 hs0
      refine W.e (k138 _ _ ?_)
      refine cw_seq fun K153 k154 => ?_
      refine cw_region (sv (asv (.int .u64 0) rfl) (W.e (k154 _ _ (cw_ret ?_))))
      obtain rfl := Option.some.inj h
      exact ⟨_, rfl, _, _, _, rfl, C, h149, h152⟩

noncomputable def octs_Taker_Left (a0 : Option octs_Taker) : Option Int :=
  (bif a0.isNone then some (0 : Int) else ((a0).bind fun y12 => some (y12.rest.length : Int)))
set_option maxRecDepth 100000 in
set_option maxHeartbeats 4000000 in
theorem octs_Taker_Left_w {S : Nat → Prop} {w : World} {a0 : Option octs_Taker} {v0 : Value} {cs0 : List Value} {fp0 : List Nat} {r : Int} (hS : Sb S w) (h0 : Obo 112 octs_Taker.fs S w v0 a0 cs0 fp0) (h : octs_Taker_Left a0 = some r) :
    Calls Try.prog 44 (List.toArray [v0]) w fun e w1 => ∃ S1, e = .returned (.int .i64 r) ∧ Cx No S w S1 w1 := by
  refine enter Try.func44 rfl (by kernel_rfl) rfl ?_
  have C := Cx.refl (F := No) hS
  unfold octs_Taker_Left at h
  have hl0 : ∀ b ∈ fp0, b < w.heap.size := fun b hb => (h0.lt b hb).1
  refine cw_seq fun K1 k2 => ?_
  refine cw_region (sv (asv (.int .i64 0) rfl) (W.e (k2 _ _ ?_)))
  refine cw_seq fun K3 k4 => ?_
  refine cw_seq fun K5 k6 => ?_
  refine cw_region (sv (mvv v0 rfl) (sv (rv_nileq Try.underlying89 rfl rfl h0.ne) (W.e (k6 _ _ ?_))))
  rcases bif_some h with ⟨b7, h⟩ | ⟨b7, h⟩
  · refine cw_t rfl b7 ?_
    refine cw_seq fun K8 k9 => ?_
    refine cw_region (sv (asv (.int .i64 0) rfl) (W.e (k9 _ _ (cw_ret ?_))))
    obtain rfl := Option.some.inj h
    exact ⟨_, rfl, _, rfl, C⟩
  · refine cw_f rfl b7 (cw_skip (k4 _ _ ?_))
    refine cw_seq fun K10 k11 => ?_
    refine cw_region (sv (mvv v0 rfl) ?_)
    obtain ⟨y12, h13, h⟩ := bnd_some h
    have h14 := h0
    rw [h13] at h14
    replace h14 : Ob 112 (octs_Taker.fs y12) _ _ _ _ _ := h14
    refine sv (rv_nilcheck rfl h14.ptr) (sv (rv_fieldAddr (b := pb v0) (o := 0) st112 rfl h14.ptr) ?_)
    obtain ⟨c15, h16, h17⟩ := h14.sl (i := 0) rfl
    refine sr (rw_ofield (i := 0) (c := c15) h14 ag61 h16 rfl) (sv (rv_lenS el61 h17 rfl) (sv (asv (.int .i64 (y12.rest.length : Int)) rfl) (W.e (k11 _ _ (cw_ret ?_)))))
    obtain rfl := Option.some.inj h
    exact ⟨_, rfl, _, rfl, C⟩

noncomputable def octs_Taker_End (a0 : Option octs_Taker) : Option Int :=
  ((bif a0.isNone then some (.inr (1 : Int)) else (((a0).bind fun y16 => (bif y16.bad then some true else some (decide ((0 : Int) < (y16.rest.length : Int))))).bind fun o12 => (bif o12 then some (.inr (6 : Int)) else some (.inl ())))).bind (Sum.elim (fun o3n => some (0 : Int)) (fun q => some q)))
set_option maxRecDepth 100000 in
set_option maxHeartbeats 4000000 in
theorem octs_Taker_End_w {S : Nat → Prop} {w : World} {a0 : Option octs_Taker} {v0 : Value} {cs0 : List Value} {fp0 : List Nat} {r : Int} (hS : Sb S w) (h0 : Obo 112 octs_Taker.fs S w v0 a0 cs0 fp0) (h : octs_Taker_End a0 = some r) :
    Calls Try.prog 45 (List.toArray [v0]) w fun e w1 => ∃ S1, e = .returned (.int .i64 r) ∧ Cx No S w S1 w1 := by
  refine enter Try.func45 rfl (by kernel_rfl) rfl ?_
  have C := Cx.refl (F := No) hS
  unfold octs_Taker_End at h
  have hl0 : ∀ b ∈ fp0, b < w.heap.size := fun b hb => (h0.lt b hb).1
  refine cw_seq fun K1 k2 => ?_
  refine cw_region (sv (asv (.int .i64 0) rfl) (W.e (k2 _ _ ?_)))
  obtain ⟨o3, h6, h⟩ := bnds_some h
  refine cw_seq' (fun ρ w1 => ∃ o3n, o3 = (.inl o3n) ∧ ∃ S1, Cx No S w S1 w1 ∧ Has ρ []) ?_ ?_
  · refine cw_block ?_
    refine cw_seq fun K7 k8 => ?_
    refine cw_region (sv (mvv v0 rfl) (sv (rv_nileq Try.underlying89 rfl rfl h0.ne) (sv (asv (.bool a0.isNone) rfl) (W.e (k8 _ _ ?_)))))
    rcases bif_some h6 with ⟨b9, h6⟩ | ⟨b9, h6⟩
    · refine cw_t rfl b9 ?_
      refine cw_seq fun K10 k11 => ?_
      refine cw_region (sv (asv (.int .i64 1) rfl) (W.e (k11 _ _ (cw_ret ?_))))
      obtain rfl := Option.some.inj h6
      replace h := h.2 _ rfl
      obtain rfl := Option.some.inj h
      exact ⟨_, rfl, _, rfl, C⟩
    · refine cw_f rfl b9 ?_
      obtain ⟨o12, h15, h6⟩ := bnd_some h6
      refine cw_seq' (fun ρ w1 => ∃ S1, Cx No S w S1 w1 ∧ Has ρ [(6, .bool o12)]) ?_ ?_
      · refine cw_region (sv (mvv v0 rfl) ?_)
        obtain ⟨y16, h17, h15⟩ := bnd_some h15
        have h18 := h0
        rw [h17] at h18
        replace h18 : Ob 112 (octs_Taker.fs y16) _ _ _ _ _ := h18
        refine sv (rv_nilcheck rfl h18.ptr) (sv (rv_fieldAddr (b := pb v0) (o := 0) st112 rfl h18.ptr) (sr (rw_ofield (i := 1) (c := .bool y16.bad) h18 ag4 (h18.sc (i := 1) rfl) rfl) (sv (mvv (.bool y16.bad) rfl) ?_)))
        rcases bif_some h15 with ⟨b19, h15⟩ | ⟨b19, h15⟩
        · refine W.n (gn rfl rfl rfl b19) (W.n (gn rfl rfl rfl b19) (W.n (gn rfl rfl rfl b19) (W.n (gn rfl rfl rfl b19) (W.n (gn rfl rfl rfl b19) (W.n (gn rfl rfl rfl b19) (sv (ptk (.bool true) rfl b19 rfl) (sv (asv (.bool true) rfl) (W.e ?_))))))))
          obtain rfl := Option.some.inj h15
          exact ⟨_, C, ⟨rfl, trivial⟩⟩
        · refine W.v (gy rfl rfl rfl b19) (mvv v0 rfl) (W.v (gy rfl rfl rfl b19) (rv_nilcheck rfl h18.ptr) (W.v (gy rfl rfl rfl b19) (rv_fieldAddr (b := pb v0) (o := 0) st112 rfl h18.ptr) ?_))
          obtain ⟨c20, h21, h22⟩ := h18.sl (i := 0) rfl
          refine W.r (gy rfl rfl rfl b19) (rw_ofield (i := 0) (c := c20) h18 ag61 h21 rfl) (W.v (gy rfl rfl rfl b19) (rv_lenS el61 h22 rfl) (W.v (gy rfl rfl rfl b19) (rv_gtr rfl rfl) (sv (pfk (.bool (decide ((0 : Int) < (y16.rest.length : Int)))) rfl b19 rfl) (sv (asv (.bool (decide ((0 : Int) < (y16.rest.length : Int)))) rfl) (W.e ?_)))))
          obtain rfl := Option.some.inj h15
          exact ⟨_, C, ⟨rfl, trivial⟩⟩
      · rintro ρ w24 ⟨S23, C, h25⟩
        refine h25.cw fun ρ => ?_
        clear h25
        rcases bif_some h6 with ⟨b26, h6⟩ | ⟨b26, h6⟩
        · refine cw_t rfl b26 ?_
          refine cw_seq fun K27 k28 => ?_
          refine cw_region (sv (asv (.int .i64 6) rfl) (W.e (k28 _ _ (cw_ret ?_))))
          obtain rfl := Option.some.inj h6
          replace h := h.2 _ rfl
          obtain rfl := Option.some.inj h
          exact ⟨_, rfl, _, rfl, C⟩
        · refine cw_f rfl b26 (cw_skip ?_)
          obtain rfl := Option.some.inj h6
          exact ⟨_, rfl, ⟨_, C, trivial⟩⟩
  · rintro ρ w30 ⟨o3n, rfl, ⟨S29, C, h31⟩⟩
    replace h := h.1 _ rfl
    refine h31.cw fun ρ => ?_
    clear h31
    refine cw_seq fun K32 k33 => ?_
    refine cw_region (sv (asv (.int .i64 0) rfl) (W.e (k33 _ _ (cw_ret ?_))))
    obtain rfl := Option.some.inj h
    exact ⟨_, rfl, _, rfl, C⟩

noncomputable def octs_Taker_Text (a0 : Option octs_Taker) : Option (ByteArray × (Option octs_Taker)) :=
  ((octs_Taker_Num a0).bind fun y5 => (bif y5.2.isNone then some (ByteArray.empty, y5.2) else ((y5.2).bind fun y25 => (pur (IntKind.u64.wrap (y25.rest.length : Int)) fun y31 => (bif (decide (y31 < y5.1)) then ((octs_Taker_fail y25).bind fun y36 => some (ByteArray.empty, some y36)) else ((upto_ y25.rest y5.1).bind fun y54 => ((from_ y25.rest y5.1).bind fun y64 => (pur ({ y25 with rest := y64 } : octs_Taker) fun y69 => some ((strOf y54), some y69)))))))))
set_option maxRecDepth 100000 in
set_option maxHeartbeats 4000000 in
theorem octs_Taker_Text_w {S : Nat → Prop} {w : World} {a0 : Option octs_Taker} {v0 : Value} {cs0 : List Value} {fp0 : List Nat} {r : ByteArray × (Option octs_Taker)} (hS : Sb S w) (h0 : Obo 112 octs_Taker.fs S w v0 a0 cs0 fp0) (h : octs_Taker_Text a0 = some r) :
    Calls Try.prog 65 (List.toArray [v0]) w fun e w1 => ∃ S1 us_0 up_0, e = .returned (.string r.1) ∧ Cx (fun b => b ∈ fp0) S w S1 w1 ∧ Obo 112 octs_Taker.fs S1 w1 v0 r.2 us_0 up_0 ∧ (∀ b, b ∈ up_0 → b ∈ fp0 ∨ w.heap.size ≤ b) := by
  refine enter Try.func65 rfl (by kernel_rfl) rfl ?_
  have C := Cx.refl (F := (fun b => b ∈ fp0)) hS
  unfold octs_Taker_Text at h
  have hs0 : ∀ b, b ∈ fp0 → b ∈ fp0 ∨ w.heap.size ≤ b := fun b hb => .inl hb
  have hl0 : ∀ b ∈ fp0, b < w.heap.size := fun b hb => (h0.lt b hb).1
  refine cw_seq fun K1 k2 => ?_
  refine cw_region (sv (asv (.string ByteArray.empty) rfl) (W.e (k2 _ _ ?_)))
  refine cw_seq fun K3 k4 => ?_
  refine cw_region (sv (mvv v0 rfl) ?_)
  obtain ⟨y5, h6, h⟩ := bnd_some h
  refine sc (dc_call (vs := [v0]) can43 rfl ?_)
  refine (octs_Taker_Num_w C.sb h0 h6).mono ?_
  rintro _ w7 ⟨S8, cs10, fp11, rfl, c9, h12, h13⟩
  refine ⟨_, rfl, ?_⟩
  have h14 : ∀ b, b ∈ fp0 → ¬ S b := fun b hb => (h0.lt b hb).2
  have h15 : ∀ b, b ∈ fp11 → b ∈ fp0 ∨ w.heap.size ≤ b := fun b hb => (h13 b hb).elim (hs0 b) (fun hl => .inr (Nat.le_trans C.up.size hl))
  replace C := C.ofc c9 hs0
  refine sv (asv (.int .u64 y5.1) rfl) (W.e (k4 _ _ ?_))
  refine cw_seq fun K16 k17 => ?_
  refine cw_block ?_
  refine cw_seq fun K18 k19 => ?_
  refine cw_region (sv (mvv v0 rfl) (sv (rv_nileq Try.underlying89 rfl rfl h12.ne) (sv (asv (.bool y5.2.isNone) rfl) (W.e (k19 _ _ ?_)))))
  rcases bif_some h with ⟨b20, h⟩ | ⟨b20, h⟩
  · refine cw_t rfl b20 ?_
    refine cw_seq fun K21 k22 => ?_
    refine cw_region (sv (asv (.string ByteArray.empty) rfl) (W.e (k22 _ _ (cw_ret ?_))))
    obtain rfl := Option.some.inj h
    exact ⟨_, rfl, _, _, _, rfl, C, h12, h15⟩
  · refine cw_f rfl b20 ?_
    refine cw_seq fun K23 k24 => ?_
    refine cw_region (sv (mvv (.int .u64 y5.1) rfl) (sv (mvv v0 rfl) ?_))
    obtain ⟨y25, h26, h⟩ := bnd_some h
    have h27 := h12
    rw [h26] at h27
    replace h27 : Ob 112 (octs_Taker.fs y25) _ _ _ _ _ := h27
    refine sv (rv_nilcheck rfl h27.ptr) (sv (rv_fieldAddr (b := pb v0) (o := 0) st112 rfl h27.ptr) ?_)
    obtain ⟨c28, h29, h30⟩ := h27.sl (i := 0) rfl
    refine sr (rw_ofield (i := 0) (c := c28) h27 ag61 h29 rfl) (sv (rv_lenS el61 h30 rfl) ?_)
    obtain ⟨y31, h32, h⟩ := pur_some h
    refine sv (rv_conv Try.underlying3 Try.underlying86 rfl h32) (sv (rv_gtr rfl rfl) (sv (asv (.bool (decide (y31 < y5.1))) rfl) (W.e (k24 _ _ ?_))))
    rcases bif_some h with ⟨b33, h⟩ | ⟨b33, h⟩
    · refine cw_t rfl b33 ?_
      refine cw_seq fun K34 k35 => ?_
      refine cw_region (sv (mvv v0 rfl) ?_)
      obtain ⟨y36, h37, h⟩ := bnd_some h
      refine sc (dc_call (vs := [v0]) can64 rfl ?_)
      refine (octs_Taker_fail_w C.sb h27 h37).mono ?_
      rintro _ w38 ⟨S39, cs41, fp42, rfl, c40, h43, h44⟩
      refine ⟨_, rfl, ?_⟩
      have h45 : ∀ b, b ∈ fp11 → ¬ S8 b := fun b hb => (h27.lt b hb).2
      have h46 : ∀ b, b ∈ fp42 → b ∈ fp0 ∨ w.heap.size ≤ b := fun b hb => (h44 b hb).elim (h15 b) (fun hl => .inr (Nat.le_trans C.up.size hl))
      replace C := C.ofc c40 h15
      refine W.e (k35 _ _ ?_)
      refine cw_seq fun K47 k48 => ?_
      refine cw_region (sv (asv (.string ByteArray.empty) rfl) (W.e (k48 _ _ (cw_ret ?_))))
      obtain rfl := Option.some.inj h
      exact ⟨_, rfl, _, _, _, rfl, C, h43, h46⟩
    · refine cw_f rfl b33 (cw_skip (k17 _ _ ?_))
      refine cw_seq fun K49 k50 => ?_
      refine cw_region (sv (mvv v0 rfl) (sv (rv_nilcheck rfl h27.ptr) (sv (rv_fieldAddr (b := pb v0) (o := 0) st112 rfl h27.ptr) ?_)))
      obtain ⟨c51, h52, h53⟩ := h27.sl (i := 0) rfl
      refine sr (rw_ofield (i := 0) (c := c51) h27 ag61 h52 rfl) (sv (mvv (.int .u64 y5.1) rfl) ?_)
      obtain ⟨y54, h55, h⟩ := bnd_some h
      obtain ⟨v56, h57, h58⟩ := rv_uptoA (P := Try.prog) el61 h53 h55
      refine sv (h58 rfl rfl) (sr (rw_str h57 (Sm.refl _ _) Try.underlying61 Try.underlying5 Try.underlying9 rfl) (sv (asv (.string (strOf y54)) rfl) (W.e (k50 _ _ ?_))))
      refine cw_seq fun K59 k60 => ?_
      refine cw_region (sv (mvv v0 rfl) (sv (mvv v0 rfl) (sv (rv_nilcheck rfl h27.ptr) (sv (rv_fieldAddr (b := pb v0) (o := 0) st112 rfl h27.ptr) ?_))))
      obtain ⟨c61, h62, h63⟩ := h27.sl (i := 0) rfl
      refine sr (rw_ofield (i := 0) (c := c61) h27 ag61 h62 rfl) (sv (mvv (.int .u64 y5.1) rfl) ?_)
      obtain ⟨y64, h65, h⟩ := bnd_some h
      obtain ⟨v66, h67, h68⟩ := rv_fromA (P := Try.prog) el61 h63 h65
      refine sv (h68 rfl rfl) (sv (rv_nilcheck rfl h27.ptr) (sv (rv_fieldAddr (b := pb v0) (o := 0) st112 rfl h27.ptr) ?_))
      obtain ⟨y69, h70, h⟩ := pur_some h
      have h75 : ∀ b, b ∈ fp11 → ¬ S8 b := fun b hb => (h27.lt b hb).2
      refine sc (dc_ofield (i := 0) (k := (kSl (kI .u8))) (h1 := rfl) (a' := y64) h27 rfl ag61 rfl rfl (rep_sl.2 ⟨_, rfl, h67⟩) fun w71 h72 u73 => ?_)
      replace h72 : Ob 112 (octs_Taker.fs ({ y25 with rest := y64 } : octs_Taker)) S8 w71 v0 (cs10.set 0 v66) fp11 := h72
      rw [h70] at h72
      obtain ⟨cs76, h77⟩ : ∃ cs, cs = cs10.set 0 v66 := ⟨_, rfl⟩
      rw [← h77] at h72
      have c74 := Cx.ofUp C.sb u73
      replace C := C.ofc c74 h15
      refine W.e (k60 _ _ ?_)
      refine cw_seq fun K78 k79 => ?_
      refine cw_region (sv (mvv (.string (strOf y54)) rfl) (sv (asv (.string (strOf y54)) rfl) (W.e (k79 _ _ (cw_ret ?_)))))
      obtain rfl := Option.some.inj h
      exact ⟨_, rfl, _, _, _, rfl, C, h72, h15⟩

def slices_Clone_byte_byte (a0 : List Int) : Option (List Int) := clone_ 1 a0
set_option maxRecDepth 100000 in
theorem slices_Clone_byte_byte_w {S : Nat → Prop} {w : World} {a0 : List Int} {v0 : Value} {r : List Int} (hS : Sb S w) (h0 : Sl (kSl (kI .u8)) S w v0 a0) (h : slices_Clone_byte_byte a0 = some r) :
    Calls Try.prog 66 (List.toArray [v0]) w fun e w1 => ∃ S1 u0, e = .returned u0 ∧ Cx No S w S1 w1 ∧ Ow (kI .u8) 5 S1 w.heap.size w1 u0 r := by
  refine enter Try.func66 rfl (by kernel_rfl) rfl ?_
  have C := Cx.refl (F := No) hS
  unfold slices_Clone_byte_byte at h
  refine cw_seq fun K1 k1 => cw_region (sv rv_assign (W.e (k1 _ _ ?_)))
  obtain ⟨A, c, rfl, _, _, hA⟩ := sl_slice.1 h0
  refine cw_seq fun K2 k2 => cw_seq fun K3 k3 => cw_region (sv rv_move (sv (rv_slnil Try.underlying61 rfl rfl) (W.e (k3 _ _ ?_))))
  cases A with
  | none =>
    refine cw_t rfl rfl (cw_seq fun K4 k4 => cw_region (sv rv_assign (W.e (k4 _ _ (cw_ret ?_)))))
    have : a0 = [] := hA.elim (fun h => h) fun ⟨_, _, h, _⟩ => by cases h
    subst this
    obtain rfl := clone_nil h
    exact ⟨_, rfl, S, _, rfl, C, Ow.nil _ _ _ _ _⟩
  | some a =>
    refine cw_f rfl rfl (cw_skip (k2 _ _ ?_))
    refine cw_seq fun K5 k5 => cw_region ?_
    refine sc (dc_lit (vs := []) (xs := ([] : List Int)) (base := w.heap.size) el61 rfl rfl .nil (Nat.le_of_ble_eq_true rfl) C.up.size C.sb fun u w1 ho hb up => ?_)
    replace h0 := h0.nw up
    replace C := C.new up
    refine sv rv_move (sc (dc_append el61 (by decide) ho (h0.src fun _ h => h) rfl rfl (clone_app h) C.up.size C.sb fun u2 w2 ho2 up2 hb2 => ?_))
    replace C := C.ow ho up2
    exact sv rv_assign (W.e (k5 _ _ (cw_ret ⟨_, rfl, S, _, rfl, C, ho2⟩)))

noncomputable def label_Take.b2 (y18 : Int × (Option octs_Taker)) (x55 : List api_Label) (x56 : Int) (x57 : Option octs_Taker) : Option (((List api_Label) × Int × (Option octs_Taker)) ⊕ ((List api_Label) × (Option octs_Taker))) :=
  (bif (decide (x56 < y18.1)) then ((octs_Taker_Text x57).bind fun y69 => ((octs_Taker_Text y69.2).bind fun y81 => ((app_ 32 x55 ([(api_Label.mk y69.1 y81.1)] : List api_Label)).bind fun y100 => (pur (IntKind.u64.wrap (x56 + (1 : Int))) fun y109 => some (.inl (y100, y109, y81.2)))))) else some (.inr (x55, x57)))
noncomputable def label_Take (a0 : List Int) : Option ((List api_Label) × (List Int) × Int) :=
  ((octs_New a0).bind fun y5 => ((octs_Taker_Num y5).bind fun y18 => (bif (decide ((6 : Int) < y18.1)) then some (([] : List api_Label), ([] : List Int), (6 : Int)) else ((iter (fun s : (List api_Label) × Int × (Option octs_Taker) => label_Take.b2 y18 s.1 s.2.1 s.2.2) (([] : List api_Label), (0 : Int), y18.2)).bind fun o38 => ((label_Right o38.1).bind fun y126 => (bif (!y126) then some (([] : List api_Label), ([] : List Int), (6 : Int)) else ((octs_Taker_Left o38.2).bind fun y136 => (pur (IntKind.i64.wrap ((a0.length : Int) - y136)) fun y141 => ((from_ a0 y141).bind fun y143 => ((slices_Clone_byte_byte y143).bind fun y148 => some (o38.1, y148, (0 : Int))))))))))))
set_option maxRecDepth 100000 in
set_option maxHeartbeats 4000000 in
theorem label_Take_w {S : Nat → Prop} {w : World} {a0 : List Int} {v0 : Value} {r : (List api_Label) × (List Int) × Int} (hS : Sb S w) (h0 : Sl (kSl (kI .u8)) S w v0 a0) (h : label_Take a0 = some r) :
    Calls Try.prog 46 (List.toArray [v0]) w fun e w1 => ∃ S1 u0 u1, e = .returned (.tuple (List.toArray [u0, u1, .int .i64 r.2.2])) ∧ Cx No S w S1 w1 ∧ Sl (kSl api_Label.k) S1 w1 u0 r.1 ∧ Ow (kI .u8) 5 S1 w.heap.size w1 u1 r.2.1 := by
  refine enter Try.func46 rfl (by kernel_rfl) rfl ?_
  have C := Cx.refl (F := No) hS
  unfold label_Take at h
  refine cw_seq fun K1 k2 => ?_
  refine cw_region (sv (asv (.slice none 0 0) rfl) (sv (asv (.slice none 0 0) rfl) (sv (asv (.int .i64 0) rfl) (W.e (k2 _ _ ?_)))))
  refine cw_seq fun K3 k4 => ?_
  refine cw_region (sv (mvv v0 rfl) ?_)
  obtain ⟨y5, h6, h⟩ := bnd_some h
  refine sc (dc_call (vs := [v0]) can42 rfl ?_)
  refine (octs_New_w C.sb h0 h6).mono ?_
  rintro _ w7 ⟨S8, v10, cs11, fp12, rfl, c9, h13, h14⟩
  refine ⟨_, rfl, ?_⟩
  have h15 : ∀ b, b ∈ fp12 → w.heap.size ≤ b := fun b hb => Nat.le_trans C.up.size (h14 b hb)
  replace h0 := h0.cx c9
  replace C := C.trans c9
  refine sv (asv v10 rfl) (W.e (k4 _ _ ?_))
  refine cw_seq fun K16 k17 => ?_
  refine cw_region (sv (mvv v10 rfl) ?_)
  obtain ⟨y18, h19, h⟩ := bnd_some h
  refine sc (dc_call (vs := [v10]) can43 rfl ?_)
  refine (octs_Taker_Num_w C.sb h13 h19).mono ?_
  rintro _ w20 ⟨S21, cs23, fp24, rfl, c22, h25, h26⟩
  refine ⟨_, rfl, ?_⟩
  have h27 : ∀ b, b ∈ fp12 → ¬ S8 b := fun b hb => (h13.lt b hb).2
  have h28 : ∀ b, b ∈ fp24 → w.heap.size ≤ b := fun b hb => (h26 b hb).elim (h15 b) (fun hl => Nat.le_trans C.up.size hl)
  replace h0 := h0.cf c22 h27
  replace C := C.ofc c22 (fun b hb => .inr (h15 b hb))
  refine sv (asv (.int .u64 y18.1) rfl) (W.e (k17 _ _ ?_))
  refine cw_seq fun K29 k30 => ?_
  refine cw_seq fun K31 k32 => ?_
  refine cw_region (sv (mvv (.int .u64 y18.1) rfl) (sv (rv_gtr rfl rfl) (W.e (k32 _ _ ?_))))
  rcases bif_some h with ⟨b33, h⟩ | ⟨b33, h⟩
  · refine cw_t rfl b33 ?_
    refine cw_seq fun K34 k35 => ?_
    refine cw_region (sv (asv (.slice none 0 0) rfl) (sv (asv (.slice none 0 0) rfl) (sv (asv (.int .i64 6) rfl) (W.e (k35 _ _ (cw_ret ?_))))))
    obtain rfl := Option.some.inj h
    exact ⟨_, rfl, _, _, _, rfl, C, (sl_nil _ _ _), Ow.nil _ _ _ _ _⟩
  · refine cw_f rfl b33 (cw_skip (k30 _ _ ?_))
    refine cw_seq fun K36 k37 => ?_
    refine cw_region (sv (asv (.slice none 0 0) rfl) (W.e (k37 _ _ ?_)))
    obtain ⟨o38, h41, h⟩ := bnd_some h
    refine cw_seq' (fun ρ w1 => ∃ S1 v114 fp117 cs119, Cx No S w S1 w1 ∧ Has ρ [(0, v0), (5, v10), (7, v114)] ∧ Sl (kSl (kI .u8)) S1 w1 v0 a0 ∧ Ow api_Label.k 59 S1 w.heap.size w1 v114 o38.1 ∧ Obo 112 octs_Taker.fs S1 w1 v10 o38.2 cs119 fp117 ∧ (∀ b, b ∈ fp117 → w.heap.size ≤ b) ∧ (∀ b, Blk v114 b → ¬ b ∈ fp117)) ?_ ?_
    · refine cw_seq fun K42 k43 => ?_
      refine cw_region (sv (mvv (.int .u64 y18.1) rfl) (sv (mvv (.int .u64 0) rfl) (W.e (k43 _ _ (cw_block ?_)))))
      refine cw_iter h41 (fun s ρ w1 => ∃ S1 v47 fp50 cs52, Cx No S w S1 w1 ∧ Has ρ [(0, v0), (5, v10), (7, v47), (15, .int .u64 y18.1), (16, .int .u64 s.2.1)] ∧ Sl (kSl (kI .u8)) S1 w1 v0 a0 ∧ Ow api_Label.k 59 S1 w.heap.size w1 v47 s.1 ∧ Obo 112 octs_Taker.fs S1 w1 v10 s.2.2 cs52 fp50 ∧ (∀ b, b ∈ fp50 → w.heap.size ≤ b) ∧ (∀ b, Blk v47 b → ¬ b ∈ fp50)) ⟨_, _, _, _, C, ⟨rfl, rfl, rfl, rfl, rfl, trivial⟩, h0, Ow.nil _ _ _ _ _, h25, h28, ap_nil⟩ ?_
      rintro ⟨x55, x56, x57⟩ q44 ρ w46 ⟨S45, v47, fp50, cs52, C, h54, h0, h48, h49, h51, p53⟩ h59 h58
      refine h54.cw fun ρ => ?_
      clear h54
      replace h59 : label_Take.b2 y18 x55 x56 x57 = some q44 := h59
      unfold label_Take.b2 at h59
      refine cw_seq fun K60 k61 => ?_
      refine cw_region (sv (rv_lss rfl rfl) (W.e (k61 _ _ ?_)))
      refine cw_seq fun K62 k63 => ?_
      rcases bif_some h59 with ⟨b64, h59⟩ | ⟨b64, h59⟩
      · refine cw_t rfl b64 (cw_skip (k63 _ _ ?_))
        refine cw_seq fun K65 k66 => ?_
        refine cw_block ?_
        refine cw_seq fun K67 k68 => ?_
        refine cw_region (sv (mvv v10 rfl) ?_)
        obtain ⟨y69, h70, h59⟩ := bnd_some h59
        refine sc (dc_call (vs := [v10]) can65 rfl ?_)
        refine (octs_Taker_Text_w C.sb h49 h70).mono ?_
        rintro _ w71 ⟨S72, cs74, fp75, rfl, c73, h76, h77⟩
        refine ⟨_, rfl, ?_⟩
        have h78 : ∀ b, b ∈ fp50 → ¬ S45 b := fun b hb => (h49.lt b hb).2
        have p79 := ap_grow (ap_symm p53) h77 (fun b hb => (h48.lt b hb).2)
        have h80 : ∀ b, b ∈ fp75 → w.heap.size ≤ b := fun b hb => (h77 b hb).elim (h51 b) (fun hl => Nat.le_trans C.up.size hl)
        replace h0 := h0.cf c73 h78
        replace h48 := h48.cf c73 h78 p53
        replace C := C.ofc c73 (fun b hb => .inr (h51 b hb))
        refine sv (asv (.string y69.1) rfl) (W.e (k68 _ _ (cw_region (sv (mvv v47 rfl) (sv (mvv (.string y69.1) rfl) (sv (mvv v10 rfl) ?_))))))
        obtain ⟨y81, h82, h59⟩ := bnd_some h59
        refine sc (dc_call (vs := [v10]) can65 rfl ?_)
        refine (octs_Taker_Text_w C.sb h76 h82).mono ?_
        rintro _ w83 ⟨S84, cs86, fp87, rfl, c85, h88, h89⟩
        refine ⟨_, rfl, ?_⟩
        have h90 : ∀ b, b ∈ fp75 → ¬ S72 b := fun b hb => (h76.lt b hb).2
        have p91 := ap_grow p79 h89 (fun b hb => (h48.lt b hb).2)
        have h92 : ∀ b, b ∈ fp87 → w.heap.size ≤ b := fun b hb => (h89 b hb).elim (h80 b) (fun hl => Nat.le_trans C.up.size hl)
        replace h0 := h0.cf c85 h90
        replace h48 := h48.cf c85 h90 (ap_symm p79)
        replace C := C.ofc c85 (fun b hb => .inr (h80 b hb))
        refine sv (rv_build (r := [.string y69.1, .string y81.1]) st59 zr59 rfl) ?_
        refine sc (dc_lit (vs := [.agg (List.toArray [.string y69.1, .string y81.1])]) (xs := ([(api_Label.mk y69.1 y81.1)] : List api_Label)) (base := w.heap.size) el28 rfl rfl (.cons ((api_Label.o (x := (api_Label.mk y69.1 y81.1))).2 rfl) (.nil)) (Nat.le_of_ble_eq_true rfl) C.up.size C.sb fun v93 w94 h95 h96 u97 => ?_)
        have p98 := ap_fresh h96 (fun b hb => (h48.lt b hb).2)
        have p99 := ap_fresh h96 (fun b hb => (h88.lt b hb).1)
        replace h0 := h0.nw u97
        replace h48 := h48.nw u97
        replace h88 := h88.nw u97
        replace C := C.new u97
        obtain ⟨y100, h101, h59⟩ := bnd_some h59
        have h107 := h48
        refine sc (dc_append el28 (by decide) h107 h95.src rfl rfl h101 C.up.size C.sb fun v102 w103 h104 u105 h106 => ?_)
        have p108 := ap_grow (ap_symm p91) h106 (fun b hb => (h88.lt b hb).1)
        replace h0 := h0.wr u105 h107.not
        replace h88 := h88.wr u105 h107.not p91
        replace C := C.ow h107 u105
        refine sv (asv v102 rfl) (W.e (k66 _ _ (cw_region ?_)))
        obtain ⟨y109, h110, h59⟩ := pur_some h59
        refine sv (rv_add rfl rfl h110) (sv (mvv (.int .u64 y109) rfl) (W.e ?_))
        obtain rfl := Option.some.inj h59
        exact ⟨_, rfl, ⟨_, _, _, _, C, ⟨rfl, rfl, rfl, rfl, rfl, trivial⟩, h0, h104, h88, h92, p108⟩⟩
      · refine cw_f rfl b64 (cw_exit ?_)
        obtain rfl := Option.some.inj h59
        have h111 := congrArg some h58
        obtain rfl := Option.some.inj h111
        exact ⟨_, _, _, _, C, ⟨rfl, rfl, rfl, trivial⟩, h0, h48, h49, h51, p53⟩
    · rintro ρ w113 ⟨S112, v114, fp117, cs119, C, h121, h0, h115, h116, h118, p120⟩
      refine h121.cw fun ρ => ?_
      clear h121
      refine cw_seq fun K122 k123 => ?_
      refine cw_seq fun K124 k125 => ?_
      refine cw_region (sv (mvv v114 rfl) ?_)
      replace h0 := h0.or (T := Blk v114)
      replace h116 := h116.or (ap_symm p120)
      replace C := C.sealO h115
      replace h115 := h115.sealed
      obtain ⟨y126, h127, h⟩ := bnd_some h
      refine sc (dc_call (vs := [v114]) can61 rfl ?_)
      refine (label_Right_w C.sb h115 h127).mono ?_
      rintro _ w128 ⟨S129, rfl, c130⟩
      refine ⟨_, rfl, ?_⟩
      replace h0 := h0.cx c130
      replace h116 := h116.cx c130
      replace h115 := h115.cx c130
      replace C := C.trans c130
      refine sv (rv_not rfl) (W.e (k125 _ _ ?_))
      rcases bif_some h with ⟨b131, h⟩ | ⟨b131, h⟩
      · refine cw_t rfl b131 ?_
        refine cw_seq fun K132 k133 => ?_
        refine cw_region (sv (asv (.slice none 0 0) rfl) (sv (asv (.slice none 0 0) rfl) (sv (asv (.int .i64 6) rfl) (W.e (k133 _ _ (cw_ret ?_))))))
        obtain rfl := Option.some.inj h
        exact ⟨_, rfl, _, _, _, rfl, C, (sl_nil _ _ _), Ow.nil _ _ _ _ _⟩
      · refine cw_f rfl b131 (cw_skip (k123 _ _ ?_))
        refine cw_seq fun K134 k135 => ?_
        refine cw_region (sv (mvv v114 rfl) (sv (mvv v0 rfl) (sv (mvv v0 rfl) (sv (rv_lenS el61 h0 rfl) (sv (mvv v10 rfl) ?_)))))
        obtain ⟨y136, h137, h⟩ := bnd_some h
        refine sc (dc_call (vs := [v10]) can44 rfl ?_)
        refine (octs_Taker_Left_w C.sb h116 h137).mono ?_
        rintro _ w138 ⟨S139, rfl, c140⟩
        refine ⟨_, rfl, ?_⟩
        replace h0 := h0.cx c140
        replace h115 := h115.cx c140
        replace C := C.trans c140
        obtain ⟨y141, h142, h⟩ := pur_some h
        refine sv (rv_sub rfl rfl h142) ?_
        obtain ⟨y143, h144, h⟩ := bnd_some h
        obtain ⟨v145, h146, h147⟩ := rv_fromA (P := Try.prog) el61 h0 h144
        refine sv (h147 rfl rfl) ?_
        obtain ⟨y148, h149, h⟩ := bnd_some h
        refine sc (dc_call (vs := [v145]) can66 rfl ?_)
        refine (slices_Clone_byte_byte_w C.sb h146 h149).mono ?_
        rintro _ w150 ⟨S151, v153, rfl, c152, h154⟩
        refine ⟨_, rfl, ?_⟩
        replace h154 := h154.base C.up.size
        replace h115 := h115.cx c152
        replace C := C.trans c152
        refine sv (asv v114 rfl) (sv (asv v153 rfl) (sv (asv (.int .i64 0) rfl) (W.e (k135 _ _ (cw_ret ?_)))))
        obtain rfl := Option.some.inj h
        exact ⟨_, rfl, _, _, _, rfl, C, h115, h154⟩

noncomputable def index_Open.b6 (y18 : Int × (Option octs_Taker)) (y29 : Int × (Option octs_Taker)) (x148 : List Int) (x149 : Int) (x150 : Int) (x151 : index_Index) : Option (((List Int) × Int × Int × index_Index) ⊕ (((List Int) × index_Index) ⊕ ((Option index_Index) × Int))) :=
  (bif (decide (x150 < y29.1)) then (((octs_New x148).bind fun y165 => ((octs_Taker_Num y165).bind fun y179 => ((octs_Taker_Left y179.2).bind fun y193 => (pur (IntKind.i64.wrap ((x148.length : Int) - y193)) fun y198 => ((from_ x148 y198).bind fun y200 => ((label_Take y200).bind fun y205 => (((bif (y205.2.2 != (0 : Int)) then some true else (bif (decide (y18.1 ≤ y179.1)) then some true else (pur (IntKind.i64.wrap y179.1) fun y225 => some (decide (y225 ≤ x149))))).bind fun o219 => (bif o219 then some (.inr (.inr (.inr (.inr (none, (6 : Int)))))) else some (.inl ()))).bind (Sum.elim (fun o215n => ((index_key y205.1).bind fun y241 => (bif (mget y241.2.1 x151.ids).isSome then some (.inr (.inr (.inr (none, (6 : Int))))) else (pur (IntKind.i64.wrap y179.1) fun y267 => ((index_Index_put x151 y267 y205.1 y241.2.1).bind fun y269 => (pur (IntKind.i64.wrap y179.1) fun y281 => some (.inl (y205.2.1, y281, y269)))))))) (fun q => some q))))))))).bind (Sum.elim (fun o159n => (pur (IntKind.u64.wrap (x150 + (1 : Int))) fun y293 => some (.inl (o159n.1, o159n.2.1, y293, o159n.2.2)))) (fun q => some q))) else some (.inr (.inl (x148, x151))))
noncomputable def index_Open (a0 : List Int) : Option ((Option index_Index) × Int) :=
  ((octs_New a0).bind fun y5 => ((octs_Taker_Num y5).bind fun y18 => ((octs_Taker_Num y18.2).bind fun y29 => (((bif (decide ((4096 : Int) < y18.1)) then some true else some (decide ((200 : Int) < y29.1))).bind fun o44 => (bif o44 then some (.inr (none, (6 : Int))) else some (.inl ()))).bind (Sum.elim (fun o40n => ((index_New).bind fun y60 => (pur (IntKind.i64.wrap y18.1) fun y74 => ((y60).bind fun y76 => (pur ({ y76 with given := y74 } : index_Index) fun y79 => ((octs_Taker_Left y29.2).bind fun y90 => (pur (IntKind.i64.wrap ((a0.length : Int) - y90)) fun y95 => ((from_ a0 y95).bind fun y97 => ((((octs_Taker_Left y29.2).bind fun y110 => (bif (y110 == (0 : Int)) then ((octs_Taker_End y29.2).bind fun y116 => some (y116 != (0 : Int))) else some false)).bind fun o106 => (bif o106 then some (.inr (none, (6 : Int))) else some (.inl ()))).bind (Sum.elim (fun o102n => ((iter (fun s : (List Int) × Int × Int × index_Index => index_Open.b6 y18 y29 s.1 s.2.1 s.2.2.1 s.2.2.2) (y97, (-1 : Int), (0 : Int), y79)).bind (Sum.elim (fun o132n => (bif (decide ((0 : Int) < (o132n.1.length : Int))) then some (none, (6 : Int)) else some (some o132n.2, (0 : Int)))) (fun q => some q)))) (fun q => some q))))))))))) (fun q => some q))))))
set_option maxRecDepth 100000 in
set_option maxHeartbeats 4000000 in
theorem index_Open_w {S : Nat → Prop} {w : World} {a0 : List Int} {v0 : Value} {r : (Option index_Index) × Int} (hS : Sb S w) (h0 : Sl (kSl (kI .u8)) S w v0 a0) (h : index_Open a0 = some r) :
    Calls Try.prog 27 (List.toArray [v0]) w fun e w1 => ∃ S1 u0 us0 up0, e = .returned (.tuple (List.toArray [u0, .int .i64 r.2])) ∧ Cx No S w S1 w1 ∧ Obo 72 index_Index.fs S1 w1 u0 r.1 us0 up0 ∧ (∀ b, b ∈ up0 → w.heap.size ≤ b) := by
  refine enter Try.func27 rfl (by kernel_rfl) rfl ?_
  have C := Cx.refl (F := No) hS
  unfold index_Open at h
  refine cw_seq fun K1 k2 => ?_
  refine cw_region (sv (asv (.pointer none) rfl) (sv (asv (.int .i64 0) rfl) (W.e (k2 _ _ ?_))))
  refine cw_seq fun K3 k4 => ?_
  refine cw_region (sv (mvv v0 rfl) ?_)
  obtain ⟨y5, h6, h⟩ := bnd_some h
  refine sc (dc_call (vs := [v0]) can42 rfl ?_)
  refine (octs_New_w C.sb h0 h6).mono ?_
  rintro _ w7 ⟨S8, v10, cs11, fp12, rfl, c9, h13, h14⟩
  refine ⟨_, rfl, ?_⟩
  have h15 : ∀ b, b ∈ fp12 → w.heap.size ≤ b := fun b hb => Nat.le_trans C.up.size (h14 b hb)
  replace h0 := h0.cx c9
  replace C := C.trans c9
  refine sv (asv v10 rfl) (W.e (k4 _ _ ?_))
  refine cw_seq fun K16 k17 => ?_
  refine cw_region (sv (mvv v10 rfl) ?_)
  obtain ⟨y18, h19, h⟩ := bnd_some h
  refine sc (dc_call (vs := [v10]) can43 rfl ?_)
  refine (octs_Taker_Num_w C.sb h13 h19).mono ?_
  rintro _ w20 ⟨S21, cs23, fp24, rfl, c22, h25, h26⟩
  refine ⟨_, rfl, ?_⟩
  have h27 : ∀ b, b ∈ fp12 → ¬ S8 b := fun b hb => (h13.lt b hb).2
  have h28 : ∀ b, b ∈ fp24 → w.heap.size ≤ b := fun b hb => (h26 b hb).elim (h15 b) (fun hl => Nat.le_trans C.up.size hl)
  replace h0 := h0.cf c22 h27
  replace C := C.ofc c22 (fun b hb => .inr (h15 b hb))
  refine sv (mvv v10 rfl) ?_
  obtain ⟨y29, h30, h⟩ := bnd_some h
  refine sc (dc_call (vs := [v10]) can43 rfl ?_)
  refine (octs_Taker_Num_w C.sb h25 h30).mono ?_
  rintro _ w31 ⟨S32, cs34, fp35, rfl, c33, h36, h37⟩
  refine ⟨_, rfl, ?_⟩
  have h38 : ∀ b, b ∈ fp24 → ¬ S21 b := fun b hb => (h25.lt b hb).2
  have h39 : ∀ b, b ∈ fp35 → w.heap.size ≤ b := fun b hb => (h37 b hb).elim (h28 b) (fun hl => Nat.le_trans C.up.size hl)
  replace h0 := h0.cf c33 h38
  replace C := C.ofc c33 (fun b hb => .inr (h28 b hb))
  refine sv (asv (.int .u64 y18.1) rfl) (sv (asv (.int .u64 y29.1) rfl) (W.e (k17 _ _ ?_)))
  obtain ⟨o40, h43, h⟩ := bnds_some h
  refine cw_seq' (fun ρ w1 => ∃ o40n, o40 = (.inl o40n) ∧ ∃ S1, Cx No S w S1 w1 ∧ Has ρ [(0, v0), (4, v10), (5, .int .u64 y18.1), (6, .int .u64 y29.1)] ∧ Sl (kSl (kI .u8)) S1 w1 v0 a0 ∧ Obo 112 octs_Taker.fs S1 w1 v10 y29.2 cs34 fp35) ?_ ?_
  · obtain ⟨o44, h47, h43⟩ := bnd_some h43
    refine cw_seq' (fun ρ w1 => ∃ S1, Cx No S w S1 w1 ∧ Has ρ [(0, v0), (4, v10), (5, .int .u64 y18.1), (6, .int .u64 y29.1), (31, .bool o44)] ∧ Sl (kSl (kI .u8)) S1 w1 v0 a0 ∧ Obo 112 octs_Taker.fs S1 w1 v10 y29.2 cs34 fp35) ?_ ?_
    · refine cw_region (sv (mvv (.int .u64 y18.1) rfl) (sv (rv_gtr rfl rfl) (sv (mvv (.bool (decide ((4096 : Int) < y18.1))) rfl) ?_)))
      rcases bif_some h47 with ⟨b48, h47⟩ | ⟨b48, h47⟩
      · refine W.n (gn rfl rfl rfl b48) (W.n (gn rfl rfl rfl b48) (sv (ptk (.bool true) rfl b48 rfl) (W.e ?_)))
        obtain rfl := Option.some.inj h47
        exact ⟨_, C, ⟨rfl, rfl, rfl, rfl, rfl, trivial⟩, h0, h36⟩
      · refine W.v (gy rfl rfl rfl b48) (mvv (.int .u64 y29.1) rfl) (W.v (gy rfl rfl rfl b48) (rv_gtr rfl rfl) (sv (pfk (.bool (decide ((200 : Int) < y29.1))) rfl b48 rfl) (W.e ?_)))
        obtain rfl := Option.some.inj h47
        exact ⟨_, C, ⟨rfl, rfl, rfl, rfl, rfl, trivial⟩, h0, h36⟩
    · rintro ρ w50 ⟨S49, C, h51, h0, h36⟩
      refine h51.cw fun ρ => ?_
      clear h51
      rcases bif_some h43 with ⟨b52, h43⟩ | ⟨b52, h43⟩
      · refine cw_t rfl b52 ?_
        refine cw_seq fun K53 k54 => ?_
        refine cw_region (sv (asv (.pointer none) rfl) (sv (asv (.int .i64 6) rfl) (W.e (k54 _ _ (cw_ret ?_)))))
        obtain rfl := Option.some.inj h43
        replace h := h.2 _ rfl
        obtain rfl := Option.some.inj h
        exact ⟨_, rfl, _, _, _, _, rfl, C, ⟨rfl, rfl, rfl⟩, (fun b hb => by cases hb)⟩
      · refine cw_f rfl b52 (cw_skip ?_)
        obtain rfl := Option.some.inj h43
        exact ⟨_, rfl, ⟨_, C, ⟨rfl, rfl, rfl, rfl, trivial⟩, h0, h36⟩⟩
  · rintro ρ w56 ⟨o40n, rfl, ⟨S55, C, h57, h0, h36⟩⟩
    replace h := h.1 _ rfl
    refine h57.cw fun ρ => ?_
    clear h57
    refine cw_seq fun K58 k59 => ?_
    refine cw_region ?_
    obtain ⟨y60, h61, h⟩ := bnd_some h
    refine sc (dc_call (vs := []) can11 rfl ?_)
    refine (index_New_w C.sb  h61).mono ?_
    rintro _ w62 ⟨S63, v65, cs66, fp67, rfl, c64, h68, h69⟩
    refine ⟨_, rfl, ?_⟩
    have p70 := ap_fresh h69 (fun b hb => (h36.lt b hb).1)
    have h71 : ∀ b, b ∈ fp67 → w.heap.size ≤ b := fun b hb => Nat.le_trans C.up.size (h69 b hb)
    replace h0 := h0.cx c64
    replace h36 := h36.cx c64
    replace C := C.trans c64
    refine sv (asv v65 rfl) (W.e (k59 _ _ ?_))
    refine cw_seq fun K72 k73 => ?_
    refine cw_region (sv (mvv v65 rfl) (sv (mvv (.int .u64 y18.1) rfl) ?_))
    obtain ⟨y74, h75, h⟩ := pur_some h
    refine sv (rv_conv Try.underlying86 Try.underlying3 rfl h75) ?_
    obtain ⟨y76, h77, h⟩ := bnd_some h
    have h78 := h68
    rw [h77] at h78
    replace h78 : Ob 72 (index_Index.fs y76) _ _ _ _ _ := h78
    refine sv (rv_nilcheck rfl h78.ptr) (sv (rv_fieldAddr (b := pb v65) (o := 0) st72 rfl h78.ptr) ?_)
    obtain ⟨y79, h80, h⟩ := pur_some h
    have h85 : ∀ b, b ∈ fp67 → ¬ S63 b := fun b hb => (h78.lt b hb).2
    refine sc (dc_ofield (i := 4) (k := (kI .i64)) (h1 := rfl) (a' := y74) h78 rfl ag3 rfl rfl (rep_sc.2 rfl) fun w81 h82 u83 => ?_)
    replace h82 : Ob 72 (index_Index.fs ({ y76 with given := y74 } : index_Index)) S63 w81 v65 (cs66.set 4 (.int .i64 y74)) fp67 := h82
    rw [h80] at h82
    obtain ⟨cs86, h87⟩ : ∃ cs, cs = cs66.set 4 (.int .i64 y74) := ⟨_, rfl⟩
    rw [← h87] at h82
    have c84 := Cx.ofUp C.sb u83
    replace h0 := h0.cf c84 h85
    replace h36 := h36.cf c84 h85 (ap_symm p70)
    replace C := C.ofc c84 (fun b hb => .inr (h71 b hb))
    refine W.e (k73 _ _ ?_)
    refine cw_seq fun K88 k89 => ?_
    refine cw_region (sv (mvv v0 rfl) (sv (mvv v0 rfl) (sv (rv_lenS el61 h0 rfl) (sv (mvv v10 rfl) ?_))))
    obtain ⟨y90, h91, h⟩ := bnd_some h
    refine sc (dc_call (vs := [v10]) can44 rfl ?_)
    refine (octs_Taker_Left_w C.sb h36 h91).mono ?_
    rintro _ w92 ⟨S93, rfl, c94⟩
    refine ⟨_, rfl, ?_⟩
    replace h36 := h36.cx c94
    replace h82 := h82.cx c94
    replace h0 := h0.cx c94
    replace C := C.trans c94
    obtain ⟨y95, h96, h⟩ := pur_some h
    refine sv (rv_sub rfl rfl h96) ?_
    obtain ⟨y97, h98, h⟩ := bnd_some h
    obtain ⟨v99, h100, h101⟩ := rv_fromA (P := Try.prog) el61 h0 h98
    refine sv (h101 rfl rfl) (sv (asv v99 rfl) (W.e (k89 _ _ ?_)))
    obtain ⟨o102, h105, h⟩ := bnds_some h
    refine cw_seq' (fun ρ w1 => ∃ o102n, o102 = (.inl o102n) ∧ ∃ S1, Cx No S w S1 w1 ∧ Has ρ [(5, .int .u64 y18.1), (6, .int .u64 y29.1), (7, v65), (8, v99)] ∧ Sl (kSl (kI .u8)) S1 w1 v99 y97 ∧ Ob 72 (index_Index.fs y79) S1 w1 v65 cs86 fp67) ?_ ?_
    · obtain ⟨o106, h109, h105⟩ := bnd_some h105
      refine cw_seq' (fun ρ w1 => ∃ S1, Cx No S w S1 w1 ∧ Has ρ [(5, .int .u64 y18.1), (6, .int .u64 y29.1), (7, v65), (8, v99), (52, .bool o106)] ∧ Sl (kSl (kI .u8)) S1 w1 v99 y97 ∧ Ob 72 (index_Index.fs y79) S1 w1 v65 cs86 fp67) ?_ ?_
      · refine cw_region (sv (mvv v10 rfl) ?_)
        obtain ⟨y110, h111, h109⟩ := bnd_some h109
        refine sc (dc_call (vs := [v10]) can44 rfl ?_)
        refine (octs_Taker_Left_w C.sb h36 h111).mono ?_
        rintro _ w112 ⟨S113, rfl, c114⟩
        refine ⟨_, rfl, ?_⟩
        replace h36 := h36.cx c114
        replace h82 := h82.cx c114
        replace h100 := h100.cx c114
        replace C := C.trans c114
        refine sv (rv_eql rfl rfl) (sv (mvv (.bool (y110 == (0 : Int))) rfl) ?_)
        rcases bif_some h109 with ⟨b115, h109⟩ | ⟨b115, h109⟩
        · refine W.v (gy rfl rfl rfl b115) (mvv v10 rfl) ?_
          obtain ⟨y116, h117, h109⟩ := bnd_some h109
          refine W.c (gy rfl rfl rfl b115) (dc_call (vs := [v10]) can45 rfl ?_)
          refine (octs_Taker_End_w C.sb h36 h117).mono ?_
          rintro _ w118 ⟨S119, rfl, c120⟩
          refine ⟨_, rfl, ?_⟩
          replace h82 := h82.cx c120
          replace h100 := h100.cx c120
          replace C := C.trans c120
          refine W.v (gy rfl rfl rfl b115) (rv_neq rfl rfl) (sv (ptk (.bool (y116 != (0 : Int))) rfl b115 rfl) (W.e ?_))
          obtain rfl := Option.some.inj h109
          exact ⟨_, C, ⟨rfl, rfl, rfl, rfl, rfl, trivial⟩, h100, h82⟩
        · refine W.n (gn rfl rfl rfl b115) (W.n (gn rfl rfl rfl b115) (W.n (gn rfl rfl rfl b115) (sv (pfk (.bool false) rfl b115 rfl) (W.e ?_))))
          obtain rfl := Option.some.inj h109
          exact ⟨_, C, ⟨rfl, rfl, rfl, rfl, rfl, trivial⟩, h100, h82⟩
      · rintro ρ w122 ⟨S121, C, h123, h100, h82⟩
        refine h123.cw fun ρ => ?_
        clear h123
        rcases bif_some h105 with ⟨b124, h105⟩ | ⟨b124, h105⟩
        · refine cw_t rfl b124 ?_
          refine cw_seq fun K125 k126 => ?_
          refine cw_region (sv (asv (.pointer none) rfl) (sv (asv (.int .i64 6) rfl) (W.e (k126 _ _ (cw_ret ?_)))))
          obtain rfl := Option.some.inj h105
          replace h := h.2 _ rfl
          obtain rfl := Option.some.inj h
          exact ⟨_, rfl, _, _, _, _, rfl, C, ⟨rfl, rfl, rfl⟩, (fun b hb => by cases hb)⟩
        · refine cw_f rfl b124 (cw_skip ?_)
          obtain rfl := Option.some.inj h105
          exact ⟨_, rfl, ⟨_, C, ⟨rfl, rfl, rfl, rfl, trivial⟩, h100, h82⟩⟩
    · rintro ρ w128 ⟨o102n, rfl, ⟨S127, C, h129, h100, h82⟩⟩
      replace h := h.1 _ rfl
      refine h129.cw fun ρ => ?_
      clear h129
      refine cw_seq fun K130 k131 => ?_
      refine cw_region (sv (asv (.int .i64 (-1)) rfl) (W.e (k131 _ _ ?_)))
      obtain ⟨o132, h135, h⟩ := bnds_some h
      refine cw_seq' (fun ρ w1 => ∃ o132n, o132 = (.inl o132n) ∧ ∃ S1 v298 fp301 cs303, Cx No S w S1 w1 ∧ Has ρ [(7, v65), (8, v298)] ∧ Sl (kSl (kI .u8)) S1 w1 v298 o132n.1 ∧ Ob 72 (index_Index.fs o132n.2) S1 w1 v65 cs303 fp301 ∧ (∀ b, b ∈ fp301 → w.heap.size ≤ b)) ?_ ?_
      · refine cw_seq fun K136 k137 => ?_
        refine cw_region (sv (mvv (.int .u64 y29.1) rfl) (sv (mvv (.int .u64 0) rfl) (W.e (k137 _ _ (cw_block ?_)))))
        refine cw_iter h135 (fun s ρ w1 => ∃ S1 v141 fp144 cs146, Cx No S w S1 w1 ∧ Has ρ [(5, .int .u64 y18.1), (7, v65), (8, v141), (9, .int .i64 s.2.1), (53, .int .u64 y29.1), (54, .int .u64 s.2.2.1)] ∧ Sl (kSl (kI .u8)) S1 w1 v141 s.1 ∧ Ob 72 (index_Index.fs s.2.2.2) S1 w1 v65 cs146 fp144 ∧ (∀ b, b ∈ fp144 → w.heap.size ≤ b)) ⟨_, _, _, _, C, ⟨rfl, rfl, rfl, rfl, rfl, rfl, trivial⟩, h100, h82, h71⟩ ?_
        rintro ⟨x148, x149, x150, x151⟩ q138 ρ w140 ⟨S139, v141, fp144, cs146, C, h147, h142, h143, h145⟩ h153 h152
        refine h147.cw fun ρ => ?_
        clear h147
        replace h153 : index_Open.b6 y18 y29 x148 x149 x150 x151 = some q138 := h153
        unfold index_Open.b6 at h153
        refine cw_seq fun K154 k155 => ?_
        refine cw_region (sv (rv_lss rfl rfl) (W.e (k155 _ _ ?_)))
        refine cw_seq fun K156 k157 => ?_
        rcases bif_some h153 with ⟨b158, h153⟩ | ⟨b158, h153⟩
        · refine cw_t rfl b158 (cw_skip (k157 _ _ ?_))
          obtain ⟨o159, h162, h153⟩ := bnds_some h153
          refine cw_seq' (fun ρ w1 => ∃ o159n, o159 = (.inl o159n) ∧ ∃ S1 v285 fp288 cs290, Cx No S w S1 w1 ∧ Has ρ [(5, .int .u64 y18.1), (7, v65), (8, v285), (9, .int .i64 o159n.2.1), (53, .int .u64 y29.1), (54, .int .u64 x150)] ∧ Ow (kI .u8) 5 S1 w.heap.size w1 v285 o159n.1 ∧ Ob 72 (index_Index.fs o159n.2.2) S1 w1 v65 cs290 fp288 ∧ (∀ b, b ∈ fp288 → w.heap.size ≤ b) ∧ (∀ b, Blk v285 b → ¬ b ∈ fp288)) ?_ ?_
          · refine cw_block ?_
            refine cw_seq fun K163 k164 => ?_
            refine cw_region (sv (mvv v141 rfl) ?_)
            obtain ⟨y165, h166, h162⟩ := bnd_some h162
            refine sc (dc_call (vs := [v141]) can42 rfl ?_)
            refine (octs_New_w C.sb h142 h166).mono ?_
            rintro _ w167 ⟨S168, v170, cs171, fp172, rfl, c169, h173, h174⟩
            refine ⟨_, rfl, ?_⟩
            have p175 := ap_fresh h174 (fun b hb => (h143.lt b hb).1)
            have h176 : ∀ b, b ∈ fp172 → w.heap.size ≤ b := fun b hb => Nat.le_trans C.up.size (h174 b hb)
            replace h143 := h143.cx c169
            replace h142 := h142.cx c169
            replace C := C.trans c169
            refine sv (asv v170 rfl) (W.e (k164 _ _ ?_))
            refine cw_seq fun K177 k178 => ?_
            refine cw_region (sv (mvv v170 rfl) ?_)
            obtain ⟨y179, h180, h162⟩ := bnd_some h162
            refine sc (dc_call (vs := [v170]) can43 rfl ?_)
            refine (octs_Taker_Num_w C.sb h173 h180).mono ?_
            rintro _ w181 ⟨S182, cs184, fp185, rfl, c183, h186, h187⟩
            refine ⟨_, rfl, ?_⟩
            have h188 : ∀ b, b ∈ fp172 → ¬ S168 b := fun b hb => (h173.lt b hb).2
            have p189 := ap_grow p175 h187 (fun b hb => (h143.lt b hb).1)
            have h190 : ∀ b, b ∈ fp185 → w.heap.size ≤ b := fun b hb => (h187 b hb).elim (h176 b) (fun hl => Nat.le_trans C.up.size hl)
            replace h143 := h143.cf c183 h188 (ap_symm p175)
            replace h142 := h142.cf c183 h188
            replace C := C.ofc c183 (fun b hb => .inr (h176 b hb))
            refine sv (asv (.int .u64 y179.1) rfl) (W.e (k178 _ _ ?_))
            refine cw_seq fun K191 k192 => ?_
            refine cw_region (sv (mvv v141 rfl) (sv (mvv v141 rfl) (sv (rv_lenS el61 h142 rfl) (sv (mvv v170 rfl) ?_))))
            obtain ⟨y193, h194, h162⟩ := bnd_some h162
            refine sc (dc_call (vs := [v170]) can44 rfl ?_)
            refine (octs_Taker_Left_w C.sb h186 h194).mono ?_
            rintro _ w195 ⟨S196, rfl, c197⟩
            refine ⟨_, rfl, ?_⟩
            replace h143 := h143.cx c197
            replace h142 := h142.cx c197
            replace C := C.trans c197
            obtain ⟨y198, h199, h162⟩ := pur_some h162
            refine sv (rv_sub rfl rfl h199) ?_
            obtain ⟨y200, h201, h162⟩ := bnd_some h162
            obtain ⟨v202, h203, h204⟩ := rv_fromA (P := Try.prog) el61 h142 h201
            refine sv (h204 rfl rfl) ?_
            obtain ⟨y205, h206, h162⟩ := bnd_some h162
            refine sc (dc_call (vs := [v202]) can46 rfl ?_)
            refine (label_Take_w C.sb h203 h206).mono ?_
            rintro _ w207 ⟨S208, v210, v212, rfl, c209, h211, h213⟩
            refine ⟨_, rfl, ?_⟩
            have p214 := ap_fresh (fun b hb => (h213.lt b hb).1) (fun b hb => (h143.lt b hb).1)
            replace h213 := h213.base C.up.size
            replace h143 := h143.cx c209
            replace C := C.trans c209
            refine sv (mvv (.tuple (List.toArray [v210, v212, .int .i64 y205.2.2])) rfl) (sv (rv_extract rfl rfl) (sv (rv_extract rfl rfl) (sv (rv_extract rfl rfl) (sv (asv v210 rfl) (sv (asv v212 rfl) (sv (asv (.int .i64 y205.2.2) rfl) (W.e (k192 _ _ ?_))))))))
            obtain ⟨o215, h218, h162⟩ := bnds_some h162
            refine cw_seq' (fun ρ w1 => ∃ o215n, o215 = (.inl o215n) ∧ ∃ S1, Cx No S w S1 w1 ∧ Has ρ [(5, .int .u64 y18.1), (7, v65), (11, .int .u64 y179.1), (12, v210), (13, v212), (53, .int .u64 y29.1), (54, .int .u64 x150)] ∧ Sl (kSl api_Label.k) S1 w1 v210 y205.1 ∧ Ow (kI .u8) 5 S1 w.heap.size w1 v212 y205.2.1 ∧ Ob 72 (index_Index.fs x151) S1 w1 v65 cs146 fp144 ∧ (∀ b, Blk v212 b → ¬ b ∈ fp144)) ?_ ?_
            · obtain ⟨o219, h222, h218⟩ := bnd_some h218
              refine cw_seq' (fun ρ w1 => ∃ S1, Cx No S w S1 w1 ∧ Has ρ [(5, .int .u64 y18.1), (7, v65), (11, .int .u64 y179.1), (12, v210), (13, v212), (53, .int .u64 y29.1), (54, .int .u64 x150), (84, .bool o219)] ∧ Sl (kSl api_Label.k) S1 w1 v210 y205.1 ∧ Ow (kI .u8) 5 S1 w.heap.size w1 v212 y205.2.1 ∧ Ob 72 (index_Index.fs x151) S1 w1 v65 cs146 fp144 ∧ (∀ b, Blk v212 b → ¬ b ∈ fp144)) ?_ ?_
              · refine cw_region (sv (mvv (.int .i64 y205.2.2) rfl) (sv (rv_neq rfl rfl) (sv (mvv (.bool (y205.2.2 != (0 : Int))) rfl) ?_)))
                rcases bif_some h222 with ⟨b223, h222⟩ | ⟨b223, h222⟩
                · refine W.n (gn rfl rfl rfl b223) (W.n (gn rfl rfl rfl b223) (W.n (gn rfl rfl rfl b223) (sv (ptk (.bool true) rfl b223 rfl) (sv (mvv (.bool true) rfl) (W.n (gn rfl rfl rfl rfl) (W.n (gn rfl rfl rfl rfl) (W.n (gn rfl rfl rfl rfl) (W.n (gn rfl rfl rfl rfl) (sv (ptk (.bool true) rfl rfl rfl) (W.e ?_))))))))))
                  obtain rfl := Option.some.inj h222
                  exact ⟨_, C, ⟨rfl, rfl, rfl, rfl, rfl, rfl, rfl, rfl, trivial⟩, h211, h213, h143, p214⟩
                · refine W.v (gy rfl rfl rfl b223) (mvv (.int .u64 y179.1) rfl) (W.v (gy rfl rfl rfl b223) (mvv (.int .u64 y18.1) rfl) (W.v (gy rfl rfl rfl b223) (rv_geq rfl rfl) (sv (pfk (.bool (decide (y18.1 ≤ y179.1))) rfl b223 rfl) (sv (mvv (.bool (decide (y18.1 ≤ y179.1))) rfl) ?_))))
                  rcases bif_some h222 with ⟨b224, h222⟩ | ⟨b224, h222⟩
                  · refine W.n (gn rfl rfl rfl b224) (W.n (gn rfl rfl rfl b224) (W.n (gn rfl rfl rfl b224) (W.n (gn rfl rfl rfl b224) (sv (ptk (.bool true) rfl b224 rfl) (W.e ?_)))))
                    obtain rfl := Option.some.inj h222
                    exact ⟨_, C, ⟨rfl, rfl, rfl, rfl, rfl, rfl, rfl, rfl, trivial⟩, h211, h213, h143, p214⟩
                  · refine W.v (gy rfl rfl rfl b224) (mvv (.int .u64 y179.1) rfl) ?_
                    obtain ⟨y225, h226, h222⟩ := pur_some h222
                    refine W.v (gy rfl rfl rfl b224) (rv_conv Try.underlying86 Try.underlying3 rfl h226) (W.v (gy rfl rfl rfl b224) (mvv (.int .i64 x149) rfl) (W.v (gy rfl rfl rfl b224) (rv_leq rfl rfl) (sv (pfk (.bool (decide (y225 ≤ x149))) rfl b224 rfl) (W.e ?_))))
                    obtain rfl := Option.some.inj h222
                    exact ⟨_, C, ⟨rfl, rfl, rfl, rfl, rfl, rfl, rfl, rfl, trivial⟩, h211, h213, h143, p214⟩
              · rintro ρ w228 ⟨S227, C, h230, h211, h213, h143, p229⟩
                refine h230.cw fun ρ => ?_
                clear h230
                rcases bif_some h218 with ⟨b231, h218⟩ | ⟨b231, h218⟩
                · refine cw_t rfl b231 ?_
                  refine cw_seq fun K232 k233 => ?_
                  refine cw_region (sv (asv (.pointer none) rfl) (sv (asv (.int .i64 6) rfl) (W.e (k233 _ _ (cw_ret ?_)))))
                  obtain rfl := Option.some.inj h218
                  replace h162 := h162.2 _ rfl
                  obtain rfl := Option.some.inj h162
                  replace h153 := h153.2 _ rfl
                  obtain rfl := Option.some.inj h153
                  have h234 := congrArg some h152
                  obtain rfl := Option.some.inj h234
                  replace h := h.2 _ rfl
                  obtain rfl := Option.some.inj h
                  exact ⟨_, rfl, _, _, _, _, rfl, C, ⟨rfl, rfl, rfl⟩, (fun b hb => by cases hb)⟩
                · refine cw_f rfl b231 (cw_skip ?_)
                  obtain rfl := Option.some.inj h218
                  exact ⟨_, rfl, ⟨_, C, ⟨rfl, rfl, rfl, rfl, rfl, rfl, rfl, trivial⟩, h211, h213, h143, p229⟩⟩
            · rintro ρ w236 ⟨o215n, rfl, ⟨S235, C, h238, h211, h213, h143, p237⟩⟩
              replace h162 := h162.1 _ rfl
              refine h238.cw fun ρ => ?_
              clear h238
              refine cw_seq fun K239 k240 => ?_
              refine cw_region (sv (mvv v210 rfl) ?_)
              obtain ⟨y241, h242, h162⟩ := bnd_some h162
              refine sc (dc_call (vs := [v210]) can28 rfl ?_)
              refine (index_key_w C.sb h211 h242).mono ?_
              rintro _ w243 ⟨S244, v246, rfl, c245, h247⟩
              refine ⟨_, rfl, ?_⟩
              replace h143 := h143.cx c245
              replace h211 := h211.cx c245
              replace h213 := h213.cx c245
              replace C := C.trans c245
              refine sv (mvv (.tuple (List.toArray [v246, .string y241.2.1, .int .i64 y241.2.2])) rfl) (sv (rv_extract rfl rfl) (sv (rv_extract rfl rfl) (sv (rv_extract rfl rfl) (sv (asv v246 rfl) (sv (asv (.string y241.2.1) rfl) (sv (asv (.int .i64 y241.2.2) rfl) (W.e (k240 _ _ ?_))))))))
              refine cw_seq fun K248 k249 => ?_
              refine cw_seq fun K250 k251 => ?_
              refine cw_region (sv (mvv v65 rfl) (sv (rv_nilcheck rfl h143.ptr) (sv (rv_fieldAddr (b := pb v65) (o := 0) st72 rfl h143.ptr) ?_)))
              obtain ⟨c252, h253⟩ := h143.at (i := 1) rfl
              refine sr (rw_ofield (i := 1) (c := c252) h143 ag68 h253 rfl) (sv (mvv (.string y241.2.1) rfl) ?_)
              obtain ⟨_, h254, h255⟩ := Ob.rep h143 (i := 1) rfl h253
              obtain ⟨v256, h257, h258⟩ := rep_look (P := Try.prog) (tm := 68) (te := 3) (y0 := (0 : Int)) h254 Try.underlying68 zv3 (sl_sc.2 rfl) y241.2.1
              obtain rfl := sl_sc.1 h257
              refine sr ((h258 (Sm.refl _ _) rfl rfl).2) (sv (mvv (.tuple (List.toArray [.int .i64 ((mget y241.2.1 x151.ids).getD (0 : Int)), .bool (mget y241.2.1 x151.ids).isSome])) rfl) (sv (rv_extract rfl rfl) (sv (rv_extract rfl rfl) (sv (asv (.int .i64 ((mget y241.2.1 x151.ids).getD (0 : Int))) rfl) (sv (asv (.bool (mget y241.2.1 x151.ids).isSome) rfl) (W.e (k251 _ _ ?_)))))))
              refine cw_seq fun K259 k260 => ?_
              refine cw_region (sv (mvv (.bool (mget y241.2.1 x151.ids).isSome) rfl) (W.e (k260 _ _ ?_)))
              rcases bif_some h162 with ⟨b261, h162⟩ | ⟨b261, h162⟩
              · refine cw_t rfl b261 ?_
                refine cw_seq fun K262 k263 => ?_
                refine cw_region (sv (asv (.pointer none) rfl) (sv (asv (.int .i64 6) rfl) (W.e (k263 _ _ (cw_ret ?_)))))
                obtain rfl := Option.some.inj h162
                replace h153 := h153.2 _ rfl
                obtain rfl := Option.some.inj h153
                have h264 := congrArg some h152
                obtain rfl := Option.some.inj h264
                replace h := h.2 _ rfl
                obtain rfl := Option.some.inj h
                exact ⟨_, rfl, _, _, _, _, rfl, C, ⟨rfl, rfl, rfl⟩, (fun b hb => by cases hb)⟩
              · refine cw_f rfl b261 (cw_skip (k249 _ _ ?_))
                refine cw_seq fun K265 k266 => ?_
                refine cw_region (sv (mvv v65 rfl) (sv (mvv (.int .u64 y179.1) rfl) ?_))
                obtain ⟨y267, h268, h162⟩ := pur_some h162
                refine sv (rv_conv Try.underlying86 Try.underlying3 rfl h268) (sv (mvv v210 rfl) (sv (mvv (.string y241.2.1) rfl) ?_))
                obtain ⟨y269, h270, h162⟩ := bnd_some h162
                refine sc (dc_call (vs := [v65, .int .i64 y267, v210, .string y241.2.1]) can30 rfl ?_)
                refine (index_Index_put_w C.sb h143 h211 h270).mono ?_
                rintro _ w271 ⟨S272, cs274, fp275, rfl, c273, h276, h277⟩
                refine ⟨_, rfl, ?_⟩
                have h278 : ∀ b, b ∈ fp144 → ¬ S244 b := fun b hb => (h143.lt b hb).2
                have p279 := ap_grow (ap_symm p237) h277 (fun b hb => (h213.lt b hb).2)
                have h280 : ∀ b, b ∈ fp275 → w.heap.size ≤ b := fun b hb => (h277 b hb).elim (h145 b) (fun hl => Nat.le_trans C.up.size hl)
                replace h213 := h213.cf c273 h278 p237
                replace C := C.ofc c273 (fun b hb => .inr (h145 b hb))
                refine W.e (k266 _ _ (cw_region (sv (mvv (.int .u64 y179.1) rfl) ?_)))
                obtain ⟨y281, h282, h162⟩ := pur_some h162
                refine sv (rv_conv Try.underlying86 Try.underlying3 rfl h282) (sv (mvv v212 rfl) (sv (asv (.int .i64 y281) rfl) (sv (asv v212 rfl) (W.e ?_))))
                obtain rfl := Option.some.inj h162
                exact ⟨_, rfl, ⟨_, _, _, _, C, ⟨rfl, rfl, rfl, rfl, rfl, rfl, trivial⟩, h213, h276, h280, (ap_symm p279)⟩⟩
          · rintro ρ w284 ⟨o159n, rfl, ⟨S283, v285, fp288, cs290, C, h292, h286, h287, h289, p291⟩⟩
            replace h153 := h153.1 _ rfl
            refine h292.cw fun ρ => ?_
            clear h292
            refine cw_region ?_
            obtain ⟨y293, h294, h153⟩ := pur_some h153
            refine sv (rv_add rfl rfl h294) (sv (mvv (.int .u64 y293) rfl) (W.e ?_))
            obtain rfl := Option.some.inj h153
            replace h287 := h287.or (ap_symm p291)
            replace C := C.sealO h286
            replace h286 := h286.sealed
            exact ⟨_, rfl, ⟨_, _, _, _, C, ⟨rfl, rfl, rfl, rfl, rfl, rfl, trivial⟩, h286, h287, h289⟩⟩
        · refine cw_f rfl b158 (cw_exit ?_)
          obtain rfl := Option.some.inj h153
          have h295 := congrArg some h152
          obtain rfl := Option.some.inj h295
          exact ⟨_, rfl, ⟨_, _, _, _, C, ⟨rfl, rfl, trivial⟩, h142, h143, h145⟩⟩
      · rintro ρ w297 ⟨o132n, rfl, ⟨S296, v298, fp301, cs303, C, h304, h299, h300, h302⟩⟩
        replace h := h.1 _ rfl
        refine h304.cw fun ρ => ?_
        clear h304
        refine cw_seq fun K305 k306 => ?_
        refine cw_seq fun K307 k308 => ?_
        refine cw_region (sv (mvv v298 rfl) (sv (rv_lenS el61 h299 rfl) (sv (rv_gtr rfl rfl) (W.e (k308 _ _ ?_)))))
        rcases bif_some h with ⟨b309, h⟩ | ⟨b309, h⟩
        · refine cw_t rfl b309 ?_
          refine cw_seq fun K310 k311 => ?_
          refine cw_region (sv (asv (.pointer none) rfl) (sv (asv (.int .i64 6) rfl) (W.e (k311 _ _ (cw_ret ?_)))))
          obtain rfl := Option.some.inj h
          exact ⟨_, rfl, _, _, _, _, rfl, C, ⟨rfl, rfl, rfl⟩, (fun b hb => by cases hb)⟩
        · refine cw_f rfl b309 (cw_skip (k306 _ _ ?_))
          refine cw_seq fun K312 k313 => ?_
          refine cw_region (sv (mvv v65 rfl) (sv (asv v65 rfl) (sv (asv (.int .i64 0) rfl) (W.e (k313 _ _ (cw_ret ?_))))))
          obtain rfl := Option.some.inj h
          exact ⟨_, rfl, _, _, _, _, rfl, C, h300, h302⟩

noncomputable def marigraphlaw08_IndexBack.b2 (y36 : (List marigraphlaw08_Act)) (x51 : Int) (x52 : Option index_Index) : Option ((Int × (Option index_Index)) ⊕ ((Option index_Index))) :=
  (bif (decide (x51 < (y36.length : Int))) then (((at_ y36 x51).bind fun y66 => (pur y66 fun y81 => (pur (Int.tmod y81.Kind (5 : Int)) fun y96 => (bif (y96 == (3 : Int)) then ((index_Index_Drop x52 y81.Id).bind fun y106 => some y106.2) else ((marigraphlaw08_few y81.L).bind fun y124 => ((index_Index_Add x52 y124).bind fun y131 => some y131.2.2)))))).bind fun o60 => (pur (IntKind.i64.wrap (x51 + (1 : Int))) fun y149 => some (.inl (y149, o60)))) else some (.inr x52))
noncomputable def marigraphlaw08_IndexBack.b7 (a1 : List marigraphlaw08_Act) (x220 : Int) (x221 : Option index_Index) (x222 : Option index_Index) : Option ((Int × (Option index_Index) × (Option index_Index)) ⊕ (((Option index_Index) × (Option index_Index)) ⊕ (Bool))) :=
  (bif (decide (x220 < (a1.length : Int))) then (((at_ a1 x220).bind fun y236 => (pur y236 fun y252 => (bif (decide ((30 : Int) ≤ x220)) then some (.inr (.inr (.inl (x221, x222)))) else ((marigraphlaw08_some y252.A).bind fun y273 => ((index_Index_Find x221 y273).bind fun y280 => ((marigraphlaw08_some y252.A).bind fun y299 => ((index_Index_Find x222 y299).bind fun y306 => ((marigraphlaw08_few y252.L).bind fun y326 => ((index_Index_Add x221 y326).bind fun y333 => ((marigraphlaw08_few y252.L).bind fun y357 => ((index_Index_Add x222 y357).bind fun y364 => (((marigraphref04_Ints y280.1 y306.1).bind fun y386 => (bif (!y386) then some (true, y333.2.2, y364.2.2) else (bif (y280.2 != y306.2) then some (true, y333.2.2, y364.2.2) else (bif (y333.1 != y364.1) then some (true, y333.2.2, y364.2.2) else (bif (y333.2.1 != y364.2.1) then some (true, y333.2.2, y364.2.2) else ((index_Index_Drop y333.2.2 y252.Id).bind fun y411 => ((index_Index_Drop y364.2.2 y252.Id).bind fun y425 => some ((y411.1 != y425.1), y411.2, y425.2)))))))).bind fun o379 => (bif o379.1 then some (.inr (.inr (.inr false))) else some (.inl (o379.2.1, o379.2.2))))))))))))))).bind (Sum.elim (fun o230n => (pur (IntKind.i64.wrap (x220 + (1 : Int))) fun y467 => some (.inl (y467, o230n.1, o230n.2)))) (fun q => some q))) else some (.inr (.inl (x221, x222))))
noncomputable def marigraphlaw08_IndexBack (a0 : List marigraphlaw08_Act) (a1 : List marigraphlaw08_Act) : Option Bool :=
  ((marigraphlaw08_shown).bind fun y5 => ((index_New).bind fun y12 => (bif y12.isNone then some false else (((marigraphlaw08_acts a0).bind fun y36 => (iter (fun s : Int × (Option index_Index) => marigraphlaw08_IndexBack.b2 y36 s.1 s.2) ((0 : Int), y12))).bind fun o30 => ((index_Index_Bytes o30).bind fun y161 => ((index_Open y161).bind fun y169 => (((bif y169.1.isNone then some true else some (y169.2 != (0 : Int))).bind fun o185 => (bif o185 then some (.inr false) else some (.inl ()))).bind (Sum.elim (fun o181n => ((iter (fun s : Int × (Option index_Index) × (Option index_Index) => marigraphlaw08_IndexBack.b7 a1 s.1 s.2.1 s.2.2) ((0 : Int), o30, y169.1)).bind (Sum.elim (fun o201n => ((bif y5 then ((index_Index_Bytes o201n.1).bind fun y26_3_1 => ((index_Index_Bytes o201n.2).bind fun y26_6_1 => some (strEq (strOf y26_3_1) (strOf y26_6_1)))) else some false).bind fun o482 => some o482)) (fun q => some q)))) (fun q => some q)))))))))
set_option maxRecDepth 100000 in
set_option maxHeartbeats 4000000 in
theorem marigraphlaw08_IndexBack_w {S : Nat → Prop} {w : World} {a0 : List marigraphlaw08_Act} {a1 : List marigraphlaw08_Act} {v0 v1 : Value} {r : Bool} (hS : Sb S w) (h0 : Sl (kSl marigraphlaw08_Act.k) S w v0 a0) (h1 : Sl (kSl marigraphlaw08_Act.k) S w v1 a1) (h : marigraphlaw08_IndexBack a0 a1 = some r) :
    Calls Try.prog 9 (List.toArray [v0, v1]) w fun e w1 => ∃ S1, e = .returned (.bool r) ∧ Cx No S w S1 w1 := by
  refine enter Try.func9 rfl (by kernel_rfl) rfl ?_
  have C := Cx.refl (F := No) hS
  unfold marigraphlaw08_IndexBack at h
  refine cw_seq fun K1 k2 => ?_
  refine cw_region (sv (asv (.bool false) rfl) (W.e (k2 _ _ ?_)))
  refine cw_seq fun K3 k4 => ?_
  refine cw_region ?_
  obtain ⟨y5, h6, h⟩ := bnd_some h
  refine sc (dc_call (vs := []) can10 rfl ?_)
  refine (marigraphlaw08_shown_w C.sb  h6).mono ?_
  rintro _ w7 ⟨S8, rfl, c9⟩
  refine ⟨_, rfl, ?_⟩
  replace h0 := h0.cx c9
  replace h1 := h1.cx c9
  replace C := C.trans c9
  refine sv (asv (.bool y5) rfl) (W.e (k4 _ _ ?_))
  refine cw_seq fun K10 k11 => ?_
  refine cw_region ?_
  obtain ⟨y12, h13, h⟩ := bnd_some h
  refine sc (dc_call (vs := []) can11 rfl ?_)
  refine (index_New_w C.sb  h13).mono ?_
  rintro _ w14 ⟨S15, v17, cs18, fp19, rfl, c16, h20, h21⟩
  refine ⟨_, rfl, ?_⟩
  have h22 : ∀ b, b ∈ fp19 → w.heap.size ≤ b := fun b hb => Nat.le_trans C.up.size (h21 b hb)
  replace h0 := h0.cx c16
  replace h1 := h1.cx c16
  replace C := C.trans c16
  refine sv (asv v17 rfl) (W.e (k11 _ _ ?_))
  refine cw_seq fun K23 k24 => ?_
  refine cw_seq fun K25 k26 => ?_
  refine cw_region (sv (mvv v17 rfl) (sv (rv_nileq Try.underlying25 rfl rfl h20.ne) (W.e (k26 _ _ ?_))))
  rcases bif_some h with ⟨b27, h⟩ | ⟨b27, h⟩
  · refine cw_t rfl b27 ?_
    refine cw_seq fun K28 k29 => ?_
    refine cw_region (sv (asv (.bool false) rfl) (W.e (k29 _ _ (cw_ret ?_))))
    obtain rfl := Option.some.inj h
    exact ⟨_, rfl, _, rfl, C⟩
  · refine cw_f rfl b27 (cw_skip (k24 _ _ ?_))
    obtain ⟨o30, h33, h⟩ := bnd_some h
    refine cw_seq' (fun ρ w1 => ∃ S1 fp155 cs157, Cx No S w S1 w1 ∧ Has ρ [(1, v1), (5, .bool y5), (6, v17)] ∧ Sl (kSl marigraphlaw08_Act.k) S1 w1 v1 a1 ∧ Obo 72 index_Index.fs S1 w1 v17 o30 cs157 fp155 ∧ (∀ b, b ∈ fp155 → w.heap.size ≤ b)) ?_ ?_
    · refine cw_seq fun K34 k35 => ?_
      refine cw_region (sv (mvv v0 rfl) ?_)
      obtain ⟨y36, h37, h33⟩ := bnd_some h33
      refine sc (dc_call (vs := [v0]) can12 rfl ?_)
      refine (marigraphlaw08_acts_w C.sb h0 h37).mono ?_
      rintro _ w38 ⟨S39, v41, rfl, c40, h42⟩
      refine ⟨_, rfl, ?_⟩
      replace h1 := h1.cx c40
      replace h20 := h20.cx c40
      replace C := C.trans c40
      refine sv (rv_lenS el22 h42 rfl) (sv (mvv (.int .i64 0) rfl) (W.e (k35 _ _ (cw_block ?_))))
      refine cw_iter h33 (fun s ρ w1 => ∃ S1 fp47 cs49, Cx No S w S1 w1 ∧ Has ρ [(1, v1), (5, .bool y5), (6, v17), (26, v41), (27, .int .i64 (y36.length : Int)), (28, .int .i64 s.1)] ∧ Sl (kSl marigraphlaw08_Act.k) S1 w1 v1 a1 ∧ Sl (kSl marigraphlaw08_Act.k) S1 w1 v41 y36 ∧ Obo 72 index_Index.fs S1 w1 v17 s.2 cs49 fp47 ∧ (∀ b, b ∈ fp47 → w.heap.size ≤ b)) ⟨_, _, _, C, ⟨rfl, rfl, rfl, rfl, rfl, rfl, trivial⟩, h1, h42, h20, h22⟩ ?_
      rintro ⟨x51, x52⟩ q43 ρ w45 ⟨S44, fp47, cs49, C, h50, h1, h42, h46, h48⟩ h54 h53
      refine h50.cw fun ρ => ?_
      clear h50
      replace h54 : marigraphlaw08_IndexBack.b2 y36 x51 x52 = some q43 := h54
      unfold marigraphlaw08_IndexBack.b2 at h54
      refine cw_seq fun K55 k56 => ?_
      refine cw_region (sv (rv_lss rfl rfl) (W.e (k56 _ _ ?_)))
      refine cw_seq fun K57 k58 => ?_
      rcases bif_some h54 with ⟨b59, h54⟩ | ⟨b59, h54⟩
      · refine cw_t rfl b59 (cw_skip (k58 _ _ ?_))
        obtain ⟨o60, h63, h54⟩ := bnd_some h54
        refine cw_seq' (fun ρ w1 => ∃ S1 fp145 cs147, Cx No S w S1 w1 ∧ Has ρ [(1, v1), (5, .bool y5), (6, v17), (26, v41), (27, .int .i64 (y36.length : Int)), (28, .int .i64 x51)] ∧ Sl (kSl marigraphlaw08_Act.k) S1 w1 v1 a1 ∧ Sl (kSl marigraphlaw08_Act.k) S1 w1 v41 y36 ∧ Obo 72 index_Index.fs S1 w1 v17 o60 cs147 fp145 ∧ (∀ b, b ∈ fp145 → w.heap.size ≤ b)) ?_ ?_
        · refine cw_block ?_
          refine cw_seq fun K64 k65 => ?_
          refine cw_region ?_
          obtain ⟨y66, h67, h63⟩ := bnd_some h63
          refine sv (rv_index el22 h42 rfl rfl h67) ?_
          obtain ⟨v68, h69, h70⟩ := rw_loadA (P := Try.prog) el22 h42 h67
          obtain ⟨c71, c73, rfl, g72, g74⟩ := marigraphlaw08_Act.o.1 h69
          refine sr (h70 _ (Sm.refl _ _) rfl) ?_
          refine sc (dc_allocO (x0 := (marigraphlaw08_Act.mk (0 : Int) (0 : Int) ([] : List api_Label) ([] : List api_Ask))) (base := w.heap.size) el22 zr30 (fun _ => marigraphlaw08_Act.r.2 ⟨_, _, rfl, sl_nil _ _ _, sl_nil _ _ _⟩) C.up.size C.sb fun b75 w76 h77 h78 u79 => ?_)
          have p80 := ap_fresh h78 (fun b hb => (h46.lt b hb).1)
          replace h1 := h1.nw u79
          replace h46 := h46.nw u79
          replace h42 := h42.nw u79
          replace g72 := g72.nw u79
          replace g74 := g74.nw u79
          replace C := C.new u79
          obtain ⟨y81, h82, h63⟩ := pur_some h63
          have h86 := h77
          refine sc (dc_storeO el22 h86 (show at_ [(marigraphlaw08_Act.mk (0 : Int) (0 : Int) ([] : List api_Label) ([] : List api_Ask))] (0 : Int) = some (marigraphlaw08_Act.mk (0 : Int) (0 : Int) ([] : List api_Label) ([] : List api_Ask)) from rfl) rfl rfl ((marigraphlaw08_Act.o.2 ⟨_, _, rfl, g72, g74⟩)) fun w83 h84 u85 => ?_)
          replace h84 : Ow marigraphlaw08_Act.k 30 S44 w.heap.size w83 (.slice (some ⟨b75, 0, none⟩) 1 1) [y66] := h84
          rw [h82] at h84
          replace h1 := h1.wr u85 h86.not
          replace h46 := h46.wr u85 h86.not (ap_symm p80)
          replace h42 := h42.wr u85 h86.not
          replace C := C.ow h86 u85
          refine W.e (k65 _ _ ?_)
          refine cw_seq fun K87 k88 => ?_
          refine cw_region (sv (rv_fieldAddr st30 rfl rfl) ?_)
          obtain ⟨cs89, h90, h91⟩ := Ow.cellsO h84 (show at_ [y81] (0 : Int) = some y81 from rfl)
          obtain ⟨c92, c94, rfl, g93, g95⟩ := marigraphlaw08_Act.r.1 h90
          refine sr (rw_el1 (off := 0) ag5 (h91 _ (Sm.refl _ _)) rfl rfl) ?_
          obtain ⟨y96, h97, h63⟩ := pur_some h63
          refine sv (rv_rem rfl rfl (by decide) h97) (sv (rv_eql rfl rfl) (W.e (k88 _ _ ?_)))
          rcases bif_some h63 with ⟨b98, h63⟩ | ⟨b98, h63⟩
          · refine cw_t rfl b98 (cw_region (sv (mvv v17 rfl) (sv (rv_fieldAddr st30 rfl rfl) ?_)))
            obtain ⟨cs99, h100, h101⟩ := Ow.cellsO h84 (show at_ [y81] (0 : Int) = some y81 from rfl)
            obtain ⟨c102, c104, rfl, g103, g105⟩ := marigraphlaw08_Act.r.1 h100
            refine sr (rw_el1 (off := 1) ag3 (h101 _ (Sm.refl _ _)) rfl rfl) ?_
            obtain ⟨y106, h107, h63⟩ := bnd_some h63
            refine sc (dc_call (vs := [v17, .int .i64 y81.Id]) can13 rfl ?_)
            refine (index_Index_Drop_w C.sb h46 h107).mono ?_
            rintro _ w108 ⟨S109, cs111, fp112, rfl, c110, h113, h114⟩
            refine ⟨_, rfl, ?_⟩
            have h115 : ∀ b, b ∈ fp47 → ¬ S44 b := fun b hb => (h46.lt b hb).2
            have h116 : ∀ b, b ∈ fp112 → w.heap.size ≤ b := fun b hb => (h114 b hb).elim (h48 b) (fun hl => Nat.le_trans C.up.size hl)
            replace h1 := h1.cf c110 h115
            replace h42 := h42.cf c110 h115
            replace C := C.ofc c110 (fun b hb => .inr (h48 b hb))
            refine W.e ?_
            obtain rfl := Option.some.inj h63
            exact ⟨_, _, _, C, ⟨rfl, rfl, rfl, rfl, rfl, rfl, trivial⟩, h1, h42, h113, h116⟩
          · refine cw_f rfl b98 (cw_region (sv (mvv v17 rfl) (sv (rv_fieldAddr st30 rfl rfl) ?_)))
            obtain ⟨cs117, h118, h119⟩ := Ow.cellsO h84 (show at_ [y81] (0 : Int) = some y81 from rfl)
            obtain ⟨c120, c122, rfl, g121, g123⟩ := marigraphlaw08_Act.r.1 h118
            refine sr (rw_el1 (off := 2) ag28 (h119 _ (Sm.refl _ _)) rfl rfl) ?_
            obtain ⟨y124, h125, h63⟩ := bnd_some h63
            refine sc (dc_call (vs := [c120]) can15 rfl ?_)
            refine (marigraphlaw08_few_w C.sb g121 h125).mono ?_
            rintro _ w126 ⟨S127, v129, rfl, c128, h130⟩
            refine ⟨_, rfl, ?_⟩
            replace h1 := h1.cx c128
            replace h46 := h46.cx c128
            replace h42 := h42.cx c128
            replace C := C.trans c128
            obtain ⟨y131, h132, h63⟩ := bnd_some h63
            refine sc (dc_call (vs := [v17, v129]) can14 rfl ?_)
            refine (index_Index_Add_w C.sb h46 h130 h132).mono ?_
            rintro _ w133 ⟨S134, cs136, fp137, rfl, c135, h138, h139⟩
            refine ⟨_, rfl, ?_⟩
            have h140 : ∀ b, b ∈ fp47 → ¬ S127 b := fun b hb => (h46.lt b hb).2
            have h141 : ∀ b, b ∈ fp137 → w.heap.size ≤ b := fun b hb => (h139 b hb).elim (h48 b) (fun hl => Nat.le_trans C.up.size hl)
            replace h1 := h1.cf c135 h140
            replace h42 := h42.cf c135 h140
            replace C := C.ofc c135 (fun b hb => .inr (h48 b hb))
            refine W.e ?_
            obtain rfl := Option.some.inj h63
            exact ⟨_, _, _, C, ⟨rfl, rfl, rfl, rfl, rfl, rfl, trivial⟩, h1, h42, h138, h141⟩
        · rintro ρ w143 ⟨S142, fp145, cs147, C, h148, h1, h42, h144, h146⟩
          refine h148.cw fun ρ => ?_
          clear h148
          refine cw_region ?_
          obtain ⟨y149, h150, h54⟩ := pur_some h54
          refine sv (rv_add rfl rfl h150) (sv (mvv (.int .i64 y149) rfl) (W.e ?_))
          obtain rfl := Option.some.inj h54
          exact ⟨_, rfl, ⟨_, _, _, C, ⟨rfl, rfl, rfl, rfl, rfl, rfl, trivial⟩, h1, h42, h144, h146⟩⟩
      · refine cw_f rfl b59 (cw_exit ?_)
        obtain rfl := Option.some.inj h54
        have h151 := congrArg some h53
        obtain rfl := Option.some.inj h151
        exact ⟨_, _, _, C, ⟨rfl, rfl, rfl, trivial⟩, h1, h46, h48⟩
    · rintro ρ w153 ⟨S152, fp155, cs157, C, h158, h1, h154, h156⟩
      refine h158.cw fun ρ => ?_
      clear h158
      refine cw_seq fun K159 k160 => ?_
      refine cw_region (sv (mvv v17 rfl) ?_)
      obtain ⟨y161, h162, h⟩ := bnd_some h
      refine sc (dc_call (vs := [v17]) can26 rfl ?_)
      refine (index_Index_Bytes_w C.sb h154 h162).mono ?_
      rintro _ w163 ⟨S164, v166, rfl, c165, h167⟩
      refine ⟨_, rfl, ?_⟩
      have p168 := ap_fresh (fun b hb => (h167.lt b hb).1) (fun b hb => (h154.lt b hb).1)
      replace h167 := h167.base C.up.size
      replace h1 := h1.cx c165
      replace h154 := h154.cx c165
      replace C := C.trans c165
      replace h1 := h1.or (T := Blk v166)
      replace h154 := h154.or (ap_symm p168)
      replace C := C.sealO h167
      replace h167 := h167.sealed
      obtain ⟨y169, h170, h⟩ := bnd_some h
      refine sc (dc_call (vs := [v166]) can27 rfl ?_)
      refine (index_Open_w C.sb h167 h170).mono ?_
      rintro _ w171 ⟨S172, v174, cs175, fp176, rfl, c173, h177, h178⟩
      refine ⟨_, rfl, ?_⟩
      have p179 := ap_fresh h178 (fun b hb => (h154.lt b hb).1)
      have h180 : ∀ b, b ∈ fp176 → w.heap.size ≤ b := fun b hb => Nat.le_trans C.up.size (h178 b hb)
      replace h1 := h1.cx c173
      replace h154 := h154.cx c173
      replace C := C.trans c173
      refine sv (mvv (.tuple (List.toArray [v174, .int .i64 y169.2])) rfl) (sv (rv_extract rfl rfl) (sv (rv_extract rfl rfl) (sv (asv v174 rfl) (sv (asv (.int .i64 y169.2) rfl) (W.e (k160 _ _ ?_))))))
      obtain ⟨o181, h184, h⟩ := bnds_some h
      refine cw_seq' (fun ρ w1 => ∃ o181n, o181 = (.inl o181n) ∧ ∃ S1, Cx No S w S1 w1 ∧ Has ρ [(1, v1), (5, .bool y5), (6, v17), (9, v174)] ∧ Sl (kSl marigraphlaw08_Act.k) S1 w1 v1 a1 ∧ Obo 72 index_Index.fs S1 w1 v17 o30 cs157 fp155 ∧ Obo 72 index_Index.fs S1 w1 v174 y169.1 cs175 fp176 ∧ (∀ b, b ∈ fp155 → ¬ b ∈ fp176)) ?_ ?_
      · obtain ⟨o185, h188, h184⟩ := bnd_some h184
        refine cw_seq' (fun ρ w1 => ∃ S1, Cx No S w S1 w1 ∧ Has ρ [(1, v1), (5, .bool y5), (6, v17), (9, v174), (57, .bool o185)] ∧ Sl (kSl marigraphlaw08_Act.k) S1 w1 v1 a1 ∧ Obo 72 index_Index.fs S1 w1 v17 o30 cs157 fp155 ∧ Obo 72 index_Index.fs S1 w1 v174 y169.1 cs175 fp176 ∧ (∀ b, b ∈ fp155 → ¬ b ∈ fp176)) ?_ ?_
        · refine cw_region (sv (mvv v174 rfl) (sv (rv_nileq Try.underlying25 rfl rfl h177.ne) (sv (mvv (.bool y169.1.isNone) rfl) ?_)))
          rcases bif_some h188 with ⟨b189, h188⟩ | ⟨b189, h188⟩
          · refine W.n (gn rfl rfl rfl b189) (W.n (gn rfl rfl rfl b189) (sv (ptk (.bool true) rfl b189 rfl) (W.e ?_)))
            obtain rfl := Option.some.inj h188
            exact ⟨_, C, ⟨rfl, rfl, rfl, rfl, rfl, trivial⟩, h1, h154, h177, (ap_symm p179)⟩
          · refine W.v (gy rfl rfl rfl b189) (mvv (.int .i64 y169.2) rfl) (W.v (gy rfl rfl rfl b189) (rv_neq rfl rfl) (sv (pfk (.bool (y169.2 != (0 : Int))) rfl b189 rfl) (W.e ?_)))
            obtain rfl := Option.some.inj h188
            exact ⟨_, C, ⟨rfl, rfl, rfl, rfl, rfl, trivial⟩, h1, h154, h177, (ap_symm p179)⟩
        · rintro ρ w191 ⟨S190, C, h193, h1, h154, h177, p192⟩
          refine h193.cw fun ρ => ?_
          clear h193
          rcases bif_some h184 with ⟨b194, h184⟩ | ⟨b194, h184⟩
          · refine cw_t rfl b194 ?_
            refine cw_seq fun K195 k196 => ?_
            refine cw_region (sv (asv (.bool false) rfl) (W.e (k196 _ _ (cw_ret ?_))))
            obtain rfl := Option.some.inj h184
            replace h := h.2 _ rfl
            obtain rfl := Option.some.inj h
            exact ⟨_, rfl, _, rfl, C⟩
          · refine cw_f rfl b194 (cw_skip ?_)
            obtain rfl := Option.some.inj h184
            exact ⟨_, rfl, ⟨_, C, ⟨rfl, rfl, rfl, rfl, trivial⟩, h1, h154, h177, p192⟩⟩
      · rintro ρ w198 ⟨o181n, rfl, ⟨S197, C, h200, h1, h154, h177, p199⟩⟩
        replace h := h.1 _ rfl
        refine h200.cw fun ρ => ?_
        clear h200
        obtain ⟨o201, h204, h⟩ := bnds_some h
        refine cw_seq' (fun ρ w1 => ∃ o201n, o201 = (.inl o201n) ∧ ∃ S1 fp473 cs475 fp477 cs479, Cx No S w S1 w1 ∧ Has ρ [(5, .bool y5), (6, v17), (9, v174)] ∧ Obo 72 index_Index.fs S1 w1 v17 o201n.1 cs475 fp473 ∧ (∀ b, b ∈ fp473 → w.heap.size ≤ b) ∧ Obo 72 index_Index.fs S1 w1 v174 o201n.2 cs479 fp477 ∧ (∀ b, b ∈ fp477 → w.heap.size ≤ b) ∧ (∀ b, b ∈ fp473 → ¬ b ∈ fp477)) ?_ ?_
        · refine cw_seq fun K205 k206 => ?_
          refine cw_region (sv (mvv v1 rfl) (sv (rv_lenS el22 h1 rfl) (sv (mvv (.int .i64 0) rfl) (W.e (k206 _ _ (cw_block ?_))))))
          refine cw_iter h204 (fun s ρ w1 => ∃ S1 fp211 cs213 fp215 cs217, Cx No S w S1 w1 ∧ Has ρ [(5, .bool y5), (6, v17), (9, v174), (58, v1), (59, .int .i64 (a1.length : Int)), (60, .int .i64 s.1)] ∧ Sl (kSl marigraphlaw08_Act.k) S1 w1 v1 a1 ∧ Obo 72 index_Index.fs S1 w1 v17 s.2.1 cs213 fp211 ∧ (∀ b, b ∈ fp211 → w.heap.size ≤ b) ∧ Obo 72 index_Index.fs S1 w1 v174 s.2.2 cs217 fp215 ∧ (∀ b, b ∈ fp215 → w.heap.size ≤ b) ∧ (∀ b, b ∈ fp211 → ¬ b ∈ fp215)) ⟨_, _, _, _, _, C, ⟨rfl, rfl, rfl, rfl, rfl, rfl, trivial⟩, h1, h154, h156, h177, h180, p199⟩ ?_
          rintro ⟨x220, x221, x222⟩ q207 ρ w209 ⟨S208, fp211, cs213, fp215, cs217, C, h219, h1, h210, h212, h214, h216, p218⟩ h224 h223
          refine h219.cw fun ρ => ?_
          clear h219
          replace h224 : marigraphlaw08_IndexBack.b7 a1 x220 x221 x222 = some q207 := h224
          unfold marigraphlaw08_IndexBack.b7 at h224
          refine cw_seq fun K225 k226 => ?_
          refine cw_region (sv (rv_lss rfl rfl) (W.e (k226 _ _ ?_)))
          refine cw_seq fun K227 k228 => ?_
          rcases bif_some h224 with ⟨b229, h224⟩ | ⟨b229, h224⟩
          · refine cw_t rfl b229 (cw_skip (k228 _ _ ?_))
            obtain ⟨o230, h233, h224⟩ := bnds_some h224
            refine cw_seq' (fun ρ w1 => ∃ o230n, o230 = (.inl o230n) ∧ ∃ S1 fp458 cs460 fp462 cs464, Cx No S w S1 w1 ∧ Has ρ [(5, .bool y5), (6, v17), (9, v174), (58, v1), (59, .int .i64 (a1.length : Int)), (60, .int .i64 x220)] ∧ Sl (kSl marigraphlaw08_Act.k) S1 w1 v1 a1 ∧ Obo 72 index_Index.fs S1 w1 v17 o230n.1 cs460 fp458 ∧ (∀ b, b ∈ fp458 → w.heap.size ≤ b) ∧ Obo 72 index_Index.fs S1 w1 v174 o230n.2 cs464 fp462 ∧ (∀ b, b ∈ fp462 → w.heap.size ≤ b) ∧ (∀ b, b ∈ fp458 → ¬ b ∈ fp462)) ?_ ?_
            · refine cw_block ?_
              refine cw_seq fun K234 k235 => ?_
              refine cw_region (sv (mvv (.int .i64 x220) rfl) ?_)
              obtain ⟨y236, h237, h233⟩ := bnd_some h233
              refine sv (rv_index el22 h1 rfl rfl h237) ?_
              obtain ⟨v238, h239, h240⟩ := rw_loadA (P := Try.prog) el22 h1 h237
              obtain ⟨c241, c243, rfl, g242, g244⟩ := marigraphlaw08_Act.o.1 h239
              refine sr (h240 _ (Sm.refl _ _) rfl) ?_
              refine sc (dc_allocO (x0 := (marigraphlaw08_Act.mk (0 : Int) (0 : Int) ([] : List api_Label) ([] : List api_Ask))) (base := w.heap.size) el22 zr30 (fun _ => marigraphlaw08_Act.r.2 ⟨_, _, rfl, sl_nil _ _ _, sl_nil _ _ _⟩) C.up.size C.sb fun b245 w246 h247 h248 u249 => ?_)
              have p250 := ap_fresh h248 (fun b hb => (h210.lt b hb).1)
              have p251 := ap_fresh h248 (fun b hb => (h214.lt b hb).1)
              replace g242 := g242.nw u249
              replace g244 := g244.nw u249
              replace h210 := h210.nw u249
              replace h214 := h214.nw u249
              replace h1 := h1.nw u249
              replace C := C.new u249
              refine sv (asv (.int .i64 x220) rfl) ?_
              obtain ⟨y252, h253, h233⟩ := pur_some h233
              have h257 := h247
              refine sc (dc_storeO el22 h257 (show at_ [(marigraphlaw08_Act.mk (0 : Int) (0 : Int) ([] : List api_Label) ([] : List api_Ask))] (0 : Int) = some (marigraphlaw08_Act.mk (0 : Int) (0 : Int) ([] : List api_Label) ([] : List api_Ask)) from rfl) rfl rfl ((marigraphlaw08_Act.o.2 ⟨_, _, rfl, g242, g244⟩)) fun w254 h255 u256 => ?_)
              replace h255 : Ow marigraphlaw08_Act.k 30 S208 w.heap.size w254 (.slice (some ⟨b245, 0, none⟩) 1 1) [y236] := h255
              rw [h253] at h255
              replace h210 := h210.wr u256 h257.not (ap_symm p250)
              replace h214 := h214.wr u256 h257.not (ap_symm p251)
              replace h1 := h1.wr u256 h257.not
              replace C := C.ow h257 u256
              refine W.e (k235 _ _ ?_)
              refine cw_seq fun K258 k259 => ?_
              refine cw_seq fun K260 k261 => ?_
              refine cw_region (sv (mvv (.int .i64 x220) rfl) (sv (rv_geq rfl rfl) (W.e (k261 _ _ ?_))))
              rcases bif_some h233 with ⟨b262, h233⟩ | ⟨b262, h233⟩
              · refine cw_t rfl b262 (cw_exit ?_)
                obtain rfl := Option.some.inj h233
                replace h224 := h224.2 _ rfl
                obtain rfl := Option.some.inj h224
                have h263 := congrArg some h223
                obtain rfl := Option.some.inj h263
                exact ⟨_, rfl, ⟨_, _, _, _, _, C, ⟨rfl, rfl, rfl, trivial⟩, h210, h212, h214, h216, p218⟩⟩
              · refine cw_f rfl b262 (cw_skip (k259 _ _ ?_))
                refine cw_seq fun K264 k265 => ?_
                refine cw_region (sv (mvv v17 rfl) (sv (rv_fieldAddr st30 rfl rfl) ?_))
                obtain ⟨cs266, h267, h268⟩ := Ow.cellsO h255 (show at_ [y252] (0 : Int) = some y252 from rfl)
                obtain ⟨c269, c271, rfl, g270, g272⟩ := marigraphlaw08_Act.r.1 h267
                refine sr (rw_el1 (off := 3) ag23 (h268 _ (Sm.refl _ _)) rfl rfl) ?_
                obtain ⟨y273, h274, h233⟩ := bnd_some h233
                refine sc (dc_call (vs := [c271]) can17 rfl ?_)
                refine (marigraphlaw08_some_w C.sb g272 h274).mono ?_
                rintro _ w275 ⟨S276, v278, rfl, c277, h279⟩
                refine ⟨_, rfl, ?_⟩
                replace h210 := h210.cx c277
                replace h214 := h214.cx c277
                replace h255 := h255.cx c277
                replace h1 := h1.cx c277
                replace C := C.trans c277
                obtain ⟨y280, h281, h233⟩ := bnd_some h233
                refine sc (dc_call (vs := [v17, v278]) can16 rfl ?_)
                refine (index_Index_Find_w C.sb h210 h279 h281).mono ?_
                rintro _ w282 ⟨S283, v285, rfl, c284, h286⟩
                refine ⟨_, rfl, ?_⟩
                have p287 := ap_fresh (fun b hb => (h286.lt b hb).1) (fun b hb => (h210.lt b hb).1)
                have p288 := ap_fresh (fun b hb => (h286.lt b hb).1) (fun b hb => (h214.lt b hb).1)
                have p289 := ap_fresh (fun b hb => (h286.lt b hb).1) (fun b hb => (h255.lt b hb).2)
                replace h286 := h286.base C.up.size
                replace h210 := h210.cx c284
                replace h214 := h214.cx c284
                replace h255 := h255.cx c284
                replace h1 := h1.cx c284
                replace C := C.trans c284
                refine sv (mvv (.tuple (List.toArray [v285, .int .i64 y280.2])) rfl) (sv (rv_extract rfl rfl) (sv (rv_extract rfl rfl) (sv (asv v285 rfl) (sv (asv (.int .i64 y280.2) rfl) (W.e (k265 _ _ ?_))))))
                refine cw_seq fun K290 k291 => ?_
                refine cw_region (sv (mvv v174 rfl) (sv (rv_fieldAddr st30 rfl rfl) ?_))
                obtain ⟨cs292, h293, h294⟩ := Ow.cellsO h255 (show at_ [y252] (0 : Int) = some y252 from rfl)
                obtain ⟨c295, c297, rfl, g296, g298⟩ := marigraphlaw08_Act.r.1 h293
                refine sr (rw_el1 (off := 3) ag23 (h294 _ (Sm.refl _ _)) rfl rfl) ?_
                obtain ⟨y299, h300, h233⟩ := bnd_some h233
                refine sc (dc_call (vs := [c297]) can17 rfl ?_)
                refine (marigraphlaw08_some_w C.sb g298 h300).mono ?_
                rintro _ w301 ⟨S302, v304, rfl, c303, h305⟩
                refine ⟨_, rfl, ?_⟩
                replace h210 := h210.cx c303
                replace h214 := h214.cx c303
                replace h255 := h255.cx c303
                replace h286 := h286.cx c303
                replace h1 := h1.cx c303
                replace C := C.trans c303
                obtain ⟨y306, h307, h233⟩ := bnd_some h233
                refine sc (dc_call (vs := [v174, v304]) can16 rfl ?_)
                refine (index_Index_Find_w C.sb h214 h305 h307).mono ?_
                rintro _ w308 ⟨S309, v311, rfl, c310, h312⟩
                refine ⟨_, rfl, ?_⟩
                have p313 := ap_fresh (fun b hb => (h312.lt b hb).1) (fun b hb => (h210.lt b hb).1)
                have p314 := ap_fresh (fun b hb => (h312.lt b hb).1) (fun b hb => (h214.lt b hb).1)
                have p315 := ap_fresh (fun b hb => (h312.lt b hb).1) (fun b hb => (h255.lt b hb).2)
                have p316 := ap_fresh (fun b hb => (h312.lt b hb).1) (fun b hb => (h286.lt b hb).2)
                replace h312 := h312.base C.up.size
                replace h210 := h210.cx c310
                replace h214 := h214.cx c310
                replace h255 := h255.cx c310
                replace h286 := h286.cx c310
                replace h1 := h1.cx c310
                replace C := C.trans c310
                refine sv (mvv (.tuple (List.toArray [v311, .int .i64 y306.2])) rfl) (sv (rv_extract rfl rfl) (sv (rv_extract rfl rfl) (sv (asv v311 rfl) (sv (asv (.int .i64 y306.2) rfl) (W.e (k291 _ _ ?_))))))
                refine cw_seq fun K317 k318 => ?_
                refine cw_region (sv (mvv v17 rfl) (sv (rv_fieldAddr st30 rfl rfl) ?_))
                obtain ⟨cs319, h320, h321⟩ := Ow.cellsO h255 (show at_ [y252] (0 : Int) = some y252 from rfl)
                obtain ⟨c322, c324, rfl, g323, g325⟩ := marigraphlaw08_Act.r.1 h320
                refine sr (rw_el1 (off := 2) ag28 (h321 _ (Sm.refl _ _)) rfl rfl) ?_
                obtain ⟨y326, h327, h233⟩ := bnd_some h233
                refine sc (dc_call (vs := [c322]) can15 rfl ?_)
                refine (marigraphlaw08_few_w C.sb g323 h327).mono ?_
                rintro _ w328 ⟨S329, v331, rfl, c330, h332⟩
                refine ⟨_, rfl, ?_⟩
                replace h210 := h210.cx c330
                replace h214 := h214.cx c330
                replace h255 := h255.cx c330
                replace h286 := h286.cx c330
                replace h312 := h312.cx c330
                replace h1 := h1.cx c330
                replace C := C.trans c330
                obtain ⟨y333, h334, h233⟩ := bnd_some h233
                refine sc (dc_call (vs := [v17, v331]) can14 rfl ?_)
                refine (index_Index_Add_w C.sb h210 h332 h334).mono ?_
                rintro _ w335 ⟨S336, cs338, fp339, rfl, c337, h340, h341⟩
                refine ⟨_, rfl, ?_⟩
                have h342 : ∀ b, b ∈ fp211 → ¬ S329 b := fun b hb => (h210.lt b hb).2
                have p343 := ap_grow p218 h341 (fun b hb => (h214.lt b hb).1)
                have p344 := ap_grow (ap_symm p250) h341 (fun b hb => (h255.lt b hb).2)
                have p345 := ap_grow (ap_symm p287) h341 (fun b hb => (h286.lt b hb).2)
                have p346 := ap_grow (ap_symm p313) h341 (fun b hb => (h312.lt b hb).2)
                have h347 : ∀ b, b ∈ fp339 → w.heap.size ≤ b := fun b hb => (h341 b hb).elim (h212 b) (fun hl => Nat.le_trans C.up.size hl)
                replace h214 := h214.cf c337 h342 (ap_symm p218)
                replace h255 := h255.cf c337 h342 p250
                replace h286 := h286.cf c337 h342 p287
                replace h312 := h312.cf c337 h342 p313
                replace h1 := h1.cf c337 h342
                replace C := C.ofc c337 (fun b hb => .inr (h212 b hb))
                refine sv (mvv (.tuple (List.toArray [.int .i64 y333.1, .int .i64 y333.2.1])) rfl) (sv (rv_extract rfl rfl) (sv (rv_extract rfl rfl) (sv (asv (.int .i64 y333.1) rfl) (sv (asv (.int .i64 y333.2.1) rfl) (W.e (k318 _ _ ?_))))))
                refine cw_seq fun K348 k349 => ?_
                refine cw_region (sv (mvv v174 rfl) (sv (rv_fieldAddr st30 rfl rfl) ?_))
                obtain ⟨cs350, h351, h352⟩ := Ow.cellsO h255 (show at_ [y252] (0 : Int) = some y252 from rfl)
                obtain ⟨c353, c355, rfl, g354, g356⟩ := marigraphlaw08_Act.r.1 h351
                refine sr (rw_el1 (off := 2) ag28 (h352 _ (Sm.refl _ _)) rfl rfl) ?_
                obtain ⟨y357, h358, h233⟩ := bnd_some h233
                refine sc (dc_call (vs := [c353]) can15 rfl ?_)
                refine (marigraphlaw08_few_w C.sb g354 h358).mono ?_
                rintro _ w359 ⟨S360, v362, rfl, c361, h363⟩
                refine ⟨_, rfl, ?_⟩
                replace h340 := h340.cx c361
                replace h214 := h214.cx c361
                replace h255 := h255.cx c361
                replace h286 := h286.cx c361
                replace h312 := h312.cx c361
                replace h1 := h1.cx c361
                replace C := C.trans c361
                obtain ⟨y364, h365, h233⟩ := bnd_some h233
                refine sc (dc_call (vs := [v174, v362]) can14 rfl ?_)
                refine (index_Index_Add_w C.sb h214 h363 h365).mono ?_
                rintro _ w366 ⟨S367, cs369, fp370, rfl, c368, h371, h372⟩
                refine ⟨_, rfl, ?_⟩
                have h373 : ∀ b, b ∈ fp215 → ¬ S360 b := fun b hb => (h214.lt b hb).2
                have p374 := ap_grow (ap_symm p343) h372 (fun b hb => (h340.lt b hb).1)
                have p375 := ap_grow (ap_symm p251) h372 (fun b hb => (h255.lt b hb).2)
                have p376 := ap_grow (ap_symm p288) h372 (fun b hb => (h286.lt b hb).2)
                have p377 := ap_grow (ap_symm p314) h372 (fun b hb => (h312.lt b hb).2)
                have h378 : ∀ b, b ∈ fp370 → w.heap.size ≤ b := fun b hb => (h372 b hb).elim (h216 b) (fun hl => Nat.le_trans C.up.size hl)
                replace h340 := h340.cf c368 h373 p343
                replace h255 := h255.cf c368 h373 p251
                replace h286 := h286.cf c368 h373 p288
                replace h312 := h312.cf c368 h373 p314
                replace h1 := h1.cf c368 h373
                replace C := C.ofc c368 (fun b hb => .inr (h216 b hb))
                refine sv (mvv (.tuple (List.toArray [.int .i64 y364.1, .int .i64 y364.2.1])) rfl) (sv (rv_extract rfl rfl) (sv (rv_extract rfl rfl) (sv (asv (.int .i64 y364.1) rfl) (sv (asv (.int .i64 y364.2.1) rfl) (W.e (k349 _ _ ?_))))))
                obtain ⟨o379, h382, h233⟩ := bnd_some h233
                refine cw_seq' (fun ρ w1 => ∃ S1 fp442 cs444 fp446 cs448, Cx No S w S1 w1 ∧ Has ρ [(5, .bool y5), (6, v17), (9, v174), (58, v1), (59, .int .i64 (a1.length : Int)), (60, .int .i64 x220), (128, .bool o379.1)] ∧ Sl (kSl marigraphlaw08_Act.k) S1 w1 v1 a1 ∧ Obo 72 index_Index.fs S1 w1 v17 o379.2.1 cs444 fp442 ∧ (∀ b, b ∈ fp442 → w.heap.size ≤ b) ∧ Obo 72 index_Index.fs S1 w1 v174 o379.2.2 cs448 fp446 ∧ (∀ b, b ∈ fp446 → w.heap.size ≤ b) ∧ (∀ b, b ∈ fp442 → ¬ b ∈ fp446)) ?_ ?_
                · refine cw_drawU (.one 0 true (.one 1 true (.one 2 false (.one 3 true (.one 4 true (.one 5 true (.one 6 true (.one 7 true (.one 8 true (.one 9 true (.one 10 true (.one 11 true (.one 12 true (.one 13 true (.one 14 true (.one 15 true (.one 16 true (.one 17 true (.one 18 true (.one 19 true (.one 20 true (.one 21 true (.one 22 true (.one 24 true (.one 25 true (.one 26 true (.one 23 false (.one 27 false (.one 28 true (.one 29 true .done)))))))))))))))))))))))))))))) [(22, [1000]), (26, [1000])] [(2, [1000]), (23, [1000]), (27, [1000])] (fun c => bif Nat.beq c 1000 then (Or S367 (Blk (.slice (some ⟨b245, 0, none⟩) 1 1))) else No) fol (by kernel_rfl) fun w383 u384 => ?_
                  replace h340 := h340.nw u384
                  replace h371 := h371.nw u384
                  replace h255 := h255.nw u384
                  replace h286 := h286.nw u384
                  replace h312 := h312.nw u384
                  replace h1 := h1.nw u384
                  replace C := C.new u384
                  have h340d := h340
                  have h371d := h371
                  have h255d := h255
                  have h286d := h286
                  have h312d := h312
                  have h1d := h1
                  have m385 := Sm.refl (Or S367 (Blk (.slice (some ⟨b245, 0, none⟩) 1 1))) w383
                  refine mtv rfl rfl (mvv v285 rfl) (mtv rfl rfl (mvv v311 rfl) ?_)
                  replace h340 := h340.or p345
                  replace h371 := h371.or p376
                  replace h255 := h255.or (ap_symm p289)
                  replace h1 := h1.or (T := Blk v285)
                  replace h312 := h312.or p316
                  replace C := C.sealO h286
                  replace h286 := h286.sealed
                  replace h340 := h340.or p346
                  replace h371 := h371.or p377
                  replace h255 := h255.or (ap_symm p315)
                  replace h1 := h1.or (T := Blk v311)
                  replace h286 := h286.or (T := Blk v311)
                  replace C := C.sealO h312
                  replace h312 := h312.sealed
                  obtain ⟨y386, h387, h382⟩ := bnd_some h382
                  refine mtc rfl rfl (dc_call (vs := [v285, v311]) can21 rfl ?_)
                  refine (marigraphref04_Ints_w C.sb h286 h312 h387).mono ?_
                  rintro _ w388 ⟨S389, rfl, c390⟩
                  refine ⟨_, rfl, ?_⟩
                  replace h340 := h340.cx c390
                  replace h371 := h371.cx c390
                  replace h255 := h255.cx c390
                  replace h1 := h1.cx c390
                  replace C := C.trans c390
                  have z391 := (c390.up).size
                  have m392 := m385.nx c390.up (by omega)
                  refine ⟨⟨m392, trivial⟩, ?_⟩
                  refine mtv rfl rfl (rv_not rfl) (mtv rfl rfl (mvv (.bool (!y386)) rfl) ?_)
                  rcases bif_some h382 with ⟨b393, h382⟩ | ⟨b393, h382⟩
                  · refine MT.n rfl rfl (gn rfl rfl rfl b393) trivial (MT.n rfl rfl (gn rfl rfl rfl b393) trivial (MT.n rfl rfl (gn rfl rfl rfl b393) trivial (mtv rfl rfl (ptk (.bool true) rfl b393 rfl) (mtv rfl rfl (mvv (.bool true) rfl) (MT.n rfl rfl (gn rfl rfl rfl rfl) trivial (MT.n rfl rfl (gn rfl rfl rfl rfl) trivial (MT.n rfl rfl (gn rfl rfl rfl rfl) trivial (mtv rfl rfl (ptk (.bool true) rfl rfl rfl) (mtv rfl rfl (mvv (.bool true) rfl) (MT.n rfl rfl (gn rfl rfl rfl rfl) trivial (MT.n rfl rfl (gn rfl rfl rfl rfl) trivial ?_)))))))))))
                    refine MT.n rfl rfl (gn rfl rfl rfl rfl) trivial (mtv rfl rfl (ptk (.bool true) rfl rfl rfl) (mtv rfl rfl (mvv (.bool true) rfl) (MT.n rfl rfl (gn rfl rfl rfl rfl) trivial (MT.n rfl rfl (gn rfl rfl rfl rfl) trivial (MT.n rfl rfl (gn rfl rfl rfl rfl) ⟨m392, trivial⟩ (MT.n rfl rfl (gn rfl rfl rfl rfl) trivial (MT.n rfl rfl (gn rfl rfl rfl rfl) trivial (MT.n rfl rfl (gn rfl rfl rfl rfl) ⟨m392, trivial⟩ (MT.m rfl rfl (gn rfl rfl rfl rfl) ⟨m392, trivial⟩ (MT.m rfl rfl (gn rfl rfl rfl rfl) ⟨m392, trivial⟩ (MT.n rfl rfl (gn rfl rfl rfl rfl) trivial ?_)))))))))))
                    refine mtv rfl rfl (ptk (.bool true) rfl rfl rfl) (MT.e ?_)
                    obtain rfl := Option.some.inj h382
                    exact ⟨_, _, _, _, _, C, ⟨rfl, rfl, rfl, rfl, rfl, rfl, rfl, trivial⟩, h1, h340, h347, h371, h378, (ap_symm p374)⟩
                  · refine MT.vv rfl rfl (gy rfl rfl rfl b393) (mvv (.int .i64 y280.2) rfl) (MT.vv rfl rfl (gy rfl rfl rfl b393) (mvv (.int .i64 y306.2) rfl) (MT.vv rfl rfl (gy rfl rfl rfl b393) (rv_neq rfl rfl) (mtv rfl rfl (pfk (.bool (y280.2 != y306.2)) rfl b393 rfl) (mtv rfl rfl (mvv (.bool (y280.2 != y306.2)) rfl) ?_))))
                    rcases bif_some h382 with ⟨b394, h382⟩ | ⟨b394, h382⟩
                    · refine MT.n rfl rfl (gn rfl rfl rfl b394) trivial (MT.n rfl rfl (gn rfl rfl rfl b394) trivial (MT.n rfl rfl (gn rfl rfl rfl b394) trivial (mtv rfl rfl (ptk (.bool true) rfl b394 rfl) (mtv rfl rfl (mvv (.bool true) rfl) (MT.n rfl rfl (gn rfl rfl rfl rfl) trivial (MT.n rfl rfl (gn rfl rfl rfl rfl) trivial (MT.n rfl rfl (gn rfl rfl rfl rfl) trivial (mtv rfl rfl (ptk (.bool true) rfl rfl rfl) (mtv rfl rfl (mvv (.bool true) rfl) (MT.n rfl rfl (gn rfl rfl rfl rfl) trivial (MT.n rfl rfl (gn rfl rfl rfl rfl) trivial ?_)))))))))))
                      refine MT.n rfl rfl (gn rfl rfl rfl rfl) ⟨m392, trivial⟩ (MT.n rfl rfl (gn rfl rfl rfl rfl) trivial (MT.n rfl rfl (gn rfl rfl rfl rfl) trivial (MT.n rfl rfl (gn rfl rfl rfl rfl) ⟨m392, trivial⟩ (MT.m rfl rfl (gn rfl rfl rfl rfl) ⟨m392, trivial⟩ (MT.m rfl rfl (gn rfl rfl rfl rfl) ⟨m392, trivial⟩ (MT.n rfl rfl (gn rfl rfl rfl rfl) trivial (mtv rfl rfl (ptk (.bool true) rfl rfl rfl) (MT.e ?_))))))))
                      obtain rfl := Option.some.inj h382
                      exact ⟨_, _, _, _, _, C, ⟨rfl, rfl, rfl, rfl, rfl, rfl, rfl, trivial⟩, h1, h340, h347, h371, h378, (ap_symm p374)⟩
                    · refine MT.vv rfl rfl (gy rfl rfl rfl b394) (mvv (.int .i64 y333.1) rfl) (MT.vv rfl rfl (gy rfl rfl rfl b394) (mvv (.int .i64 y364.1) rfl) (MT.vv rfl rfl (gy rfl rfl rfl b394) (rv_neq rfl rfl) (mtv rfl rfl (pfk (.bool (y333.1 != y364.1)) rfl b394 rfl) (mtv rfl rfl (mvv (.bool (y333.1 != y364.1)) rfl) ?_))))
                      rcases bif_some h382 with ⟨b395, h382⟩ | ⟨b395, h382⟩
                      · refine MT.n rfl rfl (gn rfl rfl rfl b395) trivial (MT.n rfl rfl (gn rfl rfl rfl b395) trivial (MT.n rfl rfl (gn rfl rfl rfl b395) trivial (mtv rfl rfl (ptk (.bool true) rfl b395 rfl) (mtv rfl rfl (mvv (.bool true) rfl) (MT.n rfl rfl (gn rfl rfl rfl rfl) trivial (MT.n rfl rfl (gn rfl rfl rfl rfl) trivial (MT.n rfl rfl (gn rfl rfl rfl rfl) ⟨m392, trivial⟩ (MT.n rfl rfl (gn rfl rfl rfl rfl) trivial (MT.n rfl rfl (gn rfl rfl rfl rfl) trivial (MT.n rfl rfl (gn rfl rfl rfl rfl) ⟨m392, trivial⟩ (MT.m rfl rfl (gn rfl rfl rfl rfl) ⟨m392, trivial⟩ ?_)))))))))))
                        refine MT.m rfl rfl (gn rfl rfl rfl rfl) ⟨m392, trivial⟩ (MT.n rfl rfl (gn rfl rfl rfl rfl) trivial (mtv rfl rfl (ptk (.bool true) rfl rfl rfl) (MT.e ?_)))
                        obtain rfl := Option.some.inj h382
                        exact ⟨_, _, _, _, _, C, ⟨rfl, rfl, rfl, rfl, rfl, rfl, rfl, trivial⟩, h1, h340, h347, h371, h378, (ap_symm p374)⟩
                      · refine MT.vv rfl rfl (gy rfl rfl rfl b395) (mvv (.int .i64 y333.2.1) rfl) (MT.vv rfl rfl (gy rfl rfl rfl b395) (mvv (.int .i64 y364.2.1) rfl) (MT.vv rfl rfl (gy rfl rfl rfl b395) (rv_neq rfl rfl) (mtv rfl rfl (pfk (.bool (y333.2.1 != y364.2.1)) rfl b395 rfl) (mtv rfl rfl (mvv (.bool (y333.2.1 != y364.2.1)) rfl) ?_))))
                        rcases bif_some h382 with ⟨b396, h382⟩ | ⟨b396, h382⟩
                        · refine MT.n rfl rfl (gn rfl rfl rfl b396) trivial (MT.n rfl rfl (gn rfl rfl rfl b396) trivial (MT.n rfl rfl (gn rfl rfl rfl b396) ⟨m392, trivial⟩ (MT.n rfl rfl (gn rfl rfl rfl b396) trivial (MT.n rfl rfl (gn rfl rfl rfl b396) trivial (MT.n rfl rfl (gn rfl rfl rfl b396) ⟨m392, trivial⟩ (MT.m rfl rfl (gn rfl rfl rfl b396) ⟨m392, trivial⟩ (MT.m rfl rfl (gn rfl rfl rfl b396) ⟨m392, trivial⟩ (MT.n rfl rfl (gn rfl rfl rfl b396) trivial (mtv rfl rfl (ptk (.bool true) rfl b396 rfl) (MT.e ?_))))))))))
                          obtain rfl := Option.some.inj h382
                          exact ⟨_, _, _, _, _, C, ⟨rfl, rfl, rfl, rfl, rfl, rfl, rfl, trivial⟩, h1, h340, h347, h371, h378, (ap_symm p374)⟩
                        · refine MT.vv rfl rfl (gy rfl rfl rfl b396) (mvv v17 rfl) (MT.vv rfl rfl (gy rfl rfl rfl b396) (rv_fieldAddr st30 rfl rfl) ?_)
                          obtain ⟨cs397, h398, h399⟩ := Ow.cellsO h255d (show at_ [y252] (0 : Int) = some y252 from rfl)
                          obtain ⟨c400, c402, rfl, g401, g403⟩ := marigraphlaw08_Act.r.1 h398
                          refine MT.r rfl rfl (gy rfl rfl rfl b396) ⟨m392, trivial⟩ (fun w' hq => rw_el1 (off := 1) ag3 (h399 w' hq.1) rfl rfl) (MT.vv rfl rfl (gy rfl rfl rfl b396) (mvv v174 rfl) (MT.vv rfl rfl (gy rfl rfl rfl b396) (rv_fieldAddr st30 rfl rfl) ?_))
                          obtain ⟨cs404, h405, h406⟩ := Ow.cellsO h255d (show at_ [y252] (0 : Int) = some y252 from rfl)
                          obtain ⟨c407, c409, rfl, g408, g410⟩ := marigraphlaw08_Act.r.1 h405
                          refine MT.r rfl rfl (gy rfl rfl rfl b396) ⟨m392, trivial⟩ (fun w' hq => rw_el1 (off := 1) ag3 (h406 w' hq.1) rfl rfl) ?_
                          obtain ⟨y411, h412, h382⟩ := bnd_some h382
                          refine MT.c rfl rfl (gy rfl rfl rfl b396) (dc_call (vs := [v17, .int .i64 y252.Id]) can13 rfl ?_)
                          refine (index_Index_Drop_w C.sb h340 h412).mono ?_
                          rintro _ w413 ⟨S414, cs416, fp417, rfl, c415, h418, h419⟩
                          refine ⟨_, rfl, ?_⟩
                          have h420 : ∀ b, b ∈ fp339 → ¬ S389 b := fun b hb => (h340.lt b hb).2
                          have p421 := ap_grow (ap_symm p374) h419 (fun b hb => (h371.lt b hb).1)
                          have h422 : ∀ b, b ∈ fp417 → w.heap.size ≤ b := fun b hb => (h419 b hb).elim (h347 b) (fun hl => Nat.le_trans C.up.size hl)
                          replace h371 := h371.cf c415 h420 p374
                          replace h1 := h1.cf c415 h420
                          replace C := C.ofc c415 (fun b hb => .inr (h347 b hb))
                          have z423 := (c415.up).size
                          have m424 := m392.wrC c415.up (by omega) (fun b hb hs => hs.elim ((fun b hb hs => h420 b hb ((fun b h => c390.ge.le b ((fun b h => Or.inl ((fun _ h => Or.inl h) b h)) b h)) b hs)) b hb) (p344 b hb))
                          refine ⟨⟨m424, trivial⟩, ?_⟩
                          obtain ⟨y425, h426, h382⟩ := bnd_some h382
                          refine MT.c rfl rfl (gy rfl rfl rfl b396) (dc_call (vs := [v174, .int .i64 y252.Id]) can13 rfl ?_)
                          refine (index_Index_Drop_w C.sb h371 h426).mono ?_
                          rintro _ w427 ⟨S428, cs430, fp431, rfl, c429, h432, h433⟩
                          refine ⟨_, rfl, ?_⟩
                          have h434 : ∀ b, b ∈ fp370 → ¬ S414 b := fun b hb => (h371.lt b hb).2
                          have p435 := ap_grow (ap_symm p421) h433 (fun b hb => (h418.lt b hb).1)
                          have h436 : ∀ b, b ∈ fp431 → w.heap.size ≤ b := fun b hb => (h433 b hb).elim (h378 b) (fun hl => Nat.le_trans C.up.size hl)
                          replace h418 := h418.cf c429 h434 p421
                          replace h1 := h1.cf c429 h434
                          replace C := C.ofc c429 (fun b hb => .inr (h378 b hb))
                          have z437 := (c429.up).size
                          have m438 := m424.wrC c429.up (by omega) (fun b hb hs => hs.elim ((fun b hb hs => h434 b hb ((fun b h => c415.ge.le b ((fun b h => c390.ge.le b ((fun b h => Or.inl ((fun _ h => Or.inl h) b h)) b h)) b h)) b hs)) b hb) (p375 b hb))
                          refine ⟨⟨m438, trivial⟩, ?_⟩
                          refine MT.vv rfl rfl (gy rfl rfl rfl b396) (rv_neq rfl rfl) (mtv rfl rfl (pfk (.bool (y411.1 != y425.1)) rfl b396 rfl) (MT.e ?_))
                          obtain rfl := Option.some.inj h382
                          exact ⟨_, _, _, _, _, C, ⟨rfl, rfl, rfl, rfl, rfl, rfl, rfl, trivial⟩, h1, h418, h422, h432, h436, (ap_symm p435)⟩
                · rintro ρ w440 ⟨S439, fp442, cs444, fp446, cs448, C, h450, h1, h441, h443, h445, h447, p449⟩
                  refine h450.cw fun ρ => ?_
                  clear h450
                  rcases bif_some h233 with ⟨b451, h233⟩ | ⟨b451, h233⟩
                  · refine cw_t rfl b451 ?_
                    refine cw_seq fun K452 k453 => ?_
                    refine cw_region (sv (asv (.bool false) rfl) (W.e (k453 _ _ (cw_ret ?_))))
                    obtain rfl := Option.some.inj h233
                    replace h224 := h224.2 _ rfl
                    obtain rfl := Option.some.inj h224
                    have h454 := congrArg some h223
                    obtain rfl := Option.some.inj h454
                    replace h := h.2 _ rfl
                    obtain rfl := Option.some.inj h
                    exact ⟨_, rfl, _, rfl, C⟩
                  · refine cw_f rfl b451 (cw_skip ?_)
                    obtain rfl := Option.some.inj h233
                    exact ⟨_, rfl, ⟨_, _, _, _, _, C, ⟨rfl, rfl, rfl, rfl, rfl, rfl, trivial⟩, h1, h441, h443, h445, h447, p449⟩⟩
            · rintro ρ w456 ⟨o230n, rfl, ⟨S455, fp458, cs460, fp462, cs464, C, h466, h1, h457, h459, h461, h463, p465⟩⟩
              replace h224 := h224.1 _ rfl
              refine h466.cw fun ρ => ?_
              clear h466
              refine cw_region ?_
              obtain ⟨y467, h468, h224⟩ := pur_some h224
              refine sv (rv_add rfl rfl h468) (sv (mvv (.int .i64 y467) rfl) (W.e ?_))
              obtain rfl := Option.some.inj h224
              exact ⟨_, rfl, ⟨_, _, _, _, _, C, ⟨rfl, rfl, rfl, rfl, rfl, rfl, trivial⟩, h1, h457, h459, h461, h463, p465⟩⟩
          · refine cw_f rfl b229 (cw_exit ?_)
            obtain rfl := Option.some.inj h224
            have h469 := congrArg some h223
            obtain rfl := Option.some.inj h469
            exact ⟨_, rfl, ⟨_, _, _, _, _, C, ⟨rfl, rfl, rfl, trivial⟩, h210, h212, h214, h216, p218⟩⟩
        · rintro ρ w471 ⟨o201n, rfl, ⟨S470, fp473, cs475, fp477, cs479, C, h481, h472, h474, h476, h478, p480⟩⟩
          replace h := h.1 _ rfl
          refine h481.cw fun ρ => ?_
          clear h481
          obtain ⟨o482, h485, h⟩ := bnd_some h
          refine cw_seq' (fun ρ w1 => ∃ S1, Cx No S w S1 w1 ∧ Has ρ [(4, .bool o482)]) ?_ ?_
          · refine cw_drawU (.one 0 true (.one 1 true (.one 2 true (.one 5 true (.one 3 false (.two 4 6 (.one 6 false (.one 7 false (.one 8 true (.one 9 true (.one 10 true .done))))) (.two 4 7 (.one 7 false (.one 8 true (.one 9 true (.one 10 true .done)))) (.one 4 false (.one 8 true (.one 9 true (.one 10 true .done))))))))))) [] [(3, []), (4, []), (6, []), (7, [])] (fun c => No) fol (by kernel_rfl) fun w486 u487 => ?_
            replace h472 := h472.nw u487
            replace h476 := h476.nw u487
            replace C := C.new u487
            have h472d := h472
            have h476d := h476
            refine mtv rfl rfl (mvv (.bool y5) rfl) (mtv rfl rfl (mvv (.bool y5) rfl) ?_)
            rcases bif_some h485 with ⟨b488, h485⟩ | ⟨b488, h485⟩
            · refine MT.vv rfl rfl (gy rfl rfl rfl b488) (mvv v17 rfl) (MT.vv rfl rfl (gy rfl rfl rfl b488) (mvv v174 rfl) ?_)
              obtain ⟨y26_3_1, h489, h485⟩ := bnd_some h485
              refine MT.c rfl rfl (gy rfl rfl rfl b488) (dc_call (vs := [v17]) can26 rfl ?_)
              refine (index_Index_Bytes_w C.sb h472 h489).mono ?_
              rintro _ w490 ⟨S491, v493, rfl, c492, h494⟩
              refine ⟨_, rfl, ?_⟩
              have p495 := ap_fresh (fun b hb => (h494.lt b hb).1) (fun b hb => (h476.lt b hb).1)
              replace h494 := h494.base C.up.size
              replace h476 := h476.cx c492
              replace C := C.trans c492
              have z496 := (c492.up).size
              refine ⟨trivial, ?_⟩
              refine MT.two ?_ ?_
              · refine MT.c rfl rfl (gy rfl rfl rfl b488) (Rw.does (rw_str h494.sealed (Sm.refl _ _) Try.underlying61 Try.underlying5 Try.underlying9 rfl) ⟨trivial, ?_⟩)
                obtain ⟨y26_6_1, h497, h485⟩ := bnd_some h485
                refine MT.c rfl rfl (gy rfl rfl rfl b488) (dc_call (vs := [v174]) can26 rfl ?_)
                refine (index_Index_Bytes_w C.sb h476 h497).mono ?_
                rintro _ w498 ⟨S499, v501, rfl, c500, h502⟩
                refine ⟨_, rfl, ?_⟩
                replace h502 := h502.base C.up.size
                replace C := C.trans c500
                have z503 := (c500.up).size
                refine ⟨trivial, ?_⟩
                refine MT.c rfl rfl (gy rfl rfl rfl b488) (Rw.does (rw_str h502.sealed (Sm.refl _ _) Try.underlying61 Try.underlying5 Try.underlying9 rfl) ⟨trivial, MT.vv rfl rfl (gy rfl rfl rfl b488) (rv_seql rfl rfl) (mtv rfl rfl (ptk (.bool (strEq (strOf y26_3_1) (strOf y26_6_1))) rfl b488 rfl) (mtv rfl rfl (asv (.bool (strEq (strOf y26_3_1) (strOf y26_6_1))) rfl) (MT.e ?_)))⟩)
                obtain rfl := Option.some.inj h485
                exact ⟨_, C, ⟨rfl, trivial⟩⟩
              · obtain ⟨y26_6_1, h504, h485⟩ := bnd_some h485
                refine MT.c rfl rfl (gy rfl rfl rfl b488) (dc_call (vs := [v174]) can26 rfl ?_)
                refine (index_Index_Bytes_w C.sb h476 h504).mono ?_
                rintro _ w505 ⟨S506, v508, rfl, c507, h509⟩
                refine ⟨_, rfl, ?_⟩
                have p510 := ap_fresh (fun b hb => (h509.lt b hb).1) (fun b hb => (h494.lt b hb).2)
                replace h509 := h509.base C.up.size
                replace h494 := h494.cx c507
                replace C := C.trans c507
                have z511 := (c507.up).size
                refine ⟨trivial, ?_⟩
                refine MT.two ?_ ?_
                · refine MT.c rfl rfl (gy rfl rfl rfl b488) (Rw.does (rw_str h494.sealed (Sm.refl _ _) Try.underlying61 Try.underlying5 Try.underlying9 rfl) ⟨trivial, MT.c rfl rfl (gy rfl rfl rfl b488) (Rw.does (rw_str h509.sealed (Sm.refl _ _) Try.underlying61 Try.underlying5 Try.underlying9 rfl) ⟨trivial, MT.vv rfl rfl (gy rfl rfl rfl b488) (rv_seql rfl rfl) (mtv rfl rfl (ptk (.bool (strEq (strOf y26_3_1) (strOf y26_6_1))) rfl b488 rfl) (mtv rfl rfl (asv (.bool (strEq (strOf y26_3_1) (strOf y26_6_1))) rfl) (MT.e ?_)))⟩)⟩)
                  obtain rfl := Option.some.inj h485
                  exact ⟨_, C, ⟨rfl, trivial⟩⟩
                · refine MT.c rfl rfl (gy rfl rfl rfl b488) (Rw.does (rw_str h509.sealed (Sm.refl _ _) Try.underlying61 Try.underlying5 Try.underlying9 rfl) ⟨trivial, MT.c rfl rfl (gy rfl rfl rfl b488) (Rw.does (rw_str h494.sealed (Sm.refl _ _) Try.underlying61 Try.underlying5 Try.underlying9 rfl) ⟨trivial, MT.vv rfl rfl (gy rfl rfl rfl b488) (rv_seql rfl rfl) (mtv rfl rfl (ptk (.bool (strEq (strOf y26_3_1) (strOf y26_6_1))) rfl b488 rfl) (mtv rfl rfl (asv (.bool (strEq (strOf y26_3_1) (strOf y26_6_1))) rfl) (MT.e ?_)))⟩)⟩)
                  obtain rfl := Option.some.inj h485
                  exact ⟨_, C, ⟨rfl, trivial⟩⟩
            · refine MT.n rfl rfl (gn rfl rfl rfl b488) trivial (MT.n rfl rfl (gn rfl rfl rfl b488) trivial (MT.m rfl rfl (gn rfl rfl rfl b488) trivial ?_))
              refine MT.two ?_ ?_
              · refine MT.m rfl rfl (gn rfl rfl rfl b488) trivial (MT.m rfl rfl (gn rfl rfl rfl b488) trivial (MT.m rfl rfl (gn rfl rfl rfl b488) trivial (MT.n rfl rfl (gn rfl rfl rfl b488) trivial (mtv rfl rfl (pfk (.bool false) rfl b488 rfl) (mtv rfl rfl (asv (.bool false) rfl) (MT.e ?_))))))
                obtain rfl := Option.some.inj h485
                exact ⟨_, C, ⟨rfl, trivial⟩⟩
              · refine MT.m rfl rfl (gn rfl rfl rfl b488) trivial ?_
                refine MT.two ?_ ?_
                · refine MT.m rfl rfl (gn rfl rfl rfl b488) trivial (MT.m rfl rfl (gn rfl rfl rfl b488) trivial (MT.n rfl rfl (gn rfl rfl rfl b488) trivial (mtv rfl rfl (pfk (.bool false) rfl b488 rfl) (mtv rfl rfl (asv (.bool false) rfl) (MT.e ?_)))))
                  obtain rfl := Option.some.inj h485
                  exact ⟨_, C, ⟨rfl, trivial⟩⟩
                · refine MT.m rfl rfl (gn rfl rfl rfl b488) trivial (MT.m rfl rfl (gn rfl rfl rfl b488) trivial (MT.n rfl rfl (gn rfl rfl rfl b488) trivial (mtv rfl rfl (pfk (.bool false) rfl b488 rfl) (mtv rfl rfl (asv (.bool false) rfl) (MT.e ?_)))))
                  obtain rfl := Option.some.inj h485
                  exact ⟨_, C, ⟨rfl, trivial⟩⟩
          · rintro ρ w513 ⟨S512, C, h514⟩
            refine h514.cw fun ρ => ?_
            clear h514
            refine cw_ret ?_
            obtain rfl := Option.some.inj h
            exact ⟨_, rfl, _, rfl, C⟩

end Go.Proofs.Ytikdgllagijidaa
