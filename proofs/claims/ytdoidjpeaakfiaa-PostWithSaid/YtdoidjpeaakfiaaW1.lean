/- What each function computes, and that the program computes it (part 1). Printed by gen.py, a program of this session. -/
import Derived.Test.YtdoidjpeaakfiaaW0
set_option linter.unusedVariables false
namespace Go.Proofs.Ytdoidjpeaakfiaa
open Go Go.Mg
noncomputable def marigraphlaw06_PostSets (a0 : List Int) (a1 : List Int) (a2 : Int) : Option Bool :=
  ((marigraphlaw06_shown).bind fun y5 => ((marigraphlaw06_some a0).bind fun y12 => ((marigraphlaw06_some a1).bind fun y19 => ((post_And y12 y19).bind fun y28 => ((post_Minus y12 y19).bind fun y37 => ((post_Or y12 y19).bind fun y46 => ((post_Or y19 y12).bind fun y55 => ((post_Or y28.1 y37.1).bind fun y64 => (((bif (y28.2 != (0 : Int)) then some true else (bif (y37.2 != (0 : Int)) then some true else (bif (y46.2 != (0 : Int)) then some true else (bif (y55.2 != (0 : Int)) then some true else (bif (y64.2 != (0 : Int)) then some true else ((marigraphref04_Ints y46.1 y55.1).bind fun y84 => (bif (!y84) then some true else ((marigraphref04_Ints y64.1 y12).bind fun y90 => (bif (!y90) then some true else (pur (IntKind.i64.wrap ((y46.1.length : Int) + (y28.1.length : Int))) fun y96 => (pur (IntKind.i64.wrap ((y12.length : Int) + (y19.length : Int))) fun y98 => some (y96 != y98)))))))))))).bind fun o75 => (bif o75 then some (.inr false) else some (.inl ()))).bind (Sum.elim (fun o71n => ((bif y5 then ((post_Has y46.1 a2).bind fun y114 => ((post_Has y12 a2).bind fun y119 => (bif y119 then (bif (y114 == true) then ((post_Has y28.1 a2).bind fun y126 => ((post_Has y12 a2).bind fun y131 => (bif y131 then ((post_Has y19 a2).bind fun y137 => (bif (y126 == y137) then ((post_Has y37.1 a2).bind fun y143 => ((post_Has y12 a2).bind fun y148 => (bif y148 then ((post_Has y19 a2).bind fun y154 => some (y143 == (!y154))) else some (y143 == false)))) else some false)) else (bif (y126 == false) then ((post_Has y37.1 a2).bind fun y160 => ((post_Has y12 a2).bind fun y165 => (bif y165 then ((post_Has y19 a2).bind fun y171 => some (y160 == (!y171))) else some (y160 == false)))) else some false)))) else some false) else ((post_Has y19 a2).bind fun y176 => (bif (y114 == y176) then ((post_Has y28.1 a2).bind fun y182 => ((post_Has y12 a2).bind fun y187 => (bif y187 then ((post_Has y19 a2).bind fun y193 => (bif (y182 == y193) then ((post_Has y37.1 a2).bind fun y199 => ((post_Has y12 a2).bind fun y204 => (bif y204 then ((post_Has y19 a2).bind fun y210 => some (y199 == (!y210))) else some (y199 == false)))) else some false)) else (bif (y182 == false) then ((post_Has y37.1 a2).bind fun y216 => ((post_Has y12 a2).bind fun y221 => (bif y221 then ((post_Has y19 a2).bind fun y227 => some (y216 == (!y227))) else some (y216 == false)))) else some false)))) else some false))))) else some false).bind fun o109 => some o109)) (fun q => some q)))))))))))
set_option maxRecDepth 100000 in
set_option maxHeartbeats 4000000 in
theorem marigraphlaw06_PostSets_w {S : Nat → Prop} {w : World} {a0 : List Int} {a1 : List Int} {a2 : Int} {v0 v1 : Value} {r : Bool} (hS : Sb S w) (h0 : Sl (kSl (kI .i64)) S w v0 a0) (h1 : Sl (kSl (kI .i64)) S w v1 a1) (h : marigraphlaw06_PostSets a0 a1 a2 = some r) :
    Calls Try.prog 9 (List.toArray [v0, v1, .int .i64 a2]) w fun e w1 => ∃ S1, e = .returned (.bool r) ∧ Cx No S w S1 w1 := by
  refine enter Try.func9 rfl (by kernel_rfl) rfl ?_
  have C := Cx.refl (F := No) hS
  unfold marigraphlaw06_PostSets at h
  refine cw_seq fun K1 k2 => ?_
  refine cw_region (sv (asv (.bool false) rfl) (W.e (k2 _ _ ?_)))
  refine cw_seq fun K3 k4 => ?_
  refine cw_region ?_
  obtain ⟨y5, h6, h⟩ := bnd_some h
  refine sc (dc_call (vs := []) can11 rfl ?_)
  refine (marigraphlaw06_shown_w C.sb  h6).mono ?_
  rintro _ w7 ⟨S8, rfl, c9⟩
  refine ⟨_, rfl, ?_⟩
  replace h0 := h0.cx c9
  replace h1 := h1.cx c9
  replace C := C.trans c9
  refine sv (asv (.bool y5) rfl) (W.e (k4 _ _ ?_))
  refine cw_seq fun K10 k11 => ?_
  refine cw_region (sv (mvv v0 rfl) ?_)
  obtain ⟨y12, h13, h⟩ := bnd_some h
  refine sc (dc_call (vs := [v0]) can15 rfl ?_)
  refine (marigraphlaw06_some_w C.sb h0 h13).mono ?_
  rintro _ w14 ⟨S15, v17, rfl, c16, h18⟩
  refine ⟨_, rfl, ?_⟩
  replace h1 := h1.cx c16
  replace C := C.trans c16
  refine sv (mvv v1 rfl) ?_
  obtain ⟨y19, h20, h⟩ := bnd_some h
  refine sc (dc_call (vs := [v1]) can15 rfl ?_)
  refine (marigraphlaw06_some_w C.sb h1 h20).mono ?_
  rintro _ w21 ⟨S22, v24, rfl, c23, h25⟩
  refine ⟨_, rfl, ?_⟩
  replace h18 := h18.cx c23
  replace C := C.trans c23
  refine sv (asv v17 rfl) (sv (asv v24 rfl) (W.e (k11 _ _ ?_)))
  refine cw_seq fun K26 k27 => ?_
  refine cw_region (sv (mvv v17 rfl) (sv (mvv v24 rfl) ?_))
  obtain ⟨y28, h29, h⟩ := bnd_some h
  refine sc (dc_call (vs := [v17, v24]) can16 rfl ?_)
  refine (post_And_w C.sb h18 h25 h29).mono ?_
  rintro _ w30 ⟨S31, v33, rfl, c32, h34⟩
  refine ⟨_, rfl, ?_⟩
  replace h18 := h18.cx c32
  replace h25 := h25.cx c32
  replace C := C.trans c32
  refine sv (mvv (.tuple (List.toArray [v33, .int .i64 y28.2])) rfl) (sv (rv_extract rfl rfl) (sv (rv_extract rfl rfl) (sv (asv v33 rfl) (sv (asv (.int .i64 y28.2) rfl) (W.e (k27 _ _ ?_))))))
  refine cw_seq fun K35 k36 => ?_
  refine cw_region (sv (mvv v17 rfl) (sv (mvv v24 rfl) ?_))
  obtain ⟨y37, h38, h⟩ := bnd_some h
  refine sc (dc_call (vs := [v17, v24]) can18 rfl ?_)
  refine (post_Minus_w C.sb h18 h25 h38).mono ?_
  rintro _ w39 ⟨S40, v42, rfl, c41, h43⟩
  refine ⟨_, rfl, ?_⟩
  replace h18 := h18.cx c41
  replace h25 := h25.cx c41
  replace h34 := h34.cx c41
  replace C := C.trans c41
  refine sv (mvv (.tuple (List.toArray [v42, .int .i64 y37.2])) rfl) (sv (rv_extract rfl rfl) (sv (rv_extract rfl rfl) (sv (asv v42 rfl) (sv (asv (.int .i64 y37.2) rfl) (W.e (k36 _ _ ?_))))))
  refine cw_seq fun K44 k45 => ?_
  refine cw_region (sv (mvv v17 rfl) (sv (mvv v24 rfl) ?_))
  obtain ⟨y46, h47, h⟩ := bnd_some h
  refine sc (dc_call (vs := [v17, v24]) can17 rfl ?_)
  refine (post_Or_w C.sb h18 h25 h47).mono ?_
  rintro _ w48 ⟨S49, v51, rfl, c50, h52⟩
  refine ⟨_, rfl, ?_⟩
  replace h18 := h18.cx c50
  replace h25 := h25.cx c50
  replace h34 := h34.cx c50
  replace h43 := h43.cx c50
  replace C := C.trans c50
  refine sv (mvv (.tuple (List.toArray [v51, .int .i64 y46.2])) rfl) (sv (rv_extract rfl rfl) (sv (rv_extract rfl rfl) (sv (asv v51 rfl) (sv (asv (.int .i64 y46.2) rfl) (W.e (k45 _ _ ?_))))))
  refine cw_seq fun K53 k54 => ?_
  refine cw_region (sv (mvv v24 rfl) (sv (mvv v17 rfl) ?_))
  obtain ⟨y55, h56, h⟩ := bnd_some h
  refine sc (dc_call (vs := [v24, v17]) can17 rfl ?_)
  refine (post_Or_w C.sb h25 h18 h56).mono ?_
  rintro _ w57 ⟨S58, v60, rfl, c59, h61⟩
  refine ⟨_, rfl, ?_⟩
  replace h18 := h18.cx c59
  replace h25 := h25.cx c59
  replace h34 := h34.cx c59
  replace h43 := h43.cx c59
  replace h52 := h52.cx c59
  replace C := C.trans c59
  refine sv (mvv (.tuple (List.toArray [v60, .int .i64 y55.2])) rfl) (sv (rv_extract rfl rfl) (sv (rv_extract rfl rfl) (sv (asv v60 rfl) (sv (asv (.int .i64 y55.2) rfl) (W.e (k54 _ _ ?_))))))
  refine cw_seq fun K62 k63 => ?_
  refine cw_region (sv (mvv v33 rfl) (sv (mvv v42 rfl) ?_))
  obtain ⟨y64, h65, h⟩ := bnd_some h
  refine sc (dc_call (vs := [v33, v42]) can17 rfl ?_)
  refine (post_Or_w C.sb h34 h43 h65).mono ?_
  rintro _ w66 ⟨S67, v69, rfl, c68, h70⟩
  refine ⟨_, rfl, ?_⟩
  replace h18 := h18.cx c68
  replace h25 := h25.cx c68
  replace h34 := h34.cx c68
  replace h43 := h43.cx c68
  replace h52 := h52.cx c68
  replace h61 := h61.cx c68
  replace C := C.trans c68
  refine sv (mvv (.tuple (List.toArray [v69, .int .i64 y64.2])) rfl) (sv (rv_extract rfl rfl) (sv (rv_extract rfl rfl) (sv (asv v69 rfl) (sv (asv (.int .i64 y64.2) rfl) (W.e (k63 _ _ ?_))))))
  obtain ⟨o71, h74, h⟩ := bnds_some h
  refine cw_seq' (fun ρ w1 => ∃ o71n, o71 = (.inl o71n) ∧ ∃ S1, Cx No S w S1 w1 ∧ Has ρ [(2, .int .i64 a2), (7, .bool y5), (8, v17), (9, v24), (10, v33), (12, v42), (14, v51)] ∧ Sl (kSl (kI .i64)) S1 w1 v17 y12 ∧ Sl (kSl (kI .i64)) S1 w1 v24 y19 ∧ Sl (kSl (kI .i64)) S1 w1 v33 y28.1 ∧ Sl (kSl (kI .i64)) S1 w1 v42 y37.1 ∧ Sl (kSl (kI .i64)) S1 w1 v51 y46.1) ?_ ?_
  · obtain ⟨o75, h78, h74⟩ := bnd_some h74
    refine cw_seq' (fun ρ w1 => ∃ S1, Cx No S w S1 w1 ∧ Has ρ [(2, .int .i64 a2), (7, .bool y5), (8, v17), (9, v24), (10, v33), (12, v42), (14, v51), (97, .bool o75)] ∧ Sl (kSl (kI .i64)) S1 w1 v17 y12 ∧ Sl (kSl (kI .i64)) S1 w1 v24 y19 ∧ Sl (kSl (kI .i64)) S1 w1 v33 y28.1 ∧ Sl (kSl (kI .i64)) S1 w1 v42 y37.1 ∧ Sl (kSl (kI .i64)) S1 w1 v51 y46.1) ?_ ?_
    · refine cw_region (sv (mvv (.int .i64 y28.2) rfl) (sv (rv_neq rfl rfl) (sv (mvv (.bool (y28.2 != (0 : Int))) rfl) ?_)))
      rcases bif_some h78 with ⟨b79, h78⟩ | ⟨b79, h78⟩
      · refine W.n (gn rfl rfl rfl b79) (W.n (gn rfl rfl rfl b79) (sv (ptk (.bool true) rfl b79 rfl) (sv (mvv (.bool true) rfl) (W.n (gn rfl rfl rfl rfl) (W.n (gn rfl rfl rfl rfl) (sv (ptk (.bool true) rfl rfl rfl) (sv (mvv (.bool true) rfl) (W.n (gn rfl rfl rfl rfl) (W.n (gn rfl rfl rfl rfl) (sv (ptk (.bool true) rfl rfl rfl) (sv (mvv (.bool true) rfl) ?_)))))))))))
        refine W.n (gn rfl rfl rfl rfl) (W.n (gn rfl rfl rfl rfl) (sv (ptk (.bool true) rfl rfl rfl) (sv (mvv (.bool true) rfl) (W.n (gn rfl rfl rfl rfl) (W.n (gn rfl rfl rfl rfl) (W.n (gn rfl rfl rfl rfl) (W.n (gn rfl rfl rfl rfl) (sv (ptk (.bool true) rfl rfl rfl) (sv (mvv (.bool true) rfl) (W.n (gn rfl rfl rfl rfl) (W.n (gn rfl rfl rfl rfl) ?_)))))))))))
        refine W.n (gn rfl rfl rfl rfl) (W.n (gn rfl rfl rfl rfl) (sv (ptk (.bool true) rfl rfl rfl) (sv (mvv (.bool true) rfl) (W.n (gn rfl rfl rfl rfl) (W.n (gn rfl rfl rfl rfl) (W.n (gn rfl rfl rfl rfl) (W.n (gn rfl rfl rfl rfl) (W.n (gn rfl rfl rfl rfl) (W.n (gn rfl rfl rfl rfl) (W.n (gn rfl rfl rfl rfl) (W.n (gn rfl rfl rfl rfl) ?_)))))))))))
        refine W.n (gn rfl rfl rfl rfl) (W.n (gn rfl rfl rfl rfl) (W.n (gn rfl rfl rfl rfl) (sv (ptk (.bool true) rfl rfl rfl) (W.e ?_))))
        obtain rfl := Option.some.inj h78
        exact ⟨_, C, ⟨rfl, rfl, rfl, rfl, rfl, rfl, rfl, rfl, trivial⟩, h18, h25, h34, h43, h52⟩
      · refine W.v (gy rfl rfl rfl b79) (mvv (.int .i64 y37.2) rfl) (W.v (gy rfl rfl rfl b79) (rv_neq rfl rfl) (sv (pfk (.bool (y37.2 != (0 : Int))) rfl b79 rfl) (sv (mvv (.bool (y37.2 != (0 : Int))) rfl) ?_)))
        rcases bif_some h78 with ⟨b80, h78⟩ | ⟨b80, h78⟩
        · refine W.n (gn rfl rfl rfl b80) (W.n (gn rfl rfl rfl b80) (sv (ptk (.bool true) rfl b80 rfl) (sv (mvv (.bool true) rfl) (W.n (gn rfl rfl rfl rfl) (W.n (gn rfl rfl rfl rfl) (sv (ptk (.bool true) rfl rfl rfl) (sv (mvv (.bool true) rfl) (W.n (gn rfl rfl rfl rfl) (W.n (gn rfl rfl rfl rfl) (sv (ptk (.bool true) rfl rfl rfl) (sv (mvv (.bool true) rfl) ?_)))))))))))
          refine W.n (gn rfl rfl rfl rfl) (W.n (gn rfl rfl rfl rfl) (W.n (gn rfl rfl rfl rfl) (W.n (gn rfl rfl rfl rfl) (sv (ptk (.bool true) rfl rfl rfl) (sv (mvv (.bool true) rfl) (W.n (gn rfl rfl rfl rfl) (W.n (gn rfl rfl rfl rfl) (W.n (gn rfl rfl rfl rfl) (W.n (gn rfl rfl rfl rfl) (sv (ptk (.bool true) rfl rfl rfl) (sv (mvv (.bool true) rfl) ?_)))))))))))
          refine W.n (gn rfl rfl rfl rfl) (W.n (gn rfl rfl rfl rfl) (W.n (gn rfl rfl rfl rfl) (W.n (gn rfl rfl rfl rfl) (W.n (gn rfl rfl rfl rfl) (W.n (gn rfl rfl rfl rfl) (W.n (gn rfl rfl rfl rfl) (W.n (gn rfl rfl rfl rfl) (W.n (gn rfl rfl rfl rfl) (W.n (gn rfl rfl rfl rfl) (W.n (gn rfl rfl rfl rfl) (sv (ptk (.bool true) rfl rfl rfl) ?_)))))))))))
          refine W.e ?_
          obtain rfl := Option.some.inj h78
          exact ⟨_, C, ⟨rfl, rfl, rfl, rfl, rfl, rfl, rfl, rfl, trivial⟩, h18, h25, h34, h43, h52⟩
        · refine W.v (gy rfl rfl rfl b80) (mvv (.int .i64 y46.2) rfl) (W.v (gy rfl rfl rfl b80) (rv_neq rfl rfl) (sv (pfk (.bool (y46.2 != (0 : Int))) rfl b80 rfl) (sv (mvv (.bool (y46.2 != (0 : Int))) rfl) ?_)))
          rcases bif_some h78 with ⟨b81, h78⟩ | ⟨b81, h78⟩
          · refine W.n (gn rfl rfl rfl b81) (W.n (gn rfl rfl rfl b81) (sv (ptk (.bool true) rfl b81 rfl) (sv (mvv (.bool true) rfl) (W.n (gn rfl rfl rfl rfl) (W.n (gn rfl rfl rfl rfl) (sv (ptk (.bool true) rfl rfl rfl) (sv (mvv (.bool true) rfl) (W.n (gn rfl rfl rfl rfl) (W.n (gn rfl rfl rfl rfl) (W.n (gn rfl rfl rfl rfl) (W.n (gn rfl rfl rfl rfl) ?_)))))))))))
            refine sv (ptk (.bool true) rfl rfl rfl) (sv (mvv (.bool true) rfl) (W.n (gn rfl rfl rfl rfl) (W.n (gn rfl rfl rfl rfl) (W.n (gn rfl rfl rfl rfl) (W.n (gn rfl rfl rfl rfl) (sv (ptk (.bool true) rfl rfl rfl) (sv (mvv (.bool true) rfl) (W.n (gn rfl rfl rfl rfl) (W.n (gn rfl rfl rfl rfl) (W.n (gn rfl rfl rfl rfl) (W.n (gn rfl rfl rfl rfl) ?_)))))))))))
            refine W.n (gn rfl rfl rfl rfl) (W.n (gn rfl rfl rfl rfl) (W.n (gn rfl rfl rfl rfl) (W.n (gn rfl rfl rfl rfl) (W.n (gn rfl rfl rfl rfl) (W.n (gn rfl rfl rfl rfl) (W.n (gn rfl rfl rfl rfl) (sv (ptk (.bool true) rfl rfl rfl) (W.e ?_))))))))
            obtain rfl := Option.some.inj h78
            exact ⟨_, C, ⟨rfl, rfl, rfl, rfl, rfl, rfl, rfl, rfl, trivial⟩, h18, h25, h34, h43, h52⟩
          · refine W.v (gy rfl rfl rfl b81) (mvv (.int .i64 y55.2) rfl) (W.v (gy rfl rfl rfl b81) (rv_neq rfl rfl) (sv (pfk (.bool (y55.2 != (0 : Int))) rfl b81 rfl) (sv (mvv (.bool (y55.2 != (0 : Int))) rfl) ?_)))
            rcases bif_some h78 with ⟨b82, h78⟩ | ⟨b82, h78⟩
            · refine W.n (gn rfl rfl rfl b82) (W.n (gn rfl rfl rfl b82) (sv (ptk (.bool true) rfl b82 rfl) (sv (mvv (.bool true) rfl) (W.n (gn rfl rfl rfl rfl) (W.n (gn rfl rfl rfl rfl) (W.n (gn rfl rfl rfl rfl) (W.n (gn rfl rfl rfl rfl) (sv (ptk (.bool true) rfl rfl rfl) (sv (mvv (.bool true) rfl) (W.n (gn rfl rfl rfl rfl) (W.n (gn rfl rfl rfl rfl) ?_)))))))))))
              refine W.n (gn rfl rfl rfl rfl) (W.n (gn rfl rfl rfl rfl) (sv (ptk (.bool true) rfl rfl rfl) (sv (mvv (.bool true) rfl) (W.n (gn rfl rfl rfl rfl) (W.n (gn rfl rfl rfl rfl) (W.n (gn rfl rfl rfl rfl) (W.n (gn rfl rfl rfl rfl) (W.n (gn rfl rfl rfl rfl) (W.n (gn rfl rfl rfl rfl) (W.n (gn rfl rfl rfl rfl) (W.n (gn rfl rfl rfl rfl) ?_)))))))))))
              refine W.n (gn rfl rfl rfl rfl) (W.n (gn rfl rfl rfl rfl) (W.n (gn rfl rfl rfl rfl) (sv (ptk (.bool true) rfl rfl rfl) (W.e ?_))))
              obtain rfl := Option.some.inj h78
              exact ⟨_, C, ⟨rfl, rfl, rfl, rfl, rfl, rfl, rfl, rfl, trivial⟩, h18, h25, h34, h43, h52⟩
            · refine W.v (gy rfl rfl rfl b82) (mvv (.int .i64 y64.2) rfl) (W.v (gy rfl rfl rfl b82) (rv_neq rfl rfl) (sv (pfk (.bool (y64.2 != (0 : Int))) rfl b82 rfl) (sv (mvv (.bool (y64.2 != (0 : Int))) rfl) ?_)))
              rcases bif_some h78 with ⟨b83, h78⟩ | ⟨b83, h78⟩
              · refine W.n (gn rfl rfl rfl b83) (W.n (gn rfl rfl rfl b83) (W.n (gn rfl rfl rfl b83) (W.n (gn rfl rfl rfl b83) (sv (ptk (.bool true) rfl b83 rfl) (sv (mvv (.bool true) rfl) (W.n (gn rfl rfl rfl rfl) (W.n (gn rfl rfl rfl rfl) (W.n (gn rfl rfl rfl rfl) (W.n (gn rfl rfl rfl rfl) (sv (ptk (.bool true) rfl rfl rfl) (sv (mvv (.bool true) rfl) ?_)))))))))))
                refine W.n (gn rfl rfl rfl rfl) (W.n (gn rfl rfl rfl rfl) (W.n (gn rfl rfl rfl rfl) (W.n (gn rfl rfl rfl rfl) (W.n (gn rfl rfl rfl rfl) (W.n (gn rfl rfl rfl rfl) (W.n (gn rfl rfl rfl rfl) (W.n (gn rfl rfl rfl rfl) (W.n (gn rfl rfl rfl rfl) (W.n (gn rfl rfl rfl rfl) (W.n (gn rfl rfl rfl rfl) (sv (ptk (.bool true) rfl rfl rfl) ?_)))))))))))
                refine W.e ?_
                obtain rfl := Option.some.inj h78
                exact ⟨_, C, ⟨rfl, rfl, rfl, rfl, rfl, rfl, rfl, rfl, trivial⟩, h18, h25, h34, h43, h52⟩
              · refine W.v (gy rfl rfl rfl b83) (mvv v51 rfl) (W.v (gy rfl rfl rfl b83) (mvv v60 rfl) ?_)
                obtain ⟨y84, h85, h78⟩ := bnd_some h78
                refine W.c (gy rfl rfl rfl b83) (dc_call (vs := [v51, v60]) can13 rfl ?_)
                refine (marigraphref04_Ints_w C.sb h52 h61 h85).mono ?_
                rintro _ w86 ⟨S87, rfl, c88⟩
                refine ⟨_, rfl, ?_⟩
                replace h18 := h18.cx c88
                replace h25 := h25.cx c88
                replace h34 := h34.cx c88
                replace h43 := h43.cx c88
                replace h52 := h52.cx c88
                replace h70 := h70.cx c88
                replace C := C.trans c88
                refine W.v (gy rfl rfl rfl b83) (rv_not rfl) (sv (pfk (.bool (!y84)) rfl b83 rfl) (sv (mvv (.bool (!y84)) rfl) ?_))
                rcases bif_some h78 with ⟨b89, h78⟩ | ⟨b89, h78⟩
                · refine W.n (gn rfl rfl rfl b89) (W.n (gn rfl rfl rfl b89) (W.n (gn rfl rfl rfl b89) (W.n (gn rfl rfl rfl b89) (sv (ptk (.bool true) rfl b89 rfl) (sv (mvv (.bool true) rfl) (W.n (gn rfl rfl rfl rfl) (W.n (gn rfl rfl rfl rfl) (W.n (gn rfl rfl rfl rfl) (W.n (gn rfl rfl rfl rfl) (W.n (gn rfl rfl rfl rfl) (W.n (gn rfl rfl rfl rfl) ?_)))))))))))
                  refine W.n (gn rfl rfl rfl rfl) (W.n (gn rfl rfl rfl rfl) (W.n (gn rfl rfl rfl rfl) (W.n (gn rfl rfl rfl rfl) (W.n (gn rfl rfl rfl rfl) (sv (ptk (.bool true) rfl rfl rfl) (W.e ?_))))))
                  obtain rfl := Option.some.inj h78
                  exact ⟨_, C, ⟨rfl, rfl, rfl, rfl, rfl, rfl, rfl, rfl, trivial⟩, h18, h25, h34, h43, h52⟩
                · refine W.v (gy rfl rfl rfl b89) (mvv v69 rfl) (W.v (gy rfl rfl rfl b89) (mvv v17 rfl) ?_)
                  obtain ⟨y90, h91, h78⟩ := bnd_some h78
                  refine W.c (gy rfl rfl rfl b89) (dc_call (vs := [v69, v17]) can13 rfl ?_)
                  refine (marigraphref04_Ints_w C.sb h70 h18 h91).mono ?_
                  rintro _ w92 ⟨S93, rfl, c94⟩
                  refine ⟨_, rfl, ?_⟩
                  replace h18 := h18.cx c94
                  replace h25 := h25.cx c94
                  replace h34 := h34.cx c94
                  replace h43 := h43.cx c94
                  replace h52 := h52.cx c94
                  replace C := C.trans c94
                  refine W.v (gy rfl rfl rfl b89) (rv_not rfl) (sv (pfk (.bool (!y90)) rfl b89 rfl) (sv (mvv (.bool (!y90)) rfl) ?_))
                  rcases bif_some h78 with ⟨b95, h78⟩ | ⟨b95, h78⟩
                  · refine W.n (gn rfl rfl rfl b95) (W.n (gn rfl rfl rfl b95) (W.n (gn rfl rfl rfl b95) (W.n (gn rfl rfl rfl b95) (W.n (gn rfl rfl rfl b95) (W.n (gn rfl rfl rfl b95) (W.n (gn rfl rfl rfl b95) (W.n (gn rfl rfl rfl b95) (W.n (gn rfl rfl rfl b95) (W.n (gn rfl rfl rfl b95) (W.n (gn rfl rfl rfl b95) (sv (ptk (.bool true) rfl b95 rfl) ?_)))))))))))
                    refine W.e ?_
                    obtain rfl := Option.some.inj h78
                    exact ⟨_, C, ⟨rfl, rfl, rfl, rfl, rfl, rfl, rfl, rfl, trivial⟩, h18, h25, h34, h43, h52⟩
                  · refine W.v (gy rfl rfl rfl b95) (mvv v51 rfl) (W.v (gy rfl rfl rfl b95) (rv_lenS el22 h52 rfl) (W.v (gy rfl rfl rfl b95) (mvv v33 rfl) (W.v (gy rfl rfl rfl b95) (rv_lenS el22 h34 rfl) ?_)))
                    obtain ⟨y96, h97, h78⟩ := pur_some h78
                    refine W.v (gy rfl rfl rfl b95) (rv_add rfl rfl h97) (W.v (gy rfl rfl rfl b95) (mvv v17 rfl) (W.v (gy rfl rfl rfl b95) (rv_lenS el22 h18 rfl) (W.v (gy rfl rfl rfl b95) (mvv v24 rfl) (W.v (gy rfl rfl rfl b95) (rv_lenS el22 h25 rfl) ?_))))
                    obtain ⟨y98, h99, h78⟩ := pur_some h78
                    refine W.v (gy rfl rfl rfl b95) (rv_add rfl rfl h99) (W.v (gy rfl rfl rfl b95) (rv_neq rfl rfl) (sv (pfk (.bool (y96 != y98)) rfl b95 rfl) (W.e ?_)))
                    obtain rfl := Option.some.inj h78
                    exact ⟨_, C, ⟨rfl, rfl, rfl, rfl, rfl, rfl, rfl, rfl, trivial⟩, h18, h25, h34, h43, h52⟩
    · rintro ρ w101 ⟨S100, C, h102, h18, h25, h34, h43, h52⟩
      refine h102.cw fun ρ => ?_
      clear h102
      rcases bif_some h74 with ⟨b103, h74⟩ | ⟨b103, h74⟩
      · refine cw_t rfl b103 ?_
        refine cw_seq fun K104 k105 => ?_
        refine cw_region (sv (asv (.bool false) rfl) (W.e (k105 _ _ (cw_ret ?_))))
        obtain rfl := Option.some.inj h74
        replace h := h.2 _ rfl
        obtain rfl := Option.some.inj h
        exact ⟨_, rfl, _, rfl, C⟩
      · refine cw_f rfl b103 (cw_skip ?_)
        obtain rfl := Option.some.inj h74
        exact ⟨_, rfl, ⟨_, C, ⟨rfl, rfl, rfl, rfl, rfl, rfl, rfl, trivial⟩, h18, h25, h34, h43, h52⟩⟩
  · rintro ρ w107 ⟨o71n, rfl, ⟨S106, C, h108, h18, h25, h34, h43, h52⟩⟩
    replace h := h.1 _ rfl
    refine h108.cw fun ρ => ?_
    clear h108
    obtain ⟨o109, h112, h⟩ := bnd_some h
    refine cw_seq' (fun ρ w1 => ∃ S1, Cx No S w S1 w1 ∧ Has ρ [(6, .bool o109)]) ?_ ?_
    · refine cw_region (sv (mvv (.bool y5) rfl) (sv (mvv (.bool y5) rfl) ?_))
      rcases bif_some h112 with ⟨b113, h112⟩ | ⟨b113, h112⟩
      · refine W.v (gy rfl rfl rfl b113) (mvv v51 rfl) (W.v (gy rfl rfl rfl b113) (mvv (.int .i64 a2) rfl) ?_)
        obtain ⟨y114, h115, h112⟩ := bnd_some h112
        refine W.c (gy rfl rfl rfl b113) (dc_call (vs := [v51, .int .i64 a2]) can27 rfl ?_)
        refine (post_Has_w C.sb h52 h115).mono ?_
        rintro _ w116 ⟨S117, rfl, c118⟩
        refine ⟨_, rfl, ?_⟩
        replace h18 := h18.cx c118
        replace h25 := h25.cx c118
        replace h34 := h34.cx c118
        replace h43 := h43.cx c118
        replace C := C.trans c118
        refine W.v (gy rfl rfl rfl b113) (mvv v17 rfl) (W.v (gy rfl rfl rfl b113) (mvv (.int .i64 a2) rfl) ?_)
        obtain ⟨y119, h120, h112⟩ := bnd_some h112
        refine W.c (gy rfl rfl rfl b113) (dc_call (vs := [v17, .int .i64 a2]) can27 rfl ?_)
        refine (post_Has_w C.sb h18 h120).mono ?_
        rintro _ w121 ⟨S122, rfl, c123⟩
        refine ⟨_, rfl, ?_⟩
        replace h18 := h18.cx c123
        replace h25 := h25.cx c123
        replace h34 := h34.cx c123
        replace h43 := h43.cx c123
        replace C := C.trans c123
        refine W.v (gy rfl rfl rfl b113) (mvv (.bool y119) rfl) ?_
        rcases bif_some h112 with ⟨b124, h112⟩ | ⟨b124, h112⟩
        · refine W.n (gn rfl rfl rfl b124) (W.n (gn rfl rfl rfl b124) (W.n (gn rfl rfl rfl b124) (W.v (gy rfl rfl rfl b113) (ptk (.bool true) rfl b124 rfl) (W.v (gy rfl rfl rfl b113) (rv_beql Try.underlying4 rfl rfl) (sv (ptk (.bool (y114 == true)) rfl b113 rfl) (sv (mvv (.bool (y114 == true)) rfl) ?_))))))
          rcases bif_some h112 with ⟨b125, h112⟩ | ⟨b125, h112⟩
          · refine W.v (gy rfl rfl rfl b125) (mvv v33 rfl) (W.v (gy rfl rfl rfl b125) (mvv (.int .i64 a2) rfl) ?_)
            obtain ⟨y126, h127, h112⟩ := bnd_some h112
            refine W.c (gy rfl rfl rfl b125) (dc_call (vs := [v33, .int .i64 a2]) can27 rfl ?_)
            refine (post_Has_w C.sb h34 h127).mono ?_
            rintro _ w128 ⟨S129, rfl, c130⟩
            refine ⟨_, rfl, ?_⟩
            replace h18 := h18.cx c130
            replace h25 := h25.cx c130
            replace h43 := h43.cx c130
            replace C := C.trans c130
            refine W.v (gy rfl rfl rfl b125) (mvv v17 rfl) (W.v (gy rfl rfl rfl b125) (mvv (.int .i64 a2) rfl) ?_)
            obtain ⟨y131, h132, h112⟩ := bnd_some h112
            refine W.c (gy rfl rfl rfl b125) (dc_call (vs := [v17, .int .i64 a2]) can27 rfl ?_)
            refine (post_Has_w C.sb h18 h132).mono ?_
            rintro _ w133 ⟨S134, rfl, c135⟩
            refine ⟨_, rfl, ?_⟩
            replace h18 := h18.cx c135
            replace h25 := h25.cx c135
            replace h43 := h43.cx c135
            replace C := C.trans c135
            refine W.v (gy rfl rfl rfl b125) (mvv (.bool y131) rfl) ?_
            rcases bif_some h112 with ⟨b136, h112⟩ | ⟨b136, h112⟩
            · refine W.v (gy rfl rfl rfl b136) (mvv v24 rfl) (W.v (gy rfl rfl rfl b136) (mvv (.int .i64 a2) rfl) ?_)
              obtain ⟨y137, h138, h112⟩ := bnd_some h112
              refine W.c (gy rfl rfl rfl b136) (dc_call (vs := [v24, .int .i64 a2]) can27 rfl ?_)
              refine (post_Has_w C.sb h25 h138).mono ?_
              rintro _ w139 ⟨S140, rfl, c141⟩
              refine ⟨_, rfl, ?_⟩
              replace h18 := h18.cx c141
              replace h25 := h25.cx c141
              replace h43 := h43.cx c141
              replace C := C.trans c141
              refine W.v (gy rfl rfl rfl b125) (ptk (.bool y137) rfl b136 rfl) (W.v (gy rfl rfl rfl b125) (rv_beql Try.underlying4 rfl rfl) (sv (ptk (.bool (y126 == y137)) rfl b125 rfl) (sv (mvv (.bool (y126 == y137)) rfl) ?_)))
              rcases bif_some h112 with ⟨b142, h112⟩ | ⟨b142, h112⟩
              · refine W.v (gy rfl rfl rfl b142) (mvv v42 rfl) (W.v (gy rfl rfl rfl b142) (mvv (.int .i64 a2) rfl) ?_)
                obtain ⟨y143, h144, h112⟩ := bnd_some h112
                refine W.c (gy rfl rfl rfl b142) (dc_call (vs := [v42, .int .i64 a2]) can27 rfl ?_)
                refine (post_Has_w C.sb h43 h144).mono ?_
                rintro _ w145 ⟨S146, rfl, c147⟩
                refine ⟨_, rfl, ?_⟩
                replace h18 := h18.cx c147
                replace h25 := h25.cx c147
                replace C := C.trans c147
                refine W.v (gy rfl rfl rfl b142) (mvv v17 rfl) (W.v (gy rfl rfl rfl b142) (mvv (.int .i64 a2) rfl) ?_)
                obtain ⟨y148, h149, h112⟩ := bnd_some h112
                refine W.c (gy rfl rfl rfl b142) (dc_call (vs := [v17, .int .i64 a2]) can27 rfl ?_)
                refine (post_Has_w C.sb h18 h149).mono ?_
                rintro _ w150 ⟨S151, rfl, c152⟩
                refine ⟨_, rfl, ?_⟩
                replace h25 := h25.cx c152
                replace C := C.trans c152
                refine W.v (gy rfl rfl rfl b142) (mvv (.bool y148) rfl) ?_
                rcases bif_some h112 with ⟨b153, h112⟩ | ⟨b153, h112⟩
                · refine W.v (gy rfl rfl rfl b153) (mvv v24 rfl) (W.v (gy rfl rfl rfl b153) (mvv (.int .i64 a2) rfl) ?_)
                  obtain ⟨y154, h155, h112⟩ := bnd_some h112
                  refine W.c (gy rfl rfl rfl b153) (dc_call (vs := [v24, .int .i64 a2]) can27 rfl ?_)
                  refine (post_Has_w C.sb h25 h155).mono ?_
                  rintro _ w156 ⟨S157, rfl, c158⟩
                  refine ⟨_, rfl, ?_⟩
                  replace C := C.trans c158
                  refine W.v (gy rfl rfl rfl b153) (rv_not rfl) (W.v (gy rfl rfl rfl b142) (ptk (.bool (!y154)) rfl b153 rfl) (W.v (gy rfl rfl rfl b142) (rv_beql Try.underlying4 rfl rfl) (sv (ptk (.bool (y143 == (!y154))) rfl b142 rfl) (sv (asv (.bool (y143 == (!y154))) rfl) (W.e ?_)))))
                  obtain rfl := Option.some.inj h112
                  exact ⟨_, C, ⟨rfl, trivial⟩⟩
                · refine W.n (gn rfl rfl rfl b153) (W.n (gn rfl rfl rfl b153) (W.n (gn rfl rfl rfl b153) (W.n (gn rfl rfl rfl b153) (W.v (gy rfl rfl rfl b142) (pfk (.bool false) rfl b153 rfl) (W.v (gy rfl rfl rfl b142) (rv_beql Try.underlying4 rfl rfl) (sv (ptk (.bool (y143 == false)) rfl b142 rfl) (sv (asv (.bool (y143 == false)) rfl) (W.e ?_))))))))
                  obtain rfl := Option.some.inj h112
                  exact ⟨_, C, ⟨rfl, trivial⟩⟩
              · refine W.n (gn rfl rfl rfl b142) (W.n (gn rfl rfl rfl b142) (W.n (gn rfl rfl rfl b142) (W.n (gn rfl rfl rfl b142) (W.n (gn rfl rfl rfl b142) (W.n (gn rfl rfl rfl b142) (W.n (gn rfl rfl rfl b142) (W.n (gu rfl rfl rfl) (W.n (gu rfl rfl rfl) (W.n (gu rfl rfl rfl) (W.n (gu rfl rfl rfl) (W.n (gn rfl rfl rfl b142) ?_)))))))))))
                refine W.n (gn rfl rfl rfl b142) (sv (pfk (.bool false) rfl b142 rfl) (sv (asv (.bool false) rfl) (W.e ?_)))
                obtain rfl := Option.some.inj h112
                exact ⟨_, C, ⟨rfl, trivial⟩⟩
            · refine W.n (gn rfl rfl rfl b136) (W.n (gn rfl rfl rfl b136) (W.n (gn rfl rfl rfl b136) (W.v (gy rfl rfl rfl b125) (pfk (.bool false) rfl b136 rfl) (W.v (gy rfl rfl rfl b125) (rv_beql Try.underlying4 rfl rfl) (sv (ptk (.bool (y126 == false)) rfl b125 rfl) (sv (mvv (.bool (y126 == false)) rfl) ?_))))))
              rcases bif_some h112 with ⟨b159, h112⟩ | ⟨b159, h112⟩
              · refine W.v (gy rfl rfl rfl b159) (mvv v42 rfl) (W.v (gy rfl rfl rfl b159) (mvv (.int .i64 a2) rfl) ?_)
                obtain ⟨y160, h161, h112⟩ := bnd_some h112
                refine W.c (gy rfl rfl rfl b159) (dc_call (vs := [v42, .int .i64 a2]) can27 rfl ?_)
                refine (post_Has_w C.sb h43 h161).mono ?_
                rintro _ w162 ⟨S163, rfl, c164⟩
                refine ⟨_, rfl, ?_⟩
                replace h18 := h18.cx c164
                replace h25 := h25.cx c164
                replace C := C.trans c164
                refine W.v (gy rfl rfl rfl b159) (mvv v17 rfl) (W.v (gy rfl rfl rfl b159) (mvv (.int .i64 a2) rfl) ?_)
                obtain ⟨y165, h166, h112⟩ := bnd_some h112
                refine W.c (gy rfl rfl rfl b159) (dc_call (vs := [v17, .int .i64 a2]) can27 rfl ?_)
                refine (post_Has_w C.sb h18 h166).mono ?_
                rintro _ w167 ⟨S168, rfl, c169⟩
                refine ⟨_, rfl, ?_⟩
                replace h25 := h25.cx c169
                replace C := C.trans c169
                refine W.v (gy rfl rfl rfl b159) (mvv (.bool y165) rfl) ?_
                rcases bif_some h112 with ⟨b170, h112⟩ | ⟨b170, h112⟩
                · refine W.v (gy rfl rfl rfl b170) (mvv v24 rfl) (W.v (gy rfl rfl rfl b170) (mvv (.int .i64 a2) rfl) ?_)
                  obtain ⟨y171, h172, h112⟩ := bnd_some h112
                  refine W.c (gy rfl rfl rfl b170) (dc_call (vs := [v24, .int .i64 a2]) can27 rfl ?_)
                  refine (post_Has_w C.sb h25 h172).mono ?_
                  rintro _ w173 ⟨S174, rfl, c175⟩
                  refine ⟨_, rfl, ?_⟩
                  replace C := C.trans c175
                  refine W.v (gy rfl rfl rfl b170) (rv_not rfl) (W.v (gy rfl rfl rfl b159) (ptk (.bool (!y171)) rfl b170 rfl) (W.v (gy rfl rfl rfl b159) (rv_beql Try.underlying4 rfl rfl) (sv (ptk (.bool (y160 == (!y171))) rfl b159 rfl) (sv (asv (.bool (y160 == (!y171))) rfl) (W.e ?_)))))
                  obtain rfl := Option.some.inj h112
                  exact ⟨_, C, ⟨rfl, trivial⟩⟩
                · refine W.n (gn rfl rfl rfl b170) (W.n (gn rfl rfl rfl b170) (W.n (gn rfl rfl rfl b170) (W.n (gn rfl rfl rfl b170) (W.v (gy rfl rfl rfl b159) (pfk (.bool false) rfl b170 rfl) (W.v (gy rfl rfl rfl b159) (rv_beql Try.underlying4 rfl rfl) (sv (ptk (.bool (y160 == false)) rfl b159 rfl) (sv (asv (.bool (y160 == false)) rfl) (W.e ?_))))))))
                  obtain rfl := Option.some.inj h112
                  exact ⟨_, C, ⟨rfl, trivial⟩⟩
              · refine W.n (gn rfl rfl rfl b159) (W.n (gn rfl rfl rfl b159) (W.n (gn rfl rfl rfl b159) (W.n (gn rfl rfl rfl b159) (W.n (gn rfl rfl rfl b159) (W.n (gn rfl rfl rfl b159) (W.n (gn rfl rfl rfl b159) (W.n (gu rfl rfl rfl) (W.n (gu rfl rfl rfl) (W.n (gu rfl rfl rfl) (W.n (gu rfl rfl rfl) (W.n (gn rfl rfl rfl b159) ?_)))))))))))
                refine W.n (gn rfl rfl rfl b159) (sv (pfk (.bool false) rfl b159 rfl) (sv (asv (.bool false) rfl) (W.e ?_)))
                obtain rfl := Option.some.inj h112
                exact ⟨_, C, ⟨rfl, trivial⟩⟩
          · refine W.n (gn rfl rfl rfl b125) (W.n (gn rfl rfl rfl b125) (W.n (gn rfl rfl rfl b125) (W.n (gn rfl rfl rfl b125) (W.n (gn rfl rfl rfl b125) (W.n (gn rfl rfl rfl b125) (W.n (gn rfl rfl rfl b125) (W.n (gu rfl rfl rfl) (W.n (gu rfl rfl rfl) (W.n (gu rfl rfl rfl) (W.n (gn rfl rfl rfl b125) (W.n (gn rfl rfl rfl b125) ?_)))))))))))
            refine sv (pfk (.bool false) rfl b125 rfl) (sv (mvv (.bool false) rfl) (W.n (gn rfl rfl rfl rfl) (W.n (gn rfl rfl rfl rfl) (W.n (gn rfl rfl rfl rfl) (W.n (gn rfl rfl rfl rfl) (W.n (gn rfl rfl rfl rfl) (W.n (gn rfl rfl rfl rfl) (W.n (gn rfl rfl rfl rfl) (W.n (gu rfl rfl rfl) (W.n (gu rfl rfl rfl) (W.n (gu rfl rfl rfl) ?_)))))))))))
            refine W.n (gu rfl rfl rfl) (W.n (gn rfl rfl rfl rfl) (W.n (gn rfl rfl rfl rfl) (sv (pfk (.bool false) rfl rfl rfl) (sv (asv (.bool false) rfl) (W.e ?_)))))
            obtain rfl := Option.some.inj h112
            exact ⟨_, C, ⟨rfl, trivial⟩⟩
        · refine W.v (gy rfl rfl rfl b124) (mvv v24 rfl) (W.v (gy rfl rfl rfl b124) (mvv (.int .i64 a2) rfl) ?_)
          obtain ⟨y176, h177, h112⟩ := bnd_some h112
          refine W.c (gy rfl rfl rfl b124) (dc_call (vs := [v24, .int .i64 a2]) can27 rfl ?_)
          refine (post_Has_w C.sb h25 h177).mono ?_
          rintro _ w178 ⟨S179, rfl, c180⟩
          refine ⟨_, rfl, ?_⟩
          replace h18 := h18.cx c180
          replace h25 := h25.cx c180
          replace h34 := h34.cx c180
          replace h43 := h43.cx c180
          replace C := C.trans c180
          refine W.v (gy rfl rfl rfl b113) (pfk (.bool y176) rfl b124 rfl) (W.v (gy rfl rfl rfl b113) (rv_beql Try.underlying4 rfl rfl) (sv (ptk (.bool (y114 == y176)) rfl b113 rfl) (sv (mvv (.bool (y114 == y176)) rfl) ?_)))
          rcases bif_some h112 with ⟨b181, h112⟩ | ⟨b181, h112⟩
          · refine W.v (gy rfl rfl rfl b181) (mvv v33 rfl) (W.v (gy rfl rfl rfl b181) (mvv (.int .i64 a2) rfl) ?_)
            obtain ⟨y182, h183, h112⟩ := bnd_some h112
            refine W.c (gy rfl rfl rfl b181) (dc_call (vs := [v33, .int .i64 a2]) can27 rfl ?_)
            refine (post_Has_w C.sb h34 h183).mono ?_
            rintro _ w184 ⟨S185, rfl, c186⟩
            refine ⟨_, rfl, ?_⟩
            replace h18 := h18.cx c186
            replace h25 := h25.cx c186
            replace h43 := h43.cx c186
            replace C := C.trans c186
            refine W.v (gy rfl rfl rfl b181) (mvv v17 rfl) (W.v (gy rfl rfl rfl b181) (mvv (.int .i64 a2) rfl) ?_)
            obtain ⟨y187, h188, h112⟩ := bnd_some h112
            refine W.c (gy rfl rfl rfl b181) (dc_call (vs := [v17, .int .i64 a2]) can27 rfl ?_)
            refine (post_Has_w C.sb h18 h188).mono ?_
            rintro _ w189 ⟨S190, rfl, c191⟩
            refine ⟨_, rfl, ?_⟩
            replace h18 := h18.cx c191
            replace h25 := h25.cx c191
            replace h43 := h43.cx c191
            replace C := C.trans c191
            refine W.v (gy rfl rfl rfl b181) (mvv (.bool y187) rfl) ?_
            rcases bif_some h112 with ⟨b192, h112⟩ | ⟨b192, h112⟩
            · refine W.v (gy rfl rfl rfl b192) (mvv v24 rfl) (W.v (gy rfl rfl rfl b192) (mvv (.int .i64 a2) rfl) ?_)
              obtain ⟨y193, h194, h112⟩ := bnd_some h112
              refine W.c (gy rfl rfl rfl b192) (dc_call (vs := [v24, .int .i64 a2]) can27 rfl ?_)
              refine (post_Has_w C.sb h25 h194).mono ?_
              rintro _ w195 ⟨S196, rfl, c197⟩
              refine ⟨_, rfl, ?_⟩
              replace h18 := h18.cx c197
              replace h25 := h25.cx c197
              replace h43 := h43.cx c197
              replace C := C.trans c197
              refine W.v (gy rfl rfl rfl b181) (ptk (.bool y193) rfl b192 rfl) (W.v (gy rfl rfl rfl b181) (rv_beql Try.underlying4 rfl rfl) (sv (ptk (.bool (y182 == y193)) rfl b181 rfl) (sv (mvv (.bool (y182 == y193)) rfl) ?_)))
              rcases bif_some h112 with ⟨b198, h112⟩ | ⟨b198, h112⟩
              · refine W.v (gy rfl rfl rfl b198) (mvv v42 rfl) (W.v (gy rfl rfl rfl b198) (mvv (.int .i64 a2) rfl) ?_)
                obtain ⟨y199, h200, h112⟩ := bnd_some h112
                refine W.c (gy rfl rfl rfl b198) (dc_call (vs := [v42, .int .i64 a2]) can27 rfl ?_)
                refine (post_Has_w C.sb h43 h200).mono ?_
                rintro _ w201 ⟨S202, rfl, c203⟩
                refine ⟨_, rfl, ?_⟩
                replace h18 := h18.cx c203
                replace h25 := h25.cx c203
                replace C := C.trans c203
                refine W.v (gy rfl rfl rfl b198) (mvv v17 rfl) (W.v (gy rfl rfl rfl b198) (mvv (.int .i64 a2) rfl) ?_)
                obtain ⟨y204, h205, h112⟩ := bnd_some h112
                refine W.c (gy rfl rfl rfl b198) (dc_call (vs := [v17, .int .i64 a2]) can27 rfl ?_)
                refine (post_Has_w C.sb h18 h205).mono ?_
                rintro _ w206 ⟨S207, rfl, c208⟩
                refine ⟨_, rfl, ?_⟩
                replace h25 := h25.cx c208
                replace C := C.trans c208
                refine W.v (gy rfl rfl rfl b198) (mvv (.bool y204) rfl) ?_
                rcases bif_some h112 with ⟨b209, h112⟩ | ⟨b209, h112⟩
                · refine W.v (gy rfl rfl rfl b209) (mvv v24 rfl) (W.v (gy rfl rfl rfl b209) (mvv (.int .i64 a2) rfl) ?_)
                  obtain ⟨y210, h211, h112⟩ := bnd_some h112
                  refine W.c (gy rfl rfl rfl b209) (dc_call (vs := [v24, .int .i64 a2]) can27 rfl ?_)
                  refine (post_Has_w C.sb h25 h211).mono ?_
                  rintro _ w212 ⟨S213, rfl, c214⟩
                  refine ⟨_, rfl, ?_⟩
                  replace C := C.trans c214
                  refine W.v (gy rfl rfl rfl b209) (rv_not rfl) (W.v (gy rfl rfl rfl b198) (ptk (.bool (!y210)) rfl b209 rfl) (W.v (gy rfl rfl rfl b198) (rv_beql Try.underlying4 rfl rfl) (sv (ptk (.bool (y199 == (!y210))) rfl b198 rfl) (sv (asv (.bool (y199 == (!y210))) rfl) (W.e ?_)))))
                  obtain rfl := Option.some.inj h112
                  exact ⟨_, C, ⟨rfl, trivial⟩⟩
                · refine W.n (gn rfl rfl rfl b209) (W.n (gn rfl rfl rfl b209) (W.n (gn rfl rfl rfl b209) (W.n (gn rfl rfl rfl b209) (W.v (gy rfl rfl rfl b198) (pfk (.bool false) rfl b209 rfl) (W.v (gy rfl rfl rfl b198) (rv_beql Try.underlying4 rfl rfl) (sv (ptk (.bool (y199 == false)) rfl b198 rfl) (sv (asv (.bool (y199 == false)) rfl) (W.e ?_))))))))
                  obtain rfl := Option.some.inj h112
                  exact ⟨_, C, ⟨rfl, trivial⟩⟩
              · refine W.n (gn rfl rfl rfl b198) (W.n (gn rfl rfl rfl b198) (W.n (gn rfl rfl rfl b198) (W.n (gn rfl rfl rfl b198) (W.n (gn rfl rfl rfl b198) (W.n (gn rfl rfl rfl b198) (W.n (gn rfl rfl rfl b198) (W.n (gu rfl rfl rfl) (W.n (gu rfl rfl rfl) (W.n (gu rfl rfl rfl) (W.n (gu rfl rfl rfl) (W.n (gn rfl rfl rfl b198) ?_)))))))))))
                refine W.n (gn rfl rfl rfl b198) (sv (pfk (.bool false) rfl b198 rfl) (sv (asv (.bool false) rfl) (W.e ?_)))
                obtain rfl := Option.some.inj h112
                exact ⟨_, C, ⟨rfl, trivial⟩⟩
            · refine W.n (gn rfl rfl rfl b192) (W.n (gn rfl rfl rfl b192) (W.n (gn rfl rfl rfl b192) (W.v (gy rfl rfl rfl b181) (pfk (.bool false) rfl b192 rfl) (W.v (gy rfl rfl rfl b181) (rv_beql Try.underlying4 rfl rfl) (sv (ptk (.bool (y182 == false)) rfl b181 rfl) (sv (mvv (.bool (y182 == false)) rfl) ?_))))))
              rcases bif_some h112 with ⟨b215, h112⟩ | ⟨b215, h112⟩
              · refine W.v (gy rfl rfl rfl b215) (mvv v42 rfl) (W.v (gy rfl rfl rfl b215) (mvv (.int .i64 a2) rfl) ?_)
                obtain ⟨y216, h217, h112⟩ := bnd_some h112
                refine W.c (gy rfl rfl rfl b215) (dc_call (vs := [v42, .int .i64 a2]) can27 rfl ?_)
                refine (post_Has_w C.sb h43 h217).mono ?_
                rintro _ w218 ⟨S219, rfl, c220⟩
                refine ⟨_, rfl, ?_⟩
                replace h18 := h18.cx c220
                replace h25 := h25.cx c220
                replace C := C.trans c220
                refine W.v (gy rfl rfl rfl b215) (mvv v17 rfl) (W.v (gy rfl rfl rfl b215) (mvv (.int .i64 a2) rfl) ?_)
                obtain ⟨y221, h222, h112⟩ := bnd_some h112
                refine W.c (gy rfl rfl rfl b215) (dc_call (vs := [v17, .int .i64 a2]) can27 rfl ?_)
                refine (post_Has_w C.sb h18 h222).mono ?_
                rintro _ w223 ⟨S224, rfl, c225⟩
                refine ⟨_, rfl, ?_⟩
                replace h25 := h25.cx c225
                replace C := C.trans c225
                refine W.v (gy rfl rfl rfl b215) (mvv (.bool y221) rfl) ?_
                rcases bif_some h112 with ⟨b226, h112⟩ | ⟨b226, h112⟩
                · refine W.v (gy rfl rfl rfl b226) (mvv v24 rfl) (W.v (gy rfl rfl rfl b226) (mvv (.int .i64 a2) rfl) ?_)
                  obtain ⟨y227, h228, h112⟩ := bnd_some h112
                  refine W.c (gy rfl rfl rfl b226) (dc_call (vs := [v24, .int .i64 a2]) can27 rfl ?_)
                  refine (post_Has_w C.sb h25 h228).mono ?_
                  rintro _ w229 ⟨S230, rfl, c231⟩
                  refine ⟨_, rfl, ?_⟩
                  replace C := C.trans c231
                  refine W.v (gy rfl rfl rfl b226) (rv_not rfl) (W.v (gy rfl rfl rfl b215) (ptk (.bool (!y227)) rfl b226 rfl) (W.v (gy rfl rfl rfl b215) (rv_beql Try.underlying4 rfl rfl) (sv (ptk (.bool (y216 == (!y227))) rfl b215 rfl) (sv (asv (.bool (y216 == (!y227))) rfl) (W.e ?_)))))
                  obtain rfl := Option.some.inj h112
                  exact ⟨_, C, ⟨rfl, trivial⟩⟩
                · refine W.n (gn rfl rfl rfl b226) (W.n (gn rfl rfl rfl b226) (W.n (gn rfl rfl rfl b226) (W.n (gn rfl rfl rfl b226) (W.v (gy rfl rfl rfl b215) (pfk (.bool false) rfl b226 rfl) (W.v (gy rfl rfl rfl b215) (rv_beql Try.underlying4 rfl rfl) (sv (ptk (.bool (y216 == false)) rfl b215 rfl) (sv (asv (.bool (y216 == false)) rfl) (W.e ?_))))))))
                  obtain rfl := Option.some.inj h112
                  exact ⟨_, C, ⟨rfl, trivial⟩⟩
              · refine W.n (gn rfl rfl rfl b215) (W.n (gn rfl rfl rfl b215) (W.n (gn rfl rfl rfl b215) (W.n (gn rfl rfl rfl b215) (W.n (gn rfl rfl rfl b215) (W.n (gn rfl rfl rfl b215) (W.n (gn rfl rfl rfl b215) (W.n (gu rfl rfl rfl) (W.n (gu rfl rfl rfl) (W.n (gu rfl rfl rfl) (W.n (gu rfl rfl rfl) (W.n (gn rfl rfl rfl b215) ?_)))))))))))
                refine W.n (gn rfl rfl rfl b215) (sv (pfk (.bool false) rfl b215 rfl) (sv (asv (.bool false) rfl) (W.e ?_)))
                obtain rfl := Option.some.inj h112
                exact ⟨_, C, ⟨rfl, trivial⟩⟩
          · refine W.n (gn rfl rfl rfl b181) (W.n (gn rfl rfl rfl b181) (W.n (gn rfl rfl rfl b181) (W.n (gn rfl rfl rfl b181) (W.n (gn rfl rfl rfl b181) (W.n (gn rfl rfl rfl b181) (W.n (gn rfl rfl rfl b181) (W.n (gu rfl rfl rfl) (W.n (gu rfl rfl rfl) (W.n (gu rfl rfl rfl) (W.n (gn rfl rfl rfl b181) (W.n (gn rfl rfl rfl b181) ?_)))))))))))
            refine sv (pfk (.bool false) rfl b181 rfl) (sv (mvv (.bool false) rfl) (W.n (gn rfl rfl rfl rfl) (W.n (gn rfl rfl rfl rfl) (W.n (gn rfl rfl rfl rfl) (W.n (gn rfl rfl rfl rfl) (W.n (gn rfl rfl rfl rfl) (W.n (gn rfl rfl rfl rfl) (W.n (gn rfl rfl rfl rfl) (W.n (gu rfl rfl rfl) (W.n (gu rfl rfl rfl) (W.n (gu rfl rfl rfl) ?_)))))))))))
            refine W.n (gu rfl rfl rfl) (W.n (gn rfl rfl rfl rfl) (W.n (gn rfl rfl rfl rfl) (sv (pfk (.bool false) rfl rfl rfl) (sv (asv (.bool false) rfl) (W.e ?_)))))
            obtain rfl := Option.some.inj h112
            exact ⟨_, C, ⟨rfl, trivial⟩⟩
      · refine W.n (gn rfl rfl rfl b113) (W.n (gn rfl rfl rfl b113) (W.n (gn rfl rfl rfl b113) (W.n (gn rfl rfl rfl b113) (W.n (gn rfl rfl rfl b113) (W.n (gn rfl rfl rfl b113) (W.n (gn rfl rfl rfl b113) (W.n (gu rfl rfl rfl) (W.n (gu rfl rfl rfl) (W.n (gu rfl rfl rfl) (W.n (gn rfl rfl rfl b113) (W.n (gn rfl rfl rfl b113) ?_)))))))))))
        refine sv (pfk (.bool false) rfl b113 rfl) (sv (mvv (.bool false) rfl) (W.n (gn rfl rfl rfl rfl) (W.n (gn rfl rfl rfl rfl) (W.n (gn rfl rfl rfl rfl) (W.n (gn rfl rfl rfl rfl) (W.n (gn rfl rfl rfl rfl) (W.n (gn rfl rfl rfl rfl) (W.n (gn rfl rfl rfl rfl) (W.n (gu rfl rfl rfl) (W.n (gu rfl rfl rfl) (W.n (gu rfl rfl rfl) ?_)))))))))))
        refine W.n (gn rfl rfl rfl rfl) (W.n (gn rfl rfl rfl rfl) (sv (pfk (.bool false) rfl rfl rfl) (sv (mvv (.bool false) rfl) (W.n (gn rfl rfl rfl rfl) (W.n (gn rfl rfl rfl rfl) (W.n (gn rfl rfl rfl rfl) (W.n (gn rfl rfl rfl rfl) (W.n (gn rfl rfl rfl rfl) (W.n (gn rfl rfl rfl rfl) (W.n (gn rfl rfl rfl rfl) (W.n (gu rfl rfl rfl) ?_)))))))))))
        refine W.n (gu rfl rfl rfl) (W.n (gu rfl rfl rfl) (W.n (gu rfl rfl rfl) (W.n (gn rfl rfl rfl rfl) (W.n (gn rfl rfl rfl rfl) (sv (pfk (.bool false) rfl rfl rfl) (sv (asv (.bool false) rfl) (W.e ?_)))))))
        obtain rfl := Option.some.inj h112
        exact ⟨_, C, ⟨rfl, trivial⟩⟩
    · rintro ρ w233 ⟨S232, C, h234⟩
      refine h234.cw fun ρ => ?_
      clear h234
      refine cw_ret ?_
      obtain rfl := Option.some.inj h
      exact ⟨_, rfl, _, rfl, C⟩

noncomputable def marigraphlaw06_PostWith (a0 : List Int) (a1 : Int) (a2 : Int) : Option Bool :=
  ((marigraphlaw06_shown).bind fun y5 => ((marigraphlaw06_some a0).bind fun y12 => ((post_With y12 a1).bind fun y21 => (bif (decide (a1 < (0 : Int))) then ((bif y5 then (bif (y21.2 == (1 : Int)) then some ((y21.1.length : Int) == (0 : Int)) else some false) else some false).bind fun o33 => some o33) else ((post_With y21.1 a1).bind fun y44 => ((bif y5 then (bif (y21.2 == (0 : Int)) then (bif (y44.2 == (0 : Int)) then ((post_Has y21.1 a1).bind fun y58 => (bif y58 then (bif (a2 == a1) then ((marigraphref04_Ints y21.1 y44.1).bind fun y65 => (bif y65 then ((post_Right y21.1).bind fun y71 => some y71) else some false)) else ((post_Has y21.1 a2).bind fun y76 => ((post_Has y12 a2).bind fun y81 => (bif (y76 == y81) then ((marigraphref04_Ints y21.1 y44.1).bind fun y87 => (bif y87 then ((post_Right y21.1).bind fun y93 => some y93) else some false)) else some false)))) else some false)) else some false) else some false) else some false).bind fun o51 => some o51))))))
set_option maxRecDepth 100000 in
set_option maxHeartbeats 4000000 in
theorem marigraphlaw06_PostWith_w {S : Nat → Prop} {w : World} {a0 : List Int} {a1 : Int} {a2 : Int} {v0 : Value} {r : Bool} (hS : Sb S w) (h0 : Sl (kSl (kI .i64)) S w v0 a0) (h : marigraphlaw06_PostWith a0 a1 a2 = some r) :
    Calls Try.prog 10 (List.toArray [v0, .int .i64 a1, .int .i64 a2]) w fun e w1 => ∃ S1, e = .returned (.bool r) ∧ Cx No S w S1 w1 := by
  refine enter Try.func10 rfl (by kernel_rfl) rfl ?_
  have C := Cx.refl (F := No) hS
  unfold marigraphlaw06_PostWith at h
  refine cw_seq fun K1 k2 => ?_
  refine cw_region (sv (asv (.bool false) rfl) (W.e (k2 _ _ ?_)))
  refine cw_seq fun K3 k4 => ?_
  refine cw_region ?_
  obtain ⟨y5, h6, h⟩ := bnd_some h
  refine sc (dc_call (vs := []) can11 rfl ?_)
  refine (marigraphlaw06_shown_w C.sb  h6).mono ?_
  rintro _ w7 ⟨S8, rfl, c9⟩
  refine ⟨_, rfl, ?_⟩
  replace h0 := h0.cx c9
  replace C := C.trans c9
  refine sv (asv (.bool y5) rfl) (W.e (k4 _ _ ?_))
  refine cw_seq fun K10 k11 => ?_
  refine cw_region (sv (mvv v0 rfl) ?_)
  obtain ⟨y12, h13, h⟩ := bnd_some h
  refine sc (dc_call (vs := [v0]) can15 rfl ?_)
  refine (marigraphlaw06_some_w C.sb h0 h13).mono ?_
  rintro _ w14 ⟨S15, v17, rfl, c16, h18⟩
  refine ⟨_, rfl, ?_⟩
  replace C := C.trans c16
  refine sv (asv v17 rfl) (W.e (k11 _ _ ?_))
  refine cw_seq fun K19 k20 => ?_
  refine cw_region (sv (mvv v17 rfl) (sv (mvv (.int .i64 a1) rfl) ?_))
  obtain ⟨y21, h22, h⟩ := bnd_some h
  refine sc (dc_call (vs := [v17, .int .i64 a1]) can20 rfl ?_)
  refine (post_With_w C.sb h18 h22).mono ?_
  rintro _ w23 ⟨S24, v26, rfl, c25, h27⟩
  refine ⟨_, rfl, ?_⟩
  replace h18 := h18.cx c25
  replace C := C.trans c25
  refine sv (mvv (.tuple (List.toArray [v26, .int .i64 y21.2])) rfl) (sv (rv_extract rfl rfl) (sv (rv_extract rfl rfl) (sv (asv v26 rfl) (sv (asv (.int .i64 y21.2) rfl) (W.e (k20 _ _ ?_))))))
  refine cw_seq fun K28 k29 => ?_
  refine cw_seq fun K30 k31 => ?_
  refine cw_region (sv (mvv (.int .i64 a1) rfl) (sv (rv_lss rfl rfl) (W.e (k31 _ _ ?_))))
  rcases bif_some h with ⟨b32, h⟩ | ⟨b32, h⟩
  · refine cw_t rfl b32 ?_
    obtain ⟨o33, h36, h⟩ := bnd_some h
    refine cw_seq' (fun ρ w1 => ∃ S1, Cx No S w S1 w1 ∧ Has ρ [(6, .bool o33)]) ?_ ?_
    · refine cw_region (sv (mvv (.bool y5) rfl) (sv (mvv (.bool y5) rfl) ?_))
      rcases bif_some h36 with ⟨b37, h36⟩ | ⟨b37, h36⟩
      · refine W.v (gy rfl rfl rfl b37) (mvv (.int .i64 y21.2) rfl) (W.v (gy rfl rfl rfl b37) (rv_eql rfl rfl) (sv (ptk (.bool (y21.2 == (1 : Int))) rfl b37 rfl) (sv (mvv (.bool (y21.2 == (1 : Int))) rfl) ?_)))
        rcases bif_some h36 with ⟨b38, h36⟩ | ⟨b38, h36⟩
        · refine W.v (gy rfl rfl rfl b38) (mvv v26 rfl) (W.v (gy rfl rfl rfl b38) (rv_lenS el22 h27 rfl) (W.v (gy rfl rfl rfl b38) (rv_eql rfl rfl) (sv (ptk (.bool ((y21.1.length : Int) == (0 : Int))) rfl b38 rfl) (sv (asv (.bool ((y21.1.length : Int) == (0 : Int))) rfl) (W.e ?_)))))
          obtain rfl := Option.some.inj h36
          exact ⟨_, C, ⟨rfl, trivial⟩⟩
        · refine W.n (gn rfl rfl rfl b38) (W.n (gn rfl rfl rfl b38) (W.n (gn rfl rfl rfl b38) (sv (pfk (.bool false) rfl b38 rfl) (sv (asv (.bool false) rfl) (W.e ?_)))))
          obtain rfl := Option.some.inj h36
          exact ⟨_, C, ⟨rfl, trivial⟩⟩
      · refine W.n (gn rfl rfl rfl b37) (W.n (gn rfl rfl rfl b37) (sv (pfk (.bool false) rfl b37 rfl) (sv (mvv (.bool false) rfl) (W.n (gn rfl rfl rfl rfl) (W.n (gn rfl rfl rfl rfl) (W.n (gn rfl rfl rfl rfl) (sv (pfk (.bool false) rfl rfl rfl) (sv (asv (.bool false) rfl) (W.e ?_)))))))))
        obtain rfl := Option.some.inj h36
        exact ⟨_, C, ⟨rfl, trivial⟩⟩
    · rintro ρ w40 ⟨S39, C, h41⟩
      refine h41.cw fun ρ => ?_
      clear h41
      refine cw_ret ?_
      obtain rfl := Option.some.inj h
      exact ⟨_, rfl, _, rfl, C⟩
  · refine cw_f rfl b32 (cw_skip (k29 _ _ ?_))
    refine cw_seq fun K42 k43 => ?_
    refine cw_region (sv (mvv v26 rfl) (sv (mvv (.int .i64 a1) rfl) ?_))
    obtain ⟨y44, h45, h⟩ := bnd_some h
    refine sc (dc_call (vs := [v26, .int .i64 a1]) can20 rfl ?_)
    refine (post_With_w C.sb h27 h45).mono ?_
    rintro _ w46 ⟨S47, v49, rfl, c48, h50⟩
    refine ⟨_, rfl, ?_⟩
    replace h18 := h18.cx c48
    replace h27 := h27.cx c48
    replace C := C.trans c48
    refine sv (mvv (.tuple (List.toArray [v49, .int .i64 y44.2])) rfl) (sv (rv_extract rfl rfl) (sv (rv_extract rfl rfl) (sv (asv v49 rfl) (sv (asv (.int .i64 y44.2) rfl) (W.e (k43 _ _ ?_))))))
    obtain ⟨o51, h54, h⟩ := bnd_some h
    refine cw_seq' (fun ρ w1 => ∃ S1, Cx No S w S1 w1 ∧ Has ρ [(6, .bool o51)]) ?_ ?_
    · refine cw_region (sv (mvv (.bool y5) rfl) (sv (mvv (.bool y5) rfl) ?_))
      rcases bif_some h54 with ⟨b55, h54⟩ | ⟨b55, h54⟩
      · refine W.v (gy rfl rfl rfl b55) (mvv (.int .i64 y21.2) rfl) (W.v (gy rfl rfl rfl b55) (rv_eql rfl rfl) (sv (ptk (.bool (y21.2 == (0 : Int))) rfl b55 rfl) (sv (mvv (.bool (y21.2 == (0 : Int))) rfl) ?_)))
        rcases bif_some h54 with ⟨b56, h54⟩ | ⟨b56, h54⟩
        · refine W.v (gy rfl rfl rfl b56) (mvv (.int .i64 y44.2) rfl) (W.v (gy rfl rfl rfl b56) (rv_eql rfl rfl) (sv (ptk (.bool (y44.2 == (0 : Int))) rfl b56 rfl) (sv (mvv (.bool (y44.2 == (0 : Int))) rfl) ?_)))
          rcases bif_some h54 with ⟨b57, h54⟩ | ⟨b57, h54⟩
          · refine W.v (gy rfl rfl rfl b57) (mvv v26 rfl) (W.v (gy rfl rfl rfl b57) (mvv (.int .i64 a1) rfl) ?_)
            obtain ⟨y58, h59, h54⟩ := bnd_some h54
            refine W.c (gy rfl rfl rfl b57) (dc_call (vs := [v26, .int .i64 a1]) can27 rfl ?_)
            refine (post_Has_w C.sb h27 h59).mono ?_
            rintro _ w60 ⟨S61, rfl, c62⟩
            refine ⟨_, rfl, ?_⟩
            replace h18 := h18.cx c62
            replace h27 := h27.cx c62
            replace h50 := h50.cx c62
            replace C := C.trans c62
            refine sv (ptk (.bool y58) rfl b57 rfl) (sv (mvv (.bool y58) rfl) ?_)
            rcases bif_some h54 with ⟨b63, h54⟩ | ⟨b63, h54⟩
            · refine W.v (gy rfl rfl rfl b63) (mvv (.int .i64 a2) rfl) (W.v (gy rfl rfl rfl b63) (mvv (.int .i64 a1) rfl) (W.v (gy rfl rfl rfl b63) (rv_eql rfl rfl) (W.v (gy rfl rfl rfl b63) (mvv (.bool (a2 == a1)) rfl) ?_)))
              rcases bif_some h54 with ⟨b64, h54⟩ | ⟨b64, h54⟩
              · refine W.n (gn rfl rfl rfl b64) (W.n (gn rfl rfl rfl b64) (W.n (gn rfl rfl rfl b64) (W.n (gn rfl rfl rfl b64) (W.n (gn rfl rfl rfl b64) (W.n (gn rfl rfl rfl b64) (W.n (gn rfl rfl rfl b64) (W.v (gy rfl rfl rfl b63) (ptk (.bool true) rfl b64 rfl) (sv (ptk (.bool true) rfl b63 rfl) (sv (mvv (.bool true) rfl) (W.v (gy rfl rfl rfl rfl) (mvv v26 rfl) (W.v (gy rfl rfl rfl rfl) (mvv v49 rfl) ?_)))))))))))
                obtain ⟨y65, h66, h54⟩ := bnd_some h54
                refine W.c (gy rfl rfl rfl rfl) (dc_call (vs := [v26, v49]) can13 rfl ?_)
                refine (marigraphref04_Ints_w C.sb h27 h50 h66).mono ?_
                rintro _ w67 ⟨S68, rfl, c69⟩
                refine ⟨_, rfl, ?_⟩
                replace h27 := h27.cx c69
                replace C := C.trans c69
                refine sv (ptk (.bool y65) rfl rfl rfl) (sv (mvv (.bool y65) rfl) ?_)
                rcases bif_some h54 with ⟨b70, h54⟩ | ⟨b70, h54⟩
                · refine W.v (gy rfl rfl rfl b70) (mvv v26 rfl) ?_
                  obtain ⟨y71, h72, h54⟩ := bnd_some h54
                  refine W.c (gy rfl rfl rfl b70) (dc_call (vs := [v26]) can14 rfl ?_)
                  refine (post_Right_w C.sb h27 h72).mono ?_
                  rintro _ w73 ⟨S74, rfl, c75⟩
                  refine ⟨_, rfl, ?_⟩
                  replace C := C.trans c75
                  refine sv (ptk (.bool y71) rfl b70 rfl) (sv (asv (.bool y71) rfl) (W.e ?_))
                  obtain rfl := Option.some.inj h54
                  exact ⟨_, C, ⟨rfl, trivial⟩⟩
                · refine W.n (gn rfl rfl rfl b70) (W.n (gn rfl rfl rfl b70) (sv (pfk (.bool false) rfl b70 rfl) (sv (asv (.bool false) rfl) (W.e ?_))))
                  obtain rfl := Option.some.inj h54
                  exact ⟨_, C, ⟨rfl, trivial⟩⟩
              · refine W.v (gy rfl rfl rfl b64) (mvv v26 rfl) (W.v (gy rfl rfl rfl b64) (mvv (.int .i64 a2) rfl) ?_)
                obtain ⟨y76, h77, h54⟩ := bnd_some h54
                refine W.c (gy rfl rfl rfl b64) (dc_call (vs := [v26, .int .i64 a2]) can27 rfl ?_)
                refine (post_Has_w C.sb h27 h77).mono ?_
                rintro _ w78 ⟨S79, rfl, c80⟩
                refine ⟨_, rfl, ?_⟩
                replace h18 := h18.cx c80
                replace h27 := h27.cx c80
                replace h50 := h50.cx c80
                replace C := C.trans c80
                refine W.v (gy rfl rfl rfl b64) (mvv v17 rfl) (W.v (gy rfl rfl rfl b64) (mvv (.int .i64 a2) rfl) ?_)
                obtain ⟨y81, h82, h54⟩ := bnd_some h54
                refine W.c (gy rfl rfl rfl b64) (dc_call (vs := [v17, .int .i64 a2]) can27 rfl ?_)
                refine (post_Has_w C.sb h18 h82).mono ?_
                rintro _ w83 ⟨S84, rfl, c85⟩
                refine ⟨_, rfl, ?_⟩
                replace h27 := h27.cx c85
                replace h50 := h50.cx c85
                replace C := C.trans c85
                refine W.v (gy rfl rfl rfl b64) (rv_beql Try.underlying4 rfl rfl) (W.v (gy rfl rfl rfl b63) (pfk (.bool (y76 == y81)) rfl b64 rfl) (sv (ptk (.bool (y76 == y81)) rfl b63 rfl) (sv (mvv (.bool (y76 == y81)) rfl) ?_)))
                rcases bif_some h54 with ⟨b86, h54⟩ | ⟨b86, h54⟩
                · refine W.v (gy rfl rfl rfl b86) (mvv v26 rfl) (W.v (gy rfl rfl rfl b86) (mvv v49 rfl) ?_)
                  obtain ⟨y87, h88, h54⟩ := bnd_some h54
                  refine W.c (gy rfl rfl rfl b86) (dc_call (vs := [v26, v49]) can13 rfl ?_)
                  refine (marigraphref04_Ints_w C.sb h27 h50 h88).mono ?_
                  rintro _ w89 ⟨S90, rfl, c91⟩
                  refine ⟨_, rfl, ?_⟩
                  replace h27 := h27.cx c91
                  replace C := C.trans c91
                  refine sv (ptk (.bool y87) rfl b86 rfl) (sv (mvv (.bool y87) rfl) ?_)
                  rcases bif_some h54 with ⟨b92, h54⟩ | ⟨b92, h54⟩
                  · refine W.v (gy rfl rfl rfl b92) (mvv v26 rfl) ?_
                    obtain ⟨y93, h94, h54⟩ := bnd_some h54
                    refine W.c (gy rfl rfl rfl b92) (dc_call (vs := [v26]) can14 rfl ?_)
                    refine (post_Right_w C.sb h27 h94).mono ?_
                    rintro _ w95 ⟨S96, rfl, c97⟩
                    refine ⟨_, rfl, ?_⟩
                    replace C := C.trans c97
                    refine sv (ptk (.bool y93) rfl b92 rfl) (sv (asv (.bool y93) rfl) (W.e ?_))
                    obtain rfl := Option.some.inj h54
                    exact ⟨_, C, ⟨rfl, trivial⟩⟩
                  · refine W.n (gn rfl rfl rfl b92) (W.n (gn rfl rfl rfl b92) (sv (pfk (.bool false) rfl b92 rfl) (sv (asv (.bool false) rfl) (W.e ?_))))
                    obtain rfl := Option.some.inj h54
                    exact ⟨_, C, ⟨rfl, trivial⟩⟩
                · refine W.n (gn rfl rfl rfl b86) (W.n (gn rfl rfl rfl b86) (W.n (gn rfl rfl rfl b86) (sv (pfk (.bool false) rfl b86 rfl) (sv (mvv (.bool false) rfl) (W.n (gn rfl rfl rfl rfl) (W.n (gn rfl rfl rfl rfl) (sv (pfk (.bool false) rfl rfl rfl) (sv (asv (.bool false) rfl) (W.e ?_)))))))))
                  obtain rfl := Option.some.inj h54
                  exact ⟨_, C, ⟨rfl, trivial⟩⟩
            · refine W.n (gn rfl rfl rfl b63) (W.n (gn rfl rfl rfl b63) (W.n (gn rfl rfl rfl b63) (W.n (gn rfl rfl rfl b63) (W.n (gu rfl rfl rfl) (W.n (gu rfl rfl rfl) (W.n (gu rfl rfl rfl) (W.n (gu rfl rfl rfl) (W.n (gu rfl rfl rfl) (W.n (gu rfl rfl rfl) (W.n (gu rfl rfl rfl) (W.n (gn rfl rfl rfl b63) ?_)))))))))))
              refine sv (pfk (.bool false) rfl b63 rfl) (sv (mvv (.bool false) rfl) (W.n (gn rfl rfl rfl rfl) (W.n (gn rfl rfl rfl rfl) (W.n (gn rfl rfl rfl rfl) (sv (pfk (.bool false) rfl rfl rfl) (sv (mvv (.bool false) rfl) (W.n (gn rfl rfl rfl rfl) (W.n (gn rfl rfl rfl rfl) (sv (pfk (.bool false) rfl rfl rfl) (sv (asv (.bool false) rfl) (W.e ?_)))))))))))
              obtain rfl := Option.some.inj h54
              exact ⟨_, C, ⟨rfl, trivial⟩⟩
          · refine W.n (gn rfl rfl rfl b57) (W.n (gn rfl rfl rfl b57) (W.n (gn rfl rfl rfl b57) (sv (pfk (.bool false) rfl b57 rfl) (sv (mvv (.bool false) rfl) (W.n (gn rfl rfl rfl rfl) (W.n (gn rfl rfl rfl rfl) (W.n (gn rfl rfl rfl rfl) (W.n (gn rfl rfl rfl rfl) (W.n (gu rfl rfl rfl) (W.n (gu rfl rfl rfl) (W.n (gu rfl rfl rfl) ?_)))))))))))
            refine W.n (gu rfl rfl rfl) (W.n (gu rfl rfl rfl) (W.n (gu rfl rfl rfl) (W.n (gu rfl rfl rfl) (W.n (gn rfl rfl rfl rfl) (sv (pfk (.bool false) rfl rfl rfl) (sv (mvv (.bool false) rfl) (W.n (gn rfl rfl rfl rfl) (W.n (gn rfl rfl rfl rfl) (W.n (gn rfl rfl rfl rfl) (sv (pfk (.bool false) rfl rfl rfl) (sv (mvv (.bool false) rfl) ?_)))))))))))
            refine W.n (gn rfl rfl rfl rfl) (W.n (gn rfl rfl rfl rfl) (sv (pfk (.bool false) rfl rfl rfl) (sv (asv (.bool false) rfl) (W.e ?_))))
            obtain rfl := Option.some.inj h54
            exact ⟨_, C, ⟨rfl, trivial⟩⟩
        · refine W.n (gn rfl rfl rfl b56) (W.n (gn rfl rfl rfl b56) (sv (pfk (.bool false) rfl b56 rfl) (sv (mvv (.bool false) rfl) (W.n (gn rfl rfl rfl rfl) (W.n (gn rfl rfl rfl rfl) (W.n (gn rfl rfl rfl rfl) (sv (pfk (.bool false) rfl rfl rfl) (sv (mvv (.bool false) rfl) (W.n (gn rfl rfl rfl rfl) (W.n (gn rfl rfl rfl rfl) (W.n (gn rfl rfl rfl rfl) ?_)))))))))))
          refine W.n (gn rfl rfl rfl rfl) (W.n (gu rfl rfl rfl) (W.n (gu rfl rfl rfl) (W.n (gu rfl rfl rfl) (W.n (gu rfl rfl rfl) (W.n (gu rfl rfl rfl) (W.n (gu rfl rfl rfl) (W.n (gu rfl rfl rfl) (W.n (gn rfl rfl rfl rfl) (sv (pfk (.bool false) rfl rfl rfl) (sv (mvv (.bool false) rfl) (W.n (gn rfl rfl rfl rfl) ?_)))))))))))
          refine W.n (gn rfl rfl rfl rfl) (W.n (gn rfl rfl rfl rfl) (sv (pfk (.bool false) rfl rfl rfl) (sv (mvv (.bool false) rfl) (W.n (gn rfl rfl rfl rfl) (W.n (gn rfl rfl rfl rfl) (sv (pfk (.bool false) rfl rfl rfl) (sv (asv (.bool false) rfl) (W.e ?_))))))))
          obtain rfl := Option.some.inj h54
          exact ⟨_, C, ⟨rfl, trivial⟩⟩
      · refine W.n (gn rfl rfl rfl b55) (W.n (gn rfl rfl rfl b55) (sv (pfk (.bool false) rfl b55 rfl) (sv (mvv (.bool false) rfl) (W.n (gn rfl rfl rfl rfl) (W.n (gn rfl rfl rfl rfl) (sv (pfk (.bool false) rfl rfl rfl) (sv (mvv (.bool false) rfl) (W.n (gn rfl rfl rfl rfl) (W.n (gn rfl rfl rfl rfl) (W.n (gn rfl rfl rfl rfl) (sv (pfk (.bool false) rfl rfl rfl) ?_)))))))))))
        refine sv (mvv (.bool false) rfl) (W.n (gn rfl rfl rfl rfl) (W.n (gn rfl rfl rfl rfl) (W.n (gn rfl rfl rfl rfl) (W.n (gn rfl rfl rfl rfl) (W.n (gu rfl rfl rfl) (W.n (gu rfl rfl rfl) (W.n (gu rfl rfl rfl) (W.n (gu rfl rfl rfl) (W.n (gu rfl rfl rfl) (W.n (gu rfl rfl rfl) (W.n (gu rfl rfl rfl) ?_)))))))))))
        refine W.n (gn rfl rfl rfl rfl) (sv (pfk (.bool false) rfl rfl rfl) (sv (mvv (.bool false) rfl) (W.n (gn rfl rfl rfl rfl) (W.n (gn rfl rfl rfl rfl) (W.n (gn rfl rfl rfl rfl) (sv (pfk (.bool false) rfl rfl rfl) (sv (mvv (.bool false) rfl) (W.n (gn rfl rfl rfl rfl) (W.n (gn rfl rfl rfl rfl) (sv (pfk (.bool false) rfl rfl rfl) (sv (asv (.bool false) rfl) ?_)))))))))))
        refine W.e ?_
        obtain rfl := Option.some.inj h54
        exact ⟨_, C, ⟨rfl, trivial⟩⟩
    · rintro ρ w99 ⟨S98, C, h100⟩
      refine h100.cw fun ρ => ?_
      clear h100
      refine cw_ret ?_
      obtain rfl := Option.some.inj h
      exact ⟨_, rfl, _, rfl, C⟩

end Go.Proofs.Ytdoidjpeaakfiaa
